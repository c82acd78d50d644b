/-
  A STORE INTO AN OWNER's ELEMENTS: it is sound where its address is known; what is known of addresses.
-/
import Derived.Test.YtpiggpgocnlomaaLkB
set_option linter.unusedVariables false
namespace Go.Ab
open Go
variable {P : Program} {H : Hints} {f : FuncId} {w w' : World} {X : Cx}

theorem upd_at {ys : List V} {p : Path} {E : List V} {r : Nat} {y : V} (h : updF ys p (E.getD r .undef) = some y) : E[r]? = some (E.getD r .undef) := by
  rw [List.getD_eq_getElem?_getD] at h ⊢
  cases hr : E[r]? with
  | some x => rfl
  | none =>
    rw [hr] at h
    simp only [Option.getD_none] at h
    cases p with
    | nil => simp [updF] at h
    | cons a p => obtain ⟨j, o, s⟩ := a; simp [updF] at h

theorem run_store {a : Act} {t : TypeId} {d : Tmp} {xo : Operand} {b k : Nat} {arr : Array Value} {ty : TypeId} (hs0 : P.cellsOf t ≠ 0) (hd : a.tmps.getD d undef = .pointer (some ⟨b, k, none⟩)) (ha : w.heap[b]? = some (.cells arr ty (0, 0)))
    (hl : (a.eval xo).cells.toList.length = P.cellsOf t) (hle : k + (a.eval xo).cells.toList.length ≤ arr.size) (hones : ∀ c ∈ (a.eval xo).cells.toList, c.oneCell' = true) :
    (Instr.storeAt t (a.eval (.tmp d)) (a.eval xo)).run P w = .ok () (w.setRow b (rowAt arr k (a.eval xo).cells.toList)) := by
  have hv : a.eval (.tmp d) = .pointer (some ⟨b, k, none⟩) := hd
  have hst := run_storeCells_at (P := P) b k ty (a.eval xo).cells.toList 0 arr w ha (by omega) hones
  simp only [Nat.add_zero] at hst
  rw [hv]
  have : ¬ ((a.eval xo).cells.size ≠ P.cellsOf t) := by rw [← hl]; simp
  simp only [Instr.storeAt, Instr.sureAddr, Sem.run_bind, Sem.run_pure, Result.andThen_ok, storeVar, run_sizeOf' hs0, if_neg this]
  exact hst

theorem lookB_some_set {st : St} {q : Root} {c c' : List V} {E : List V} (hL : st.L = []) (hq : st.box q = some c) (q' : Root) :
    ({ st with E := E, B := setB (hardB st.B) q.slot c' } : St).box q' = if q' = q then some c' else (st.box q').map (List.map V.hard) := by
  have hq0 : q.lvl = 0 ∧ lookB st.B q.slot = some c := by
    rw [box_L0 hL] at hq
    split at hq
    · rename_i h0; exact ⟨h0, hq⟩
    · cases hq
  rw [box_L0 (st := ({ st with E := E, B := setB (hardB st.B) q.slot c' } : St)) hL, box_L0 hL]
  simp only [lookB_setB, lookB_hard]
  by_cases h0 : q'.lvl = 0
  · rw [if_pos h0, if_pos h0]
    by_cases hs : q'.slot = q.slot
    · have : q' = q := by
        obtain ⟨l, s⟩ := q'; obtain ⟨l', s'⟩ := q
        simp only at h0 hs hq0
        rw [h0, hs, hq0.1]
      rw [if_pos hs, if_pos this, hq0.2]; rfl
    · rw [if_neg hs, if_neg (fun e => hs (by rw [e]))]
  · rw [if_neg h0, if_neg h0, if_neg (fun e => h0 (by rw [e]; exact hq0.1))]; rfl

theorem ls_ok {w0 : World} {X0 : Cx} {Md : Md} {n : Nat} {ops : Array Oper} {s : Nat} {o : Oper} {st st' : St} {a : Act} {O : Pl → List Nat} (h : Rel st a.tmps w X O) (hF : Fr w0 X0 Md n st w X O) (hz : n = 0 → ∀ b e fz, X0.ω b = some (e, fz) → fz = true) (hM : MarkOk w0 w X a.defers)
    {t : TypeId} {d : Tmp} {xo : Operand} (hop : o.op = .store t (.tmp d) xo)
    (hpath : ∀ rt p, lkPath P H f ops st.E ops.size s d = some (rt, p, true) → ∃ v0 b k, RootVal w X a.tmps rt v0 ∧ a.tmps.getD d undef = .pointer (some ⟨b, k, none⟩) ∧ PtrR w v0 p b k)
    (hx : lsStep P H f ops s o st = some st') :
    o.dst = none ∧ o.guard = none ∧ ∃ w' b, (Instr.storeAt t (a.eval (.tmp d)) (a.eval xo)).run P w = .ok () w' ∧ Wrote w X w' b ∧ w'.heap.size = w.heap.size ∧ ∃ O', Rel st' a.tmps w' X O' ∧ Fr w0 X0 Md n st' w' X O' ∧ MarkOk w0 w' X a.defers := by
  unfold lsStep at hx
  rw [hop] at hx
  simp only at hx
  split at hx
  · rename_i hcond
    simp only [Bool.and_eq_true, decide_eq_true_eq, List.isEmpty_iff, Option.isNone_iff_eq_none] at hcond
    obtain ⟨⟨⟨⟨⟨⟨⟨⟨hL, hnl⟩, hdst⟩, hgd⟩, hnd⟩, hs0⟩, hxl⟩, hxo⟩, hxp⟩ := hcond
    have htk : takes H f o = true := by simp [takes, hop, takesOp]
    have hops : o.op.operands.toList = [.tmp d, xo] := by rw [hop]; rfl
    obtain ⟨Oin, hrep, hs, hlin⟩ := rel_operands (H := H) (f := f) h o o.op.operands.toList (fun _ => hnd)
    rw [hops] at hrep
    simp only [List.map_cons, List.map_nil, RepL] at hrep
    obtain ⟨u1, vs1, O1, O2, hu1, rfl, hr1, u, vs2, Ox, O4, hu2, rfl, hrx, rfl, rfl⟩ := hrep
    simp only [List.cons.injEq] at hu1
    obtain ⟨rfl, rfl⟩ := hu1
    simp only [List.cons.injEq, and_true] at hu2
    subst hu2
    simp only [List.append_nil] at hs hlin
    have hin : ∀ k ∈ Ox, ∃ t ∈ tmpsOf o, k ∈ O (.tmp t) := fun k hk => (hs k (by simp [hk])).2
    have hlx : Lin Ox := hlin.right
    obtain ⟨hcells, hones⟩ := rep_cells hxo hrx
    have hul : (a.eval xo).cells.toList.length = (rd H f o st.E xo).cells.length := (repL_length _ _ _ hcells).symm
    have hyp : ptrsL (rd H f o st.E xo).cells = [] := cells_ptrs hxp
    refine ⟨hdst, hgd, ?_⟩
    have hplx : ∀ pl : Pl, (∀ t ∈ tmpsOf o, pl ≠ .tmp t) → Lin (O pl ++ Ox) := fun pl hpl k => by
      rw [List.count_append]
      have h2 := h.lin pl k; have h3 := hlx k
      by_cases hk : k ∈ Ox
      · have : (O pl).count k = 0 := List.count_eq_zero.2 fun hkp => by
          obtain ⟨t', ht', hkt⟩ := hin k hk
          exact h.dis pl (.tmp t') (hpl t' ht') k hkp hkt
        omega
      · have := List.count_eq_zero.2 hk; omega
    split at hx
    · -- the owner is a temporary
      rename_i r p hlk
      obtain ⟨v0, b, k, hroot, hptr, hpr⟩ := hpath _ _ hlk
      split at hx
      · cases hx
      · rename_i hrT
        have hrT' : r ∉ tmpsOf o := by simpa using hrT
        split at hx
        · rename_i y hy
          split at hx
          · cases hx
          · rename_i hsoft
            have hsoft : y.soft = false := by simpa using hsoft
            simp only [Option.some.injEq] at hx
            subst hx
            have hE := upd_at hy
            obtain ⟨v1, hv1, hr0⟩ := h.env r _ hE
            have : v1 = v0 := by
              simp only [RootVal] at hroot
              rw [← hroot, Array.getD_eq_getD_getElem?, hv1]; rfl
            subst this
            cases p with
            | nil => exact hpr.elim
            | cons q p =>
              obtain ⟨j, o', s'⟩ := q
              obtain ⟨off, len, cap, hsl, hj, rfl⟩ := hpr
              rw [reverse_snoc] at hy
              have hpl : ∀ t ∈ tmpsOf o, Pl.tmp r ≠ .tmp t := fun t' ht' e => hrT' (by cases e; exact ht')
              obtain ⟨hbO, _, hω, ⟨arr, ty, harr, hsize⟩, hy1, hyp', hk⟩ := upd_ok hcells hxo hyp _ _ _ _ _ hy hsoft hr0 (hplx _ hpl) hsl
              obtain ⟨hW, hcell, hobj⟩ := wrote_row (X := X) (k := off + j * s' + o') (yv := (a.eval xo).cells.toList) hω harr (by rw [hul]; exact hsize)
              obtain ⟨A, hA, hcnt⟩ := hk _ hW (by rw [← hul]; exact hcell) hobj
              refine ⟨_, b, run_store hs0 hptr harr (by rw [hul]; exact hxl) (by rw [hul]; exact hsize) hones, hW, by simp, ?_⟩
              refine ls_state h hF hz hM hL hnl hW (by simp) rfl rfl rfl hin hlx hpl hbO (by simp [dullAt_length]) hL ?_ (fun q => ?_) (fun q c' hq => ?_)
              · intro t' x' hx'
                simp only [List.getElem?_set] at hx'
                by_cases hrt : r = t'
                · subst hrt
                  rw [if_pos rfl] at hx'
                  split at hx'
                  · cases hx'
                    exact .inr ⟨rfl, hyp', v1, hv1, A, hA, hcnt⟩
                  · cases hx'
                · rw [if_neg hrt, List.getElem?_map] at hx'
                  obtain ⟨x0, h2, rfl⟩ := Option.map_eq_some_iff.1 hx'
                  exact .inl ⟨fun e => hrt (by cases e; rfl), x0, h2, rfl⟩
              · rw [box_L0 (st := ({ st with E := _, B := hardB st.B } : St)) hL, box_L0 hL]
                simp only [lookB_hard]
                split
                · simp
                · rfl
              · rw [box_L0 (st := ({ st with E := _, B := hardB st.B } : St)) hL] at hq
                rw [box_L0 hL]
                simp only [lookB_hard] at hq
                split at hq
                · rename_i h0
                  obtain ⟨c, hc, rfl⟩ := Option.map_eq_some_iff.1 hq
                  exact ⟨c, by rw [if_pos h0]; exact hc, .inl ⟨by simp, rfl⟩⟩
                · cases hq
        · cases hx
    · -- the owner is in a box
      rename_i q off0 p hlk
      obtain ⟨v0, b, k, ⟨bq, hβ, hroot⟩, hptr, hpr⟩ := hpath _ _ hlk
      split at hx
      · rename_i cs hcs
        split at hx
        · rename_i z hz0
          split at hx
          · rename_i y hy
            split at hx
            · cases hx
            · rename_i hsoft
              have hsoft : y.soft = false := by simpa using hsoft
              simp only [Option.some.injEq] at hx
              subst hx
              obtain ⟨bq', hβ', hlt, hωq, hbx⟩ := h.box q cs hcs
              rw [hβ] at hβ'; cases hβ'
              have hq0 : q.lvl = 0 ∧ lookB st.B q.slot = some cs := by
                have := hcs
                rw [box_L0 hL] at this
                split at this
                · rename_i h0; exact ⟨h0, this⟩
                · cases this
              have hlp : isLp cs = false := lookB_noLp hnl hq0.2
              obtain ⟨arrq, tyq, harrq, hlq⟩ := hbx.cells hlp
              obtain ⟨uz, A1, Oz, A2, hOq, hrz, huz, hclose⟩ := repL_hardHole off0 hlq hz0
              have hv0 : uz = v0 := by
                simp only [World.cell?, harrq] at hroot
                have h2 : arrq[off0]? = some uz := by simpa using huz
                rw [h2] at hroot; exact Option.some.inj hroot
              subst hv0
              cases p with
              | nil => exact hpr.elim
              | cons e p =>
                obtain ⟨j, o', s'⟩ := e
                obtain ⟨off, len, cap, hsl, hj, rfl⟩ := hpr
                rw [reverse_snoc] at hy
                have hpl : ∀ t ∈ tmpsOf o, Pl.box q ≠ .tmp t := fun t' ht' e => by cases e
                have hlinz : Lin (Oz ++ Ox) := fun k => by
                  have := hplx (.box q) hpl k
                  rw [hOq] at this
                  simp only [List.count_append] at this ⊢; omega
                obtain ⟨hbO, _, hω, ⟨arr, ty, harr, hsize⟩, hy1, hyp', hk⟩ := upd_ok hcells hxo hyp _ _ _ _ _ hy hsoft hrz hlinz hsl
                obtain ⟨hW, hcell, hobj⟩ := wrote_row (X := X) (k := off + j * s' + o') (yv := (a.eval xo).cells.toList) hω harr (by rw [hul]; exact hsize)
                obtain ⟨A, hA, hcnt⟩ := hk _ hW (by rw [← hul]; exact hcell) hobj
                have hlq0 := h.lin (.box q) b
                rw [hOq] at hlq0
                simp only [List.count_append] at hlq0
                have hbz := List.count_pos_iff.2 hbO
                obtain ⟨C, hC, hCc⟩ := hclose _ b y A hW (fun hm => by have := List.count_pos_iff.2 hm; omega) (fun hm => by have := List.count_pos_iff.2 hm; omega) hA
                refine ⟨_, b, run_store hs0 hptr harr (by rw [hul]; exact hxl) (by rw [hul]; exact hsize) hones, hW, by simp, ?_⟩
                refine ls_state (pl := .box q) h hF hz hM hL hnl hW (by simp) rfl rfl rfl hin hlx hpl (by rw [hOq]; simp [hbO]) (by simp [dullAt_length]) hL ?_ (fun q' => ?_) (fun q' c' hq => ?_)
                · intro t' x' hx'
                  simp only [List.getElem?_map] at hx'
                  obtain ⟨x0, h2, rfl⟩ := Option.map_eq_some_iff.1 hx'
                  exact .inl ⟨by simp, x0, h2, rfl⟩
                · rw [lookB_some_set hL hcs]
                  split
                  · rename_i e; rw [e, hcs]; rfl
                  · simp
                · rw [lookB_some_set hL hcs] at hq
                  split at hq
                  · rename_i e
                    subst e
                    cases hq
                    refine ⟨cs, hcs, .inr ⟨rfl, ?_, fun r hr => ?_, fun vals hvals hcellq => ?_⟩⟩
                    · exact isLp_rep hC
                    · obtain ⟨x, hx, hr2⟩ := mem_ptrsL.1 hr
                      rcases List.mem_or_eq_of_mem_set hx with hx | rfl
                      · exact hardL_ptrs (mem_ptrsL.2 ⟨x, hx, hr2⟩)
                      · rw [hyp'] at hr2; simp at hr2
                    · have : vals = arrq.toList := by
                        apply List.ext_getElem?
                        intro i
                        have := hcellq bq hβ i
                        simp only [World.cell?, harrq] at this
                        rw [← this]; simp
                      subst this
                      refine ⟨C, hC, fun k => ?_⟩
                      have := hCc k; have := hcnt k
                      rw [hOq]
                      simp only [List.count_append]; omega
                  · rename_i hne
                    obtain ⟨c, hc, rfl⟩ := Option.map_eq_some_iff.1 hq
                    exact ⟨c, hc, .inl ⟨fun e => hne (by cases e; rfl), rfl⟩⟩
          · cases hx
        · cases hx
      · cases hx
    · cases hx
  · cases hx
end Go.Ab
