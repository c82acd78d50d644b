/-
  CODE IS SOUND.
-/
import Derived.Test.YtpiggpgocnlomaaAbU
set_option linter.unusedVariables false
namespace Go.Ab
open Go
variable {P : Program} {H : Hints} {f : FuncId} {C : Orc} {w : World} {X : Cx}

theorem FOk.fence {F : Fence} {X0 : Cx} {Md : Md} {n : Nat} (h : FOk F X0 Md n) : F = Fence.wide ∨ ∃ l, F = Fence.wide.inRound l := by
  rcases h.1 with h | ⟨r, l, h, _⟩
  · exact .inl h
  · exact .inr ⟨l, h⟩

theorem act_eta (a : Act) : ({ tmps := a.tmps, defers := a.defers } : Act) = a := rfl

theorem vcall_keepE {g : FuncId} {args : List V} {st s : St} {z : V} (h : vcall C g args st = some (z, s)) : s.E = st.E := by
  unfold vcall at h
  split at h
  · split at h
    · cases h; rfl
    · cases h
  · split at h
    · split at h
      · split at h
        · cases h; rfl
        · cases h
      · cases h
    · cases h

/-- the loop's record is laid -/
theorem enter_ok {F : Fence} {w0 : World} {X0 : Cx} {Md : Md} {n : Nat} {st : St} {a : Act} (hF : FOk F X0 Md n) (hS : SimD w0 X0 Md n st a w) (fn : FuncId) {ps : Array Tmp} {t : Tmp} {ts : List Tmp} (hps : ps.toList = t :: ts) {as bo : Code} (hnb : lookB st.B t = none) :
    ∃ l mark w1 X1 O1, (Instr.enterLoop fn a.tmps ps as bo F.round).run P w = .ok (l, mark) w1 ∧ Rel { st with B := (t, [.lp .ready none f (st.E.map V.dull) (t :: ts) as bo]) :: st.B } a.tmps w1 X1 O1 ∧
      Fr w0 X0 Md n { st with B := (t, [.lp .ready none f (st.E.map V.dull) (t :: ts) as bo]) :: st.B } w1 X1 O1 ∧ MarkOk w0 w1 X1 (mark ++ a.defers) ∧ X1.β ⟨st.L.length, t⟩ = some l := by
  obtain ⟨X, O, h, hFr, hM⟩ := hS
  -- laying the record in a world
  have lay : ∀ (w' : World) (O' : Pl → List Nat) (df : Nat), Rel st a.tmps w' X O' → Fr w0 X0 Md n st w' X O' →
      Rel { st with B := (t, [.lp .ready none f (st.E.map V.dull) (t :: ts) as bo]) :: st.B } a.tmps (w'.alloc (.loop { state := .ready, pending := none, fn, tmps := a.tmps, params := ps, assign := as, body := bo, defers := df })) (X.setβ ⟨st.L.length, t⟩ w'.heap.size) (addO O' ⟨st.L.length, t⟩ []) ∧
      Fr w0 X0 Md n { st with B := (t, [.lp .ready none f (st.E.map V.dull) (t :: ts) as bo]) :: st.B } (w'.alloc (.loop { state := .ready, pending := none, fn, tmps := a.tmps, params := ps, assign := as, body := bo, defers := df })) (X.setβ ⟨st.L.length, t⟩ w'.heap.size) (addO O' ⟨st.L.length, t⟩ []) := by
    intro w' O' df h' hFr'
    have hptr : ∀ r ∈ ptrsL [V.lp .ready none f (st.E.map V.dull) (t :: ts) as bo], (st.box r).isSome = true := fun r hr => by
      have : r ∈ ptrsL (st.E.map V.dull) := by simpa [ptrsL, V.ptrs] using hr
      exact h'.ptrE r (ptrs_dullE this)
    refine ⟨h'.addBox hnb (.inr ⟨.ready, none, f, st.E.map V.dull, t :: ts, as, bo, _, rfl, heap_alloc_new w' _, rfl, rfl, rfl, hps, rfl, rfl, ?_, rfl⟩) hptr, Fr.addBox h' hFr' hnb⟩
    refine RepL.ext (ext_setβ (R := ptrsL (st.E.map V.dull)) (fun hm => ?_) h'.dom (fun k hk => heap_alloc_old w' _ hk)) _ _ _ (fun _ h => h) (by simp) (repL_env h')
    have := h'.ptrE _ (ptrs_dullE hm)
    simp [St.box, hnb] at this
  have mk : ∀ (w' : World) (D : List Deferred) (o : Obj), MarkOk w0 w' X D → MarkOk w0 (w'.alloc o) (X.setβ ⟨st.L.length, t⟩ w'.heap.size) D := fun w' D o hM' =>
    hM'.of fun k hk _ _ => ⟨heap_alloc_old w' _ (Array.getElem?_eq_some_iff.1 hk).1, rfl⟩
  rcases hF.1 with rfl | ⟨r, l, rfl, hrl, hβ, hkd⟩
  · -- outermost
    have heff : Eff w X (w.alloc (.deferred (some []))) X [] :=
      ⟨by simp, fun b hb _ => heap_alloc_old w _ hb, fun _ _ _ => rfl, by simp, rfl, fun b e fz hb => by have := h.dom b e fz hb; simp; omega, rfl, rfl, rfl⟩
    have h1 := h.put (T := []) (Oin := []) (O' := []) (z := .undef) (v := undef) none (by simp) heff (by simp [Rep]) Lin.nil (by simp) (by simp [V.ptrs])
    have hF1 := Fr.put (z := .undef) h hFr (T := []) (Oin := []) (O' := []) none (by simp) heff (by simp)
    change Rel st a.tmps _ X _ at h1
    change Fr w0 X0 Md n st _ X _ at hF1
    obtain ⟨h2, hF2⟩ := lay _ _ w.heap.size h1 hF1
    refine ⟨_, _, _, _, _, run_enterLoop_outer fn a.tmps ps as bo, h2, hF2, mk _ _ _ ?_, by simp [Cx.setβ]⟩
    obtain ⟨ks, hD, hnd, hks⟩ := hM
    refine ⟨w.heap.size :: ks, by rw [hD]; rfl, ?_, fun k hk => ?_⟩
    · refine List.nodup_cons.2 ⟨fun hm => ?_, hnd⟩
      have := (Array.getElem?_eq_some_iff.1 (hks _ hm).2.1).1
      omega
    · rcases List.mem_cons.1 hk with rfl | hk
      · refine ⟨hFr.size, heap_alloc_new w _, ?_⟩
        cases hω : X.ω w.heap.size with
        | none => rfl
        | some p => have := h.dom w.heap.size p.1 p.2 hω; omega
      · obtain ⟨h3, h4, h5⟩ := hks k hk
        exact ⟨h3, by rw [heap_alloc_old w _ (Array.getElem?_eq_some_iff.1 h4).1]; exact h4, h5⟩
  · -- within a round
    have hb : X.β r = some l := by rw [hFr.β r hrl, hβ]
    have hk := hFr.live r hrl
    rw [hkd] at hk
    obtain ⟨c, hc, hlp⟩ := Option.map_eq_some_iff.1 hk
    obtain ⟨b, hb', _, _, hbx⟩ := h.box r c hc
    rw [hb] at hb'; cases hb'
    have hlo : ∃ lo, w.heap[l]? = some (.loop lo) := by
      rcases hbx with ⟨cs, t, _, h2⟩ | ⟨s, pe, g, env, ps, asg, body, lo, _, h1, _⟩
      · rw [isLp_rep h2] at hlp; cases hlp
      · exact ⟨lo, h1⟩
    obtain ⟨lo, hlo⟩ := hlo
    obtain ⟨h2, hF2⟩ := lay w O lo.defers h hFr
    exact ⟨_, _, _, _, _, run_enterLoop_inner hlo fn a.tmps ps as bo, h2, hF2, mk _ _ _ hM, by simp [Cx.setβ]⟩

theorem rangeFunc_ok (hC : OrcOk P C) {bid : Nat} {g : Operand} {ps : Array Tmp} {as bo : Code} {st st' : St} {e : Ex} (hx : ex P H C f bid (.rangeFunc g ps as bo) st = some (e, st')) : CodeOk P (.rangeFunc g ps as bo) st e st' := by
  intro F w0 X0 Md n a w hFO hS
  show (Code.rangeFunc g ps as bo).wpIn F 0 P _ a w
  simp only [ex] at hx
  split at hx
  · rename_i h first cap t ts hfv hps
    split at hx
    · rename_i hnb
      have hnb : lookB st.B t = none := by simpa using hnb
      split at hx
      · rename_i z s hcall
        split at hx
        · rename_i hok
          refine wpIn_rangeFunc fun fn hfn => ?_
          obtain ⟨l, mark, w1, X1, O1, hent, hR1, hF1, hM1, hβ1⟩ := enter_ok (P := P) (f := f) hFO hS fn hps (as := as) (bo := bo) hnb
          obtain ⟨X, O, hR, hFr, _⟩ := hS
          -- the function's value
          have hg := rd_default (H := H) (f := f) hR1 g
          have hE1 : ({ st with B := (t, [.lp .ready none f (st.E.map V.dull) (t :: ts) as bo]) :: st.B } : St).E = st.E := rfl
          rw [hE1, hfv] at hg
          simp only [Rep] at hg
          obtain ⟨va, vc, A1, A2, hgv, hA, ha1, ha2⟩ := hg
          simp only [List.nil_eq, List.append_eq_nil_iff] at hA
          obtain ⟨rfl, rfl⟩ := hA
          -- a new base
          obtain ⟨Md2, hF3, _, lift⟩ := rebase' (df := mark ++ a.defers) hR1 hF1 hM1
          have hlen : st.L.length = n := hFr.lev
          have hr0 : st.box ⟨st.L.length, t⟩ = none := by simp [St.box, hnb]
          have hyl : ({ st with B := (t, [.lp .ready none f (st.E.map V.dull) (t :: ts) as bo]) :: st.B } : St).box ⟨st.L.length, t⟩ = some [.lp .ready none f (st.E.map V.dull) (t :: ts) as bo] := by
            rw [box_cons, if_pos rfl]
          have hargs : RepL w1 X1 (first ++ [.yld ⟨st.L.length, t⟩] ++ cap) (va ++ [.func (.yield l) #[] #[]] ++ vc) [] := by
            have h2 : RepL w1 X1 [.yld ⟨st.L.length, t⟩] [.func (.yield l) #[] #[]] [] := by
              simp only [RepL, Rep]
              exact ⟨_, _, [], [], rfl, rfl, ⟨rfl, l, hβ1, rfl⟩, rfl, rfl⟩
            exact repL_append (repL_append ha1 h2) ha2
          have hcall' : vcall C h (first ++ [.yld ⟨st.L.length, t⟩] ++ cap) { st with B := (t, [.lp .ready none f (st.E.map V.dull) (t :: ts) as bo]) :: st.B } = some (z, s) := hcall
          have hdoes := call_ok (d := none) hC.call hR1 hF3 (T := []) rfl hargs (by simp) Lin.nil (fun q hq => by
            rw [ptrsL_append, ptrsL_append] at hq
            simp only [List.mem_append] at hq
            have hin : ∀ q, q ∈ (rd H f default st.E g).ptrs → (({ st with B := (t, [.lp .ready none f (st.E.map V.dull) (t :: ts) as bo]) :: st.B } : St).box q).isSome = true := fun q hq => hR1.ptrE q (rd_ptrs (E := st.E) hq)
            rcases hq with (hq | hq) | hq
            · exact hin q (by rw [hfv]; simp [V.ptrs, hq])
            · simp only [ptrsL, V.ptrs, List.append_nil, List.mem_singleton] at hq
              subst hq; rw [hyl]; rfl
            · exact hin q (by rw [hfv]; simp [V.ptrs, hq])) hcall'
          rcases hdoes with ⟨hent2, hcalls⟩ | ⟨hno, _⟩
          · have hres : (resolve a.eval (rangeCall g l) 0).run P w1 = .ok { target := .fn (.func h) vc.toArray, args := va.toArray ++ #[.func (.yield l) #[] #[]] } w1 := by
              simp only [resolve, hgv, Deferred.ofValue, Sem.run_pure]
              congr 3
              simp [Act.eval]
            have harr : (va ++ [Value.func (.yield l) #[] #[]] ++ vc).toArray = va.toArray ++ #[Value.func (.yield l) #[] #[]] ++ vc.toArray := by apply Array.ext'; simp
            rw [harr] at hent2 hcalls
            refine ⟨l, mark, w1, _, w1, h, _, w1, hent, hres, fun _ _ => fn_wide hFO.fence _, hent2, fun hd => by rcases hFO.fence with rfl | ⟨l, rfl⟩ <;> simp [Fence.wide, Fence.inRound] at hd, ?_⟩
            have hpost : CallsIn Fence.wide (0 - 1) P h (va.toArray ++ #[.func (.yield l) #[] #[]] ++ vc.toArray) w1 (rangePost F 0 P l (fun e' a' w' => e' = e.exit' ∧ SimD w0 X0 Md n st' a' w') { a with defers := mark ++ a.defers }) := by
              refine callsIn_wide.2 (hcalls.mono ?_)
              rintro e1 w3 ⟨v, rfl, X4, O4, hR4, hF4, hβ4⟩
              change Rel s a.tmps w3 X4 O4 at hR4
              change Fr w1 X1 Md2 n s w3 X4 O4 at hF4
              have hsE : s.E = st.E := (vcall_keepE hcall' :)
              have hsL : s.L.length = st.L.length := by rw [hF4.lev, hlen]
              have hb4 : X4.β ⟨st.L.length, t⟩ = some l := by rw [hβ4 _ (Nat.le_refl _), hβ1]
              have key : ∀ s0 pe g0 env0 ps0 as0 bo0, lookB s.B t = some [.lp s0 pe g0 env0 ps0 as0 bo0] → s0 ≠ .busy →
                  ∃ w4, (Instr.endLoop l).run P w3 = .ok pe w4 ∧ SimD w0 X0 Md n { st with L := s.L, B := clearB [t] s.B } { a with defers := mark ++ a.defers } w4 := by
                intro s0 pe g0 env0 ps0 as0 bo0 hl0 hnbusy
                have hbx : s.box ⟨st.L.length, t⟩ = some [.lp s0 pe g0 env0 ps0 as0 bo0] := by
                  unfold St.box; rw [if_pos hsL.symm]; exact hl0
                obtain ⟨lo, hw, hst0, hpe0, _, _, _, _, _, hset⟩ := lp_set hR4 hF4 hbx hb4
                obtain ⟨hR5, hF5⟩ := hset .exhausted pe
                have hrun := run_endLoop (P := P) hw (by rw [hst0]; exact hnbusy)
                have hs' : s.setBox ⟨st.L.length, t⟩ [.lp .exhausted pe g0 env0 ps0 as0 bo0] = { s with B := setB s.B t [.lp .exhausted pe g0 env0 ps0 as0 bo0] } := by
                  unfold St.setBox; rw [if_pos hsL.symm]
                rw [hs'] at hR5 hF5
                have hcl : ∀ (B : Level) c, clearB [t] (setB B t c) = clearB [t] B := by
                  intro B c
                  induction B with
                  | nil => rfl
                  | cons p B ih =>
                    obtain ⟨k, d⟩ := p
                    simp only [setB]
                    by_cases hk : k = t
                    · subst hk; simp [clearB]
                    · simp only [hk, if_false, clearB, ih]
                obtain ⟨hR6, hF6⟩ := drop_boxes hR5 hF5 (D := [t]) (by
                    show okPtrs s.L.length [t] (ptrsL s.E) = true
                    rw [hsE, hsL]
                    refine List.all_eq_true.2 fun r hr => ?_
                    have h1 := hR.ptrE r hr
                    by_cases h2 : r.lvl = st.L.length
                    · have h3 : r.slot ≠ t := fun e => by
                        have : r = ⟨st.L.length, t⟩ := by cases r; simp_all
                        rw [this, hr0] at h1; cases h1
                      simp [h3]
                    · simp [h2]) (by
                    show okPtrs s.L.length [t] (ptrsB (clearB [t] (setB s.B t _))) = true
                    rw [hcl, hsL]; exact hok)
                refine ⟨_, by rw [hrun, hpe0], ?_⟩
                refine lift _ a.tmps _ ⟨X4, dropO (setO O4 ⟨st.L.length, t⟩ []) s.L.length [t], ?_⟩
                have hfin : ({ st with L := s.L, B := clearB [t] s.B } : St) = { s with B := clearB [t] (setB s.B t [.lp .exhausted pe g0 env0 ps0 as0 bo0]) } := by rw [hcl, ← hsE]
                rw [hfin]
                exact ⟨hR6, hF6⟩
              show ∃ jump w4, (Instr.endLoop l).run P w3 = .ok jump w4 ∧ _
              split at hx
              · rename_i g0 env0 ps0 as0 bo0 hl0
                simp only [Option.some.injEq, Prod.mk.injEq] at hx
                obtain ⟨rfl, rfl⟩ := hx
                obtain ⟨w4, h1, h2⟩ := key _ _ _ _ _ _ _ hl0 (by simp)
                exact ⟨none, w4, h1, rfl, h2⟩
              · rename_i g0 env0 ps0 as0 bo0 hl0
                simp only [Option.some.injEq, Prod.mk.injEq] at hx
                obtain ⟨rfl, rfl⟩ := hx
                obtain ⟨w4, h1, h2⟩ := key _ _ _ _ _ _ _ hl0 (by simp)
                exact ⟨some .ret, w4, h1, wpIn_ret ⟨rfl, h2⟩⟩
              · rename_i id g0 env0 ps0 as0 bo0 hl0
                simp only [Option.some.injEq, Prod.mk.injEq] at hx
                obtain ⟨rfl, rfl⟩ := hx
                obtain ⟨w4, h1, h2⟩ := key _ _ _ _ _ _ _ hl0 (by simp)
                exact ⟨some (.exit id), w4, h1, wpIn_exit ⟨rfl, h2⟩⟩
              · cases hx
            rcases hFO.fence with rfl | ⟨l', rfl⟩
            · exact hpost
            · exact hpost
          · rw [ptrsL_append, ptrsL_append] at hno
            simp [ptrsL, V.ptrs] at hno
        · cases hx
      · cases hx
    · cases hx
  · cases hx
end Go.Ab
