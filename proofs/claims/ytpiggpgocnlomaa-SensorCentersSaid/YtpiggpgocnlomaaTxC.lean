/-
  ONE OPERATION: what the typed interpreter gives is what the abstract one gives.
-/
import Derived.Test.YtpiggpgocnlomaaTxB
import Derived.Laws.Strings
set_option linter.unusedVariables false
namespace Go.Tx
open Go Go.Ab
variable {P : Program} {H : Hints} {f : FuncId}

theorem cells_zero (p : Bool) (u : Value) : RVL (zeroTV p u).cells (ofZero p u).cells := by
  have h := rv_zero p u
  have h1 : (zeroTV p u).cells = [zeroTV p u] := by unfold zeroTV; split <;> (try split) <;> rfl
  have h2 : (ofZero p u).cells = [ofZero p u] := by unfold ofZero nilSlice; split <;> (try split) <;> rfl
  rw [h1, h2]; exact rvl_cons.2 ⟨h, rvl_nil⟩
theorem cells_const (p : Bool) (u : Value) : RVL (constTV p u).cells (ofConst p u).cells := by
  have key := cells_zero p u
  cases u <;> first | exact key | exact rvl_map (rv_zero p) _
theorem zeroT_ok {t : TypeId} {z : TV} (h : zeroT P H f t = some z) : ∃ z', zeroOf P H f t = some z' ∧ RV z z' ∧ RVL z.cells z'.cells := by
  unfold zeroT at h
  obtain ⟨u, hu, rfl⟩ := Option.map_eq_some_iff.1 h
  exact ⟨ofConst (H.precise f) u, by unfold zeroOf; rw [hu]; rfl, rv_const _ _, cells_const _ _⟩

theorem splice_ok {cs vs : List TV} {cs' vs' : List V} {off : Nat} (h : RVL cs cs') (hv : RVL vs vs') : RVL (spliceT cs off vs) (splice cs' off vs') := by
  unfold spliceT splice
  rw [hv.length]
  exact ((h.take off).append hv).append (h.drop _)
theorem fillT_ok (place : Nat → Option (Nat × Nat)) : ∀ (is : List Nat) (xs : List TV) (ys : List V) (cs r : List TV) (cs' : List V), RVL xs ys → RVL cs cs' → fillT place cs (is.zip xs) = some r →
    ∃ r', fillV place cs' (is.zip ys) = some r' ∧ RVL r r'
  | [], xs, ys, cs, r, cs', hx, hc, h => by simp only [List.zip_nil_left, fillT, Option.some.injEq] at h; subst h; exact ⟨cs', by simp [fillV], hc⟩
  | i :: is, [], ys, cs, r, cs', hx, hc, h => by
    simp only [RVL] at hx; subst hx
    simp only [List.zip_nil_right, fillT, Option.some.injEq] at h; subst h; exact ⟨cs', by simp [fillV], hc⟩
  | i :: is, x :: xs, ys, cs, r, cs', hx, hc, h => by
    simp only [RVL] at hx; obtain ⟨v, m, rfl, h1, h2⟩ := hx
    simp only [List.zip_cons_cons, fillT] at h
    simp only [List.zip_cons_cons, fillV]
    split at h
    · cases h
    · rename_i off size hp
      rw [hp]
      simp only
      split at h
      · cases h
      · rename_i hn
        simp only [not_or, Decidable.not_not, Bool.not_eq_false] at hn
        obtain ⟨hl, ho, hk⟩ := hn
        obtain ⟨hcells, hko⟩ := RV.cells hk h1
        rw [if_neg]
        · exact fillT_ok place is xs m _ r _ h2 (splice_ok hc hcells) h
        · rw [hcells.length, hc.length, hko]
          simp only [not_or, Decidable.not_not, Bool.not_eq_false]
          exact ⟨hl, ho, trivial⟩

theorem tbuild_ok {t : TypeId} {is : List Nat} {xs : List TV} {ys : List V} {x : TV} (hx : RVL xs ys) (h : tbuild P H f t (is.zip xs) = some x) :
    ∃ v, vbuild P H f t (is.zip ys) = some v ∧ RV x v := by
  unfold tbuild at h
  unfold vbuild
  split at h
  · rename_i z fields hz hu
    obtain ⟨z', hz', _, hcz⟩ := zeroT_ok hz
    split at h
    · rename_i places hpl
      obtain ⟨l, hl, rfl⟩ := Option.map_eq_some_iff.1 h
      obtain ⟨l', hl', hr⟩ := fillT_ok _ _ _ _ _ _ _ hx hcz hl
      refine ⟨.agg l', ?_, by simp only [RV]; exact ⟨l', rfl, hr⟩⟩
      rw [hz', hu]; simp only [hpl, hl', Option.map_some]
    · cases h
  · rename_i z n elem hz hu
    obtain ⟨z', hz', _, hcz⟩ := zeroT_ok hz
    split at h
    · rename_i ie hie
      obtain ⟨l, hl, rfl⟩ := Option.map_eq_some_iff.1 h
      obtain ⟨l', hl', hr⟩ := fillT_ok _ _ _ _ _ _ _ hx hcz hl
      refine ⟨.agg l', ?_, by simp only [RV]; exact ⟨l', rfl, hr⟩⟩
      rw [hz', hu]; simp only [hie, hl', Option.map_some]
    · cases h
  · cases h

theorem chunk_ok {agg : Bool} {s : Nat} : ∀ (n : Nat) {cs : List TV} {cs' : List V}, RVL cs cs' → RVL (chunkT agg s n cs) (chunk agg s n cs')
  | 0, _, _, _ => by simp [chunkT, chunk, RVL]
  | n + 1, cs, cs', h => by
    simp only [chunkT, chunk]
    refine rvl_cons.2 ⟨?_, chunk_ok n (h.drop s)⟩
    cases agg with
    | true => simp only [if_true, RV]; exact ⟨_, rfl, h.take s⟩
    | false =>
      simp only [Bool.false_eq_true, if_false]
      cases cs with
      | nil => simp only [RVL] at h; subst h; exact rv_undef []
      | cons y cs => simp only [RVL] at h; obtain ⟨v, m, rfl, h1, _⟩ := h; exact h1

theorem tbuildSlice_ok {t : TypeId} {len : Nat} {is : List Nat} {xs : List TV} {ys : List V} {x : TV} (hx : RVL xs ys) (h : tbuildSlice P H f t len (is.zip xs) = some x) :
    ∃ v, vbuildSlice P H f t len (is.zip ys) = some v ∧ RV x v := by
  unfold tbuildSlice at h
  unfold vbuildSlice
  split at h
  · rename_i elem hu
    rw [hu]; simp only
    split at h
    · rename_i ie z τ hie hz hτ
      obtain ⟨z', hz', _, hcz⟩ := zeroT_ok hz
      rw [hie, hz']; simp only
      split at h
      · cases h
      · rename_i hn
        simp only [not_or] at hn
        rw [if_neg (by rw [hcz.length]; simp only [not_or]; exact ⟨hn.1, hn.2.1, hn.2.2.1, hn.2.2.2.1⟩)]
        split at h
        · rename_i cs hcs
          obtain ⟨cs', hcs', hr⟩ := fillT_ok _ _ _ _ _ _ _ hx (RVL.flatten hcz) hcs
          rw [hcs']; simp only
          split at h
          · rename_i hc
            simp only [Bool.and_eq_true, List.isEmpty_iff] at hc
            obtain ⟨hc, hup⟩ := hc
            obtain ⟨hup1, hup2⟩ := nx_up hup
            obtain ⟨l, hl, rfl⟩ := Option.map_eq_some_iff.1 h
            have hp : ptrsL cs' = [] := by
              apply List.eq_nil_iff_forall_not_mem.2
              intro r hrr
              have := RVL.ptrs cs cs' hr r hrr
              rw [hc.2] at this; cases this
            rw [if_pos ⟨RVL.ones hc.1 hr, by rw [hp]; rfl⟩]
            refine ⟨_, rfl, ?_⟩
            simp only [RV, RTy]
            exact ⟨.own, false, _, rfl, flr_own hup, by rw [hup1]; exact asAll_ok _ _ _ hl (chunk_ok _ hr)⟩
          · cases h
        · cases h
    · cases h
  · cases h

theorem ofCellsT_ok {t : TypeId} {cs : List TV} {cs' : List V} {x : TV} (h : ofCellsT P t cs = some x) (hc : RVL cs cs') : ∃ v, ofCells P t cs' = some v ∧ RV x v := by
  unfold ofCellsT at h
  unfold ofCells
  split at h
  · cases h
  · rename_i d hd
    rw [hd]; simp only
    split at h
    · rename_i ha
      rw [if_pos ha]
      split at h
      · rename_i hl
        cases h
        rw [if_pos (by rw [hc.length]; exact hl)]
        exact ⟨_, rfl, by simp only [RV]; exact ⟨_, rfl, hc.take _⟩⟩
      · cases h
    · rename_i ha
      rw [if_neg ha]
      obtain ⟨v, hv, hr⟩ := RVL.head hc h
      exact ⟨v, hv, hr⟩

theorem tfield_ok {t : TypeId} {x y : TV} {v : V} {fd : Nat} (h : tfield P t x fd = some y) (hx : RV x v) : ∃ u, vfield P t v fd = some u ∧ RV y u := by
  unfold tfield at h
  split at h
  · rename_i fields cs hu
    simp only [RV] at hx; obtain ⟨cs', rfl, hc⟩ := hx
    unfold vfield
    rw [hu]; simp only
    split at h
    · rename_i d hd
      rw [hd]; simp only
      exact ofCellsT_ok h (hc.drop _)
    · cases h
  · cases h
theorem tfieldAddr_ok {t : TypeId} {x y : TV} {v : V} {fd : Nat} (h : tfieldAddr P t x fd = some y) (hx : RV x v) : ∃ u, vfieldAddr P t v fd = some u ∧ RV y u := by
  unfold tfieldAddr at h
  unfold vfieldAddr
  split at h
  · rename_i fields hu
    rw [hu]; simp only
    split at h
    · rename_i d hd
      rw [hd]; simp only
      split at h
      · cases h
      · rename_i h0
        rw [if_neg h0]
        split at h
        · rename_i r off
          cases h
          simp only [RV] at hx; subst hx
          exact ⟨_, rfl, by simp [RV]⟩
        · rename_i cs
          simp only [RV] at hx; obtain ⟨cs', rfl, hc⟩ := hx
          split at h
          · rename_i hl
            cases h
            simp only
            rw [if_pos (by rw [hc.length]; exact hl)]
            exact ⟨_, rfl, by simp only [RV]; exact ⟨_, rfl, hc.drop _⟩⟩
          · cases h
        · cases h
    · cases h
  · cases h

theorem upTo_some {R : Type} {i : Int} {k : Nat → Option R} {r : R} : ∀ {n j : Nat}, upTo R i k n j = some r → ∃ m, j ≤ m ∧ m < j + n ∧ i = (m : Int) ∧ k m = some r
  | 0, j, h => by simp [upTo] at h
  | n + 1, j, h => by
    simp only [upTo] at h
    cases hd : decide (i = (j : Int)) with
    | true => rw [hd] at h; exact ⟨j, Nat.le_refl _, by omega, of_decide_eq_true hd, h⟩
    | false =>
      rw [hd] at h
      obtain ⟨m, h1, h2, h3, h4⟩ := upTo_some (n := n) (j := j + 1) h
      exact ⟨m, by omega, by omega, h3, h4⟩

theorem tint_ok {x : TV} {n : Int} {v : V} (h : tint x = some n) (hx : RV x v) : ∃ k, v = .val (.int k n) := by
  unfold tint at h
  split at h
  · rename_i k o m
    cases h
    simp only [RV, RTy] at hx
    exact ⟨k, hx⟩
  · cases h
theorem natOf_int {k : IntKind} {n : Int} (h : 0 ≤ n) : natOf (.val (.int k n)) = some n.toNat := by simp [natOf, h]

theorem slc_some {α : Type} {l r : List α} {a b : Int} (h : slc l a b = some r) : 0 ≤ a ∧ a ≤ b ∧ b ≤ l.length ∧ r = (l.take b.toNat).drop a.toNat := by
  unfold slc at h
  split at h
  · rename_i hc; cases h; exact ⟨hc.1, hc.2.1, hc.2.2, rfl⟩
  · cases h
theorem idx_some {α : Type} {l : List α} {n : Int} {e : α} (h : idx l n = some e) : 0 ≤ n ∧ l[n.toNat]? = some e := by
  unfold idx at h
  split at h
  · rename_i hc; exact ⟨hc, h⟩
  · cases h
theorem app_some {α : Type} {l l2 r : List α} (h : app l l2 = some r) : l.length + l2.length ≤ 4294967296 ∧ r = l ++ l2 := by
  unfold app at h
  split at h
  · rename_i hc; cases h; exact ⟨hc, rfl⟩
  · cases h
theorem mkS_some {α : Type} {z : α} {n : Int} {r : List α} (h : mkS z n = some r) : 0 ≤ n ∧ n ≤ 4294967296 ∧ r = List.replicate n.toNat z := by
  unfold mkS at h
  split at h
  · rename_i hc; cases h; exact ⟨hc.1, hc.2, rfl⟩
  · cases h

theorem all2_cells {τ : Ty} (he : τ.elemOk = true) {o : Nat} {l : List τ.den} {l' : List V} (h : All2 (RTy τ o) l l') : ∀ e ∈ l', e.cells.length = τ.ncells ∧ e.oks = true ∧ e.ptrs = [] := fun e he' => by
  obtain ⟨a, _, hr⟩ := all2_mem h e he'
  obtain ⟨h1, h2⟩ := rty_ncells he hr
  exact ⟨h1, h2, rty_ptrs _ _ _ _ hr⟩
theorem all2_ptrs {τ : Ty} {o : Nat} {l : List τ.den} {l' : List V} (h : All2 (RTy τ o) l l') : ptrsL l' = [] := by
  apply List.eq_nil_iff_forall_not_mem.2
  intro r hr
  obtain ⟨v, hv, hrv⟩ := ptrsL_mem.1 hr
  obtain ⟨a, _, h2⟩ := all2_mem h v hv
  rw [rty_ptrs _ _ _ _ h2] at hrv; cases hrv
theorem cells_ptrs {v : V} (h : v.ptrs = []) : ptrsL v.cells = [] := by
  cases v <;> first | exact h | (simp only [V.cells, ptrsL, List.append_nil]; exact h)

theorem indexAddr_elem {τ : Ty} {elem : TypeId} {o : Nat} {l : List τ.den} {l' : List V} {n : Int} {e : τ.den} {k : IntKind} {t : TypeId} {fl : Fl} {c : Bool} (hu : P.underlying t = some (.slice elem)) (hall : All2 (RTy τ o) l l') (hc : P.cellsOf elem = τ.ncells) (h0 : τ.ncells ≠ 0) (he : τ.elemOk = true)
    (h : idx l n = some e) : ∃ v, vindexAddr P t (.sl fl c l') (.val (.int k n)) = some v ∧ RV (.cptr (ofTy τ (dl o) e).cells) v := by
  obtain ⟨h1, h2⟩ := idx_some h
  obtain ⟨b, hb, hr⟩ := hall.get h2
  obtain ⟨hl, hk⟩ := rty_ncells he hr
  refine ⟨.cptr (reflagL flDull b.cells), ?_, ?_⟩
  · simp only [vindexAddr, hu]
    rw [if_pos h1, hb]
    simp only
    rw [if_pos ⟨by rw [hl, hc], hk, by rw [hc]; exact h0, by rw [cells_ptrs (rty_ptrs _ _ _ _ hr)]; rfl⟩]
  · have hd := rty_dull flDull_own rfl τ o e b hr
    have hcells := (RV.cells (ofTy_oks he (dl o) e) (rv_ofTy τ (dl o) e _ hd)).1
    simp only [RV]
    refine ⟨_, rfl, ?_⟩
    have hre : (b.reflag flDull).cells = reflagL flDull b.cells := by cases b <;> simp [V.reflag, V.cells, reflagL]
    rw [← hre]; exact hcells

theorem tindexAddr_ok {t : TypeId} {x : TV} {k0 : IntKind} {i : Int} {R : Type} {k : TV → Option R} {r : R} {v : V} (h : tindexAddr P t x i R k = some r) (hx : RV x v) :
    ∃ y u, k y = some r ∧ vindexAddr P t v (.val (.int k0 i)) = some u ∧ RV y u := by
  unfold tindexAddr at h
  split at h
  · rename_i len elem q off hu
    split at h
    · cases h
    · rename_i h0
      obtain ⟨m, _, hm, rfl, hk⟩ := upTo_some h
      simp only [RV] at hx; subst hx
      refine ⟨_, .ptr q (off + m * P.cellsOf elem), hk, ?_, by simp [RV]⟩
      simp only [vindexAddr, hu]
      rw [if_pos ⟨by omega, by omega, h0⟩]; simp
  · rename_i len elem cs hu
    split at h
    · cases h
    · rename_i h0
      obtain ⟨m, _, hm, rfl, hk⟩ := upTo_some h
      split at hk
      · rename_i hl
        simp only [RV] at hx; obtain ⟨cs', rfl, hc⟩ := hx
        refine ⟨_, .cptr (cs'.drop (m * P.cellsOf elem)), hk, ?_, by simp only [RV]; exact ⟨_, rfl, hc.drop _⟩⟩
        simp only [vindexAddr, hu]
        rw [if_pos ⟨by omega, by omega, h0, by rw [hc.length]; simpa using hl⟩]; simp
      · cases hk
  · rename_i elem τ o l hu
    split at h
    · rename_i hc
      obtain ⟨e, he, hk⟩ := Option.bind_eq_some_iff.1 h
      simp only [RV, RTy] at hx; obtain ⟨fl, c, l', rfl, _, hall⟩ := hx
      obtain ⟨u, hu', hr⟩ := indexAddr_elem (k := k0) (fl := fl) (c := c) hu hall hc.1 hc.2.1 hc.2.2.2 he
      exact ⟨_, u, hk, hu', hr⟩
    · cases h
  · rename_i elem τ l hu
    split at h
    · rename_i hc
      obtain ⟨e, he, hk⟩ := Option.bind_eq_some_iff.1 h
      simp only [RV] at hx; obtain ⟨fl, l', rfl, _, hall⟩ := hx
      obtain ⟨u, hu', hr⟩ := indexAddr_elem (k := k0) (fl := fl) (c := true) hu hall hc.1 hc.2.1 hc.2.2.2 he
      exact ⟨_, u, hk, hu', hr⟩
    · cases h
  · cases h

theorem tindex_ok {elem t : TypeId} {len : Nat} {cs : List TV} {cs' : List V} {k0 : IntKind} {i : Int} {R : Type} {k : TV → Option R} {r : R} (hu : P.underlying t = some (.array len elem)) (h : tindex P elem len cs i R k = some r) (hc : RVL cs cs') :
    ∃ y u, k y = some r ∧ vindex P t (.agg cs') (.val (.int k0 i)) = some u ∧ RV y u := by
  unfold tindex at h
  split at h
  · cases h
  · rename_i h0
    obtain ⟨m, _, hm, rfl, hk⟩ := upTo_some h
    split at hk
    · rename_i v hv
      obtain ⟨u, hu', hr⟩ := ofCellsT_ok hv (hc.drop _)
      refine ⟨_, u, hk, ?_, hr⟩
      simp only [vindex, hu]
      rw [if_pos ⟨by omega, by omega, h0⟩]
      simpa using hu'
    · cases hk

/-- an optional operand -/
def RVO : Option TV → Option V → Prop
  | none, none => True
  | some x, some v => RV x v
  | _, _ => False
theorem rvo_none {b : Option V} (h : RVO none b) : b = none := by cases b <;> simp_all [RVO]
theorem rvo_some {x : TV} {b : Option V} (h : RVO (some x) b) : ∃ v, b = some v ∧ RV x v := by
  cases b with
  | none => simp [RVO] at h
  | some v => exact ⟨v, rfl, h⟩
theorem natOr_ok {d : Nat} {d0 : Int} {lo : Option TV} {lo' : Option V} {a : Int} (h : (match lo with | none => some d0 | some v => tint v) = some a) (hlo : RVO lo lo') (hd : d0 = d) (h0 : 0 ≤ a) : natOr d lo' = some a.toNat := by
  cases lo with
  | none => rw [rvo_none hlo]; simp only [Option.some.injEq] at h; subst h; subst hd; simp [natOr]
  | some x =>
    obtain ⟨v, rfl, hr⟩ := rvo_some hlo
    obtain ⟨k, rfl⟩ := tint_ok h hr
    simp [natOr, natOf_int h0]

theorem bcond {R : Type} {c : Prop} [Decidable c] {x : Option R} {r : R} (h : (bif decide c then x else none) = some r) : c ∧ x = some r := by
  cases hd : decide c with
  | true => rw [hd] at h; exact ⟨of_decide_eq_true hd, h⟩
  | false => rw [hd] at h; cases h

theorem tslice_ok {t : TypeId} {x : TV} {v : V} {lo hi mx : Option TV} {lo' hi' mx' : Option V} {R : Type} {k : TV → Option R} {r : R} (hx : RV x v) (hlo : RVO lo lo') (hhi : RVO hi hi') (hmx : RVO mx mx')
    (h : tslice P t x lo hi mx R k = some r) : ∃ y u, k y = some r ∧ vslice P t v lo' hi' mx' = some u ∧ RV y u := by
  unfold tslice at h
  simp only at h
  split at h
  · rename_i elem τ oo l hu
    simp only [RV, RTy] at hx; obtain ⟨fl, c, l', rfl, hfl, hall⟩ := hx
    split at h
    · cases h
    · rename_i hn
      simp only [not_or, Decidable.not_not, Bool.not_eq_false, Bool.not_eq_true] at hn
      obtain ⟨hoo, hoo2, h0, hcl, hok, hel⟩ := hn
      have hown : fl ≠ .own := hfl.not hoo hoo2
      have hnx : nx oo = oo := by unfold nx; rw [hoo]; rfl
      have hcells : l'.all (fun e => decide (e.cells.length = P.cellsOf elem)) = true := by
        rw [List.all_eq_true]; intro e he; rw [(all2_cells hel hall e he).1, hcl]; simp
      have hvs : ∀ (mx : Option V), vslice P t (.sl fl c l') lo' hi' mx = (match natOr 0 lo', natOr l'.length hi' with
          | some a, some b =>
            match mx with
            | none => if a ≤ b ∧ b ≤ l'.length then some (.sl fl (c && decide (b = l'.length)) ((l'.take b).drop a)) else none
            | some m => if natOf m = some b ∧ hi'.isSome ∧ a ≤ b ∧ b ≤ l'.length then some (.sl fl true ((l'.take b).drop a)) else none
          | _, _ => none) := fun mx => by
        unfold vslice
        rw [hu]; simp only
        rw [if_neg (by simp only [not_or, Bool.not_eq_false]; exact ⟨hown, h0, hcells⟩)]
        rfl
      split at h
      · rename_i a b ha hb
        have hfin : ∀ q, slc l a b = some q → natOr 0 lo' = some a.toNat ∧ natOr l'.length hi' = some b.toNat ∧ a.toNat ≤ b.toNat ∧ b.toNat ≤ l'.length ∧ All2 (RTy τ (nx oo)) q ((l'.take b.toNat).drop a.toNat) := fun q hq => by
          obtain ⟨h1, h2, h3, rfl⟩ := slc_some hq
          have hl := hall.length
          refine ⟨natOr_ok ha hlo rfl h1, natOr_ok hb hhi (by rw [hl]) (by omega), by omega, by omega, (hall.take _).drop _⟩
        split at h
        · obtain ⟨q, hq, hk⟩ := Option.bind_eq_some_iff.1 h
          obtain ⟨e1, e2, e3, e4, e5⟩ := hfin q hq
          rw [rvo_none hmx]
          refine ⟨_, .sl fl (c && decide (b.toNat = l'.length)) ((l'.take b.toNat).drop a.toNat), hk, ?_, ?_⟩
          · rw [hvs, e1, e2]; simp only; rw [if_pos ⟨e3, e4⟩]
          · simp only [RV, RTy]; exact ⟨fl, _, _, rfl, hfl, e5⟩
        · rename_i m
          obtain ⟨vm, hvm, hrm⟩ := rvo_some hmx
          split at h
          · rename_i cc hcc
            split at h
            · rename_i hs
              obtain ⟨q, hq, hk⟩ := Option.bind_eq_some_iff.1 h
              obtain ⟨hcb, hk⟩ := bcond hk
              obtain ⟨e1, e2, e3, e4, e5⟩ := hfin q hq
              obtain ⟨h1, h2, _, _⟩ := slc_some hq
              obtain ⟨k3, rfl⟩ := tint_ok hcc hrm
              have hs' : hi'.isSome = true := by
                cases hi with
                | none => simp at hs
                | some x => obtain ⟨v, rfl, _⟩ := rvo_some hhi; rfl
              refine ⟨_, .sl fl true ((l'.take b.toNat).drop a.toNat), hk, ?_, ?_⟩
              · rw [hvm, hvs, e1, e2]; simp only; rw [if_pos ⟨by rw [hcb]; exact natOf_int (by omega), hs', e3, e4⟩]
              · simp only [RV]; exact ⟨fl, _, rfl, hown, e5.mono fun x y hxy => by
                  rw [hnx] at hxy
                  refine rty_dl0 τ oo x y ?_
                  rcases isOwn_not.1 hoo with h | h | h
                  · subst h; exact hxy
                  · subst h; exact hxy
                  · exact absurd h hoo2⟩
            · cases h
          · cases h
      · cases h
  · rename_i elem oo hu
    simp only [RV] at hx; obtain ⟨fl, c, rfl, hfl⟩ := hx
    split at h
    · cases h
    · rename_i hn0
      simp only [not_or, Bool.not_eq_true] at hn0
      obtain ⟨hoo, hoo2, h0⟩ := hn0
      have hown : fl ≠ .own := hfl.not hoo hoo2
      split at h
      · rename_i a b ha hb
        cases hd : (decide (a = 0) && decide (b = 0)) with
        | false => rw [hd] at h; cases h
        | true =>
          rw [hd] at h
          simp only [Bool.and_eq_true, decide_eq_true_eq] at hd
          obtain ⟨rfl, rfl⟩ := hd
          rw [rvo_none hmx]
          refine ⟨_, .sl fl (c && decide (0 = ([] : List V).length)) [], h, ?_, ?_⟩
          · unfold vslice
            rw [hu]; simp only
            rw [if_neg (by simp only [not_or]; exact ⟨hown, h0, by simp⟩)]
            rw [natOr_ok (d := 0) ha hlo rfl (by omega), natOr_ok (d := ([] : List V).length) hb hhi rfl (by omega)]
            simp
          · simp only [RV]; exact ⟨fl, _, rfl, hfl⟩
      · cases h
  · rename_i s hu
    simp only [RV, RTy] at hx; subst hx
    split at h
    · rename_i a b ha hb
      obtain ⟨q, hq, hk⟩ := Option.bind_eq_some_iff.1 h
      obtain ⟨h1, h2, h3, rfl⟩ := slc_some hq
      rw [rvo_none hmx]
      have hsz : (⟨s.toArray⟩ : ByteArray).size = s.length := by simp [ByteArray.size]
      refine ⟨_, .val (.string ((⟨s.toArray⟩ : ByteArray).extract a.toNat b.toNat)), hk, ?_, ?_⟩
      · unfold vslice
        rw [hu]; simp only
        rw [natOr_ok (d := 0) ha hlo rfl h1, natOr_ok (d := (⟨s.toArray⟩ : ByteArray).size) hb hhi (by rw [hsz]) (by omega)]
        simp only
        rw [if_pos ⟨rfl, by omega, by rw [hsz]; omega⟩]
      · simp only [RV, RTy, V.val.injEq, Value.string.injEq]
        apply ByteArray.ext
        rw [ByteArray.data_extract]
        apply Array.ext'
        simp [List.drop_take]
    · cases h
  · cases h
end Go.Tx
