/-
  ONE OPERATION ON A BOX: load, store, alloc, box.
-/
import Derived.Test.YtpiggpgocnlomaaAbL
set_option linter.unusedVariables false
namespace Go.Ab
open Go
variable {P : Program} {H : Hints} {f : FuncId} {w : World} {X : Cx}

theorem isLp_rep {c : List V} {vals : List Value} {O : List Nat} (h : RepL w X c vals O) : isLp c = false := by
  cases c with
  | nil => rfl
  | cons x l =>
    cases x <;> first | rfl | skip
    simp only [RepL, Rep] at h
    obtain ⟨_, _, _, _, _, _, h, _⟩ := h
    exact h.elim

theorem box_lt {st : St} {r : Root} (h : (st.box r).isSome = true) : r.lvl < st.L.length + 1 := by
  unfold St.box at h
  rcases Nat.lt_or_ge r.lvl (st.L.length + 1) with h1 | h1
  · exact h1
  · rw [if_neg (by omega), List.getElem?_eq_none (by omega)] at h; simp at h

theorem BoxR.cells {b : Nat} {c : List V} {O : List Nat} (h : BoxR w X b c O) (hn : isLp c = false) : ∃ cs t, w.heap[b]? = some (.cells cs t (0, 0)) ∧ RepL w X c cs.toList O := by
  rcases h with h | ⟨s, pe, g, env, ps, asg, body, lo, rfl, _⟩
  · exact h
  · simp [isLp] at hn

theorem seg_block {b off : Nat} {cs : Array Value} {t : TypeId} {fr : Nat × Nat} (h : w.heap[b]? = some (.cells cs t fr)) : Seg w b off (cs.toList.drop off) := by
  intro i v hi
  rw [List.getElem?_drop] at hi
  simp only [World.cell?, h]
  simpa using hi

theorem rep_ofCells' {t : TypeId} {cs : List V} {x : V} {vals : List Value} {O : List Nat} {off : Nat} (hx : ofCells P t (cs.drop off) = some x) (h : RepL w X cs vals O) :
    ∃ v Ox Orest, Rep w X x v Ox ∧ (if isAggT P t then P.cellsOf t ≤ (vals.drop off).length ∧ v = .agg ((vals.drop off).take (P.cellsOf t)).toArray else (vals.drop off).head? = some v) ∧ (∃ d, P.underlying t = some d) ∧
      RepL w X (splice cs off (reflagL flDull ((cs.drop off).take (if isAggT P t then P.cellsOf t else 1)))) vals Orest ∧ ∀ b, Ox.count b + Orest.count b ≤ O.count b := by
  obtain ⟨A, B, rfl, hA, hB⟩ := repL_split off h
  unfold ofCells at hx
  cases hu : P.underlying t with
  | none => simp [hu] at hx
  | some d =>
    simp only [hu] at hx
    have hsp : ∀ (n : Nat) (C D : List Nat), n ≤ (cs.drop off).length → RepL w X ((cs.drop off).take n) ((vals.drop off).take n) C → RepL w X ((cs.drop off).drop n) ((vals.drop off).drop n) D →
        RepL w X (splice cs off (reflagL flDull ((cs.drop off).take n))) vals (A ++ D) := by
      intro n C D hn hC hD
      have hl : (reflagL flDull ((cs.drop off).take n)).length = n := by rw [length_reflagL, List.length_take]; omega
      unfold splice
      rw [hl]
      have := repL_append (repL_append hA (repL_dull hC)) hD
      rw [show vals.take off ++ (vals.drop off).take n ++ (vals.drop off).drop n = vals by rw [List.append_assoc, List.take_append_drop, List.take_append_drop]] at this
      simpa [List.drop_drop, ← List.append_assoc] using this
    by_cases ha : isAggT P t = true
    · simp only [ha, if_true] at hx ⊢
      split at hx
      · rename_i hle
        simp only [Option.some.injEq] at hx
        subst hx
        obtain ⟨C, D, rfl, hC, hD⟩ := repL_split (P.cellsOf t) hB
        exact ⟨_, C, A ++ D, by simp only [Rep]; exact ⟨_, rfl, hC⟩, ⟨by rw [← repL_length _ _ _ hB]; exact hle, rfl⟩, ⟨d, rfl⟩, hsp (P.cellsOf t) C D hle hC hD, fun b => by simp only [count_app]; omega⟩
      · simp at hx
    · have ha' : isAggT P t = false := by simpa using ha
      simp only [ha', Bool.false_eq_true, if_false] at hx ⊢
      obtain ⟨C, D, rfl, hC, hD⟩ := repL_split 1 hB
      have hs := hsp 1 C D (by cases hd : cs.drop off with | nil => rw [hd] at hx; simp at hx | cons y l => simp) hC hD
      cases hd : cs.drop off with
      | nil => rw [hd] at hx; simp at hx
      | cons y rest =>
        have hC' := hC
        rw [hd] at hx; simp at hx; subst hx
        rw [hd, List.take_succ_cons, List.take_zero] at hC'
        obtain ⟨u, hu', hr⟩ := repL_one hC'
        have hh : (vals.drop off).head? = some u := by
          cases hv : vals.drop off with
          | nil => rw [hv] at hu'; simp at hu'
          | cons q l => rw [hv] at hu'; simp at hu'; simp [hu']
        exact ⟨u, C, A ++ D, hr, hh, ⟨d, rfl⟩, by rw [hd] at hs; exact hs, fun b => by simp only [count_app]; omega⟩

/-! ### a box's content changes -/
def setO (O : Pl → List Nat) (r : Root) (Ob : List Nat) : Pl → List Nat := fun p => if p = .box r then Ob else O p

/-- what is no list's block changes: all values stay -/
theorem ext_box {w' : World} {b : Nat} (hω : X.ω b = none) (hk : ∀ k, k ≠ b → w'.heap[k]? = w.heap[k]?) (R : List Root) : Ext R w X w' X (fun _ => False) where
  β := fun _ _ => rfl
  ω := fun k e fz h => ⟨e, fz, h, Nat.le_refl _, id, fun _ => ⟨rfl, rfl⟩⟩
  cell := fun k e fz i v h _ hc => by
    have hkb : k ≠ b := fun e' => by rw [e', hω] at h; cases h
    rw [cell_of_heap (hk k hkb)]; exact hc
  obj := fun k e fz c t _ h hc => by
    have hkb : k ≠ b := fun e' => by rw [e', hω] at h; cases h
    exact ⟨c, by rw [hk k hkb]; exact hc, rfl⟩

theorem repL_box {w' : World} {b : Nat} (hω : X.ω b = none) (hk : ∀ k, k ≠ b → w'.heap[k]? = w.heap[k]?) {l : List V} {vals : List Value} {A : List Nat} (hr : RepL w X l vals A) : RepL w' X l vals A :=
  RepL.ext (ext_box hω hk (ptrsL _)) _ _ _ (fun _ h => h) (by simp) hr

theorem Rel.setBox {st : St} {tmps : Array Value} {O : Pl → List Nat} (h : Rel st tmps w X O) {r : Root} {c c' : List V} {b : Nat} {Ob : List Nat} {w' : World} (hr : st.box r = some c) (hb : X.β r = some b)
    (hk : ∀ k, k ≠ b → w'.heap[k]? = w.heap[k]?) (hsz : w'.heap.size = w.heap.size) (hc' : BoxR w' X b c' Ob) (hl : Lin Ob) (hfree : ∀ k ∈ Ob, ∀ q, q ≠ .box r → k ∉ O q) (hp : ∀ r' ∈ ptrsL c', (st.box r').isSome = true ∧ r'.lvl ≤ r.lvl) :
    Rel (st.setBox r c') tmps w' X (setO O r Ob) := by
  obtain ⟨b', hb', hlt, hω, hbx⟩ := h.box r c hr
  obtain rfl : b = b' := by rw [hb] at hb'; exact Option.some.inj hb'
  have hext : ∀ {x : V} {u : Value} {A : List Nat}, Rep w X x u A → Rep w' X x u A := fun hr => Rep.ext (ext_box hω hk _) _ _ _ (fun _ h => h) (by simp) hr
  have hextL : ∀ {l : List V} {vals : List Value} {A : List Nat}, RepL w X l vals A → RepL w' X l vals A := fun hr => RepL.ext (ext_box hω hk (ptrsL _)) _ _ _ (fun _ h => h) (by simp) hr
  have hlive : ∀ r', ((st.setBox r c').box r').isSome = (st.box r').isSome := fun r' => by
    rw [box_setBox]; split
    · rename_i e; subst e; simp [hr]
    · rfl
  refine { size := by rw [setBox_E]; exact h.size, env := ?_, envD := ?_, box := ?_, boxD := ?_, inj := ?_, lin := ?_, dis := ?_, ptrE := ?_, ptrB := ?_, up := ?_, dom := ?_ }
  · intro s x hx
    rw [setBox_E] at hx
    obtain ⟨v, hv, hr'⟩ := h.env s x hx
    exact ⟨v, hv, by simpa [setO] using hext hr'⟩
  · intro s hs; rw [setBox_E] at hs; simpa [setO] using h.envD s hs
  · intro r' c1 hr'
    rw [box_setBox] at hr'
    by_cases e : r' = r
    · subst e
      rw [if_pos rfl, hr] at hr'; simp at hr'; subst hr'
      exact ⟨b, hb, by omega, hω, by rw [show setO O r' Ob (.box r') = Ob from by simp [setO]]; exact hc'⟩
    · rw [if_neg e] at hr'
      obtain ⟨k, hkb, hlt', hω', hbx'⟩ := h.box r' c1 hr'
      have hne : k ≠ b := fun e' => e (h.inj r' r b (by simp [hr']) (by simp [hr]) (by rw [hkb, e']) hb)
      exact ⟨k, hkb, by omega, hω', by simpa [setO, e] using hbx'.keep (hk k hne) (fun l vals A _ _ hr => hextL hr)⟩
  · intro r' hr'
    have h1 := hlive r'
    rw [hr'] at h1
    have hn : st.box r' = none := by cases hh : st.box r' with | none => rfl | some _ => rw [hh] at h1; simp at h1
    have e : r' ≠ r := fun e => by rw [e, hr] at hn; cases hn
    simpa [setO, e] using h.boxD r' hn
  · intro r1 r2 k h1 h2 h3 h4
    rw [hlive] at h1 h2
    exact h.inj r1 r2 k h1 h2 h3 h4
  · intro p; unfold setO; split
    · exact hl
    · exact h.lin p
  · intro p q hpq k hkp hkq
    unfold setO at hkp hkq
    split at hkp
    · rename_i e; subst e
      rw [if_neg (Ne.symm hpq)] at hkq
      exact hfree k hkp q (Ne.symm hpq) hkq
    · split at hkq
      · rename_i e1 e2; subst e2; exact hfree k hkq p e1 hkp
      · exact h.dis p q hpq k hkp hkq
  · intro r' hr'; rw [setBox_E] at hr'; rw [hlive]; exact h.ptrE r' hr'
  · intro r' c1 hr' r2 hr2
    rw [hlive]
    rw [box_setBox] at hr'
    split at hr'
    · rename_i e; subst e
      rw [hr] at hr'; simp at hr'; subst hr'
      exact (hp r2 hr2).1
    · exact h.ptrB r' c1 hr' r2 hr2
  · intro r' c1 hr' r2 hr2
    rw [box_setBox] at hr'
    split at hr'
    · rename_i e; subst e
      rw [hr] at hr'; simp at hr'; subst hr'
      exact (hp r2 hr2).2
    · exact h.up r' c1 hr' r2 hr2
  · intro k e fz hk'; rw [hsz]; exact h.dom k e fz hk'

theorem Fr.setBox {w0 : World} {X0 : Cx} {M : Md} {n : Nat} {st : St} {tmps : Array Value} {O : Pl → List Nat} (h : Rel st tmps w X O) (hF : Fr w0 X0 M n st w X O) {r : Root} {c c' : List V} {b : Nat} {Ob : List Nat} {w' : World} (hr : st.box r = some c) (hb : X.β r = some b) (hkd : isLp c' = isLp c)
    (hk : ∀ k, k ≠ b → w'.heap[k]? = w.heap[k]?) (hsz : w'.heap.size = w.heap.size) (hO : ∀ k ∈ Ob, w0.heap.size ≤ k ∨ M k) (hos : w'.os = w.os) (hout : w'.output = w.output) (htape : w'.tape = w.tape) : Fr w0 X0 M n (st.setBox r c') w' X (setO O r Ob) := by
  obtain ⟨b', hb', hlt, hω, hbx⟩ := h.box r c hr
  obtain rfl : b = b' := by rw [hb] at hb'; exact Option.some.inj hb'
  have hM : b < w0.heap.size → M b := fun hb0 => by
    rcases hF.boxM r b (by simp [hr]) hb with h1 | h1
    · omega
    · exact h1
  have hlive : ∀ r', ((st.setBox r c').box r').isSome = (st.box r').isSome := fun r' => by
    rw [box_setBox]; split
    · rename_i e; subst e; simp [hr]
    · rfl
  exact {
    size := by rw [hsz]; exact hF.size
    kept := fun k hk0 hMk => by
      have : k ≠ b := fun e => hMk (by rw [e]; exact hM (by omega))
      obtain ⟨h1, h2⟩ := hF.kept k hk0 hMk
      exact ⟨by rw [hk k this, h1], h2⟩
    grew := fun k e fz hω0 => by
      obtain ⟨e1, fz1, h1, h2, h3, h4⟩ := hF.grew k e fz hω0
      have hkb : k ≠ b := fun e' => by rw [e', hω] at h1; cases h1
      exact ⟨e1, fz1, h1, h2, h3, fun i v hi hc => by rw [cell_of_heap (hk k hkb)]; exact h4 i v hi hc⟩
    β := hF.β
    own := fun p k hkp => by
      unfold setO at hkp
      split at hkp
      · exact hO k hkp
      · exact hF.own p k hkp
    boxM := fun r' k h1 h2 => by rw [hlive] at h1; exact hF.boxM r' k h1 h2
    lev := by rw [setBox_L]; exact hF.lev
    live := fun r' hr' => by
      rw [← hF.live r' hr', box_setBox]
      split
      · rename_i e; subst e; simp [hr, hkd]
      · rfl
    os := by rw [hos, hF.os]
    out := by rw [hout, hF.out]
    tape := by rw [htape, hF.tape] }

theorem putT_eq (a : Act) (d : Option Tmp) (v : Value) : (a.put d v).tmps = putT a.tmps d v := by cases d <;> rfl

/-- the state behind the taking -/
theorem Rel.taken {st : St} {tmps : Array Value} {O : Pl → List Nat} (h : Rel st tmps w X O) (T : List Tmp) : Rel { st with E := dullAt st.E T } tmps w X (putO O T none st.E.length []) := by
  have := h.put (T := T) (Oin := []) (O' := []) (z := .undef) (v := undef) none (by simp) (Eff.refl _ h.dom) (by simp [Rep]) Lin.nil (by simp) (by simp [V.ptrs])
  simpa [St.put, putT] using this
theorem Fr.taken {w0 : World} {X0 : Cx} {M : Md} {n : Nat} {st : St} {tmps : Array Value} {O : Pl → List Nat} (h : Rel st tmps w X O) (hF : Fr w0 X0 M n st w X O) (T : List Tmp) : Fr w0 X0 M n { st with E := dullAt st.E T } w X (putO O T none st.E.length []) := by
  have := Fr.put (z := .undef) h hF (T := T) (Oin := []) (O' := []) none (by simp) (Eff.refl _ h.dom) (by simp)
  simpa [St.put] using this

theorem Rel.put0 {st : St} {tmps : Array Value} {O : Pl → List Nat} (h : Rel st tmps w X O) {O' : List Nat} {z : V} {v : Value} (d : Option Tmp) (hz : Rep w X z v O') (hl : Lin O') (hfree : ∀ b ∈ O', ∀ q, b ∉ O q) (hp : ∀ r ∈ z.ptrs, (st.box r).isSome = true) :
    Rel (st.put d z) (putT tmps d v) w X (putO O [] d st.E.length O') := by
  have := h.put (T := []) (Oin := []) d (by simp) (Eff.refl _ h.dom) hz hl (fun b hb q _ => hfree b hb q) hp
  simpa [dullAt_nil] using this
theorem Fr.put0 {w0 : World} {X0 : Cx} {M : Md} {n : Nat} {st : St} {O : Pl → List Nat} (hF : Fr w0 X0 M n st w X O) {O' : List Nat} {z : V} (d : Option Tmp) (hO' : ∀ b ∈ O', w0.heap.size ≤ b ∨ M b) :
    Fr w0 X0 M n (st.put d z) w X (putO O [] d st.E.length O') where
  size := hF.size
  kept := hF.kept
  grew := hF.grew
  β := hF.β
  own := fun p b hb => by
    cases p with
    | tmp t =>
      simp only [putO] at hb
      split at hb
      · exact hO' b hb
      · split at hb
        · simp at hb
        · exact hF.own _ b hb
    | box r => exact hF.own _ b hb
  boxM := fun r b hr hb => by rw [box_put] at hr; exact hF.boxM r b hr hb
  lev := by cases d <;> exact hF.lev
  live := fun r hr => by rw [box_put]; exact hF.live r hr
  os := hF.os
  out := hF.out
  tape := hF.tape

/-- LOAD OUT OF A BOX -/
theorem step_load {w0 : World} {X0 : Cx} {M : Md} {n : Nat} {st : St} {a : Act} {O : Pl → List Nat} {dst : Option Tmp} {tk : Bool} {t : TypeId} {ao : Operand} {r : Root} {off : Nat} {cs : List V} {z : V} {c : Option (List V)} {Oin : List Nat}
    (h : Rel st a.tmps w X O) (hF : Fr w0 X0 M n st w X O) (hp : Rep w X (.ptr r off) (a.eval ao) Oin) (hr : st.box r = some cs) (hx : (if isLp cs then none else if tk then (ofCells P t (cs.drop off)).map fun x => (x, some (splice cs off (reflagL flDull ((cs.drop off).take (if isAggT P t then P.cellsOf t else 1)))))
      else ((ofCells P t (cs.drop off)).map V.dull).map fun x => (x, Option.none)) = some (z, c)) :
    ∃ v, (Instr.loadAt t (a.eval ao)).run P w = .ok v w ∧ Sim w0 X0 M n ((match c with | some c => st.setBox r c | none => st).put dst z) (a.put dst v).tmps w := by
  simp only [Rep] at hp
  obtain ⟨_, b, hb, hv⟩ := hp
  obtain ⟨b', hb', hlt, hω, hbx⟩ := h.box r cs hr
  obtain rfl : b = b' := by rw [hb] at hb'; exact Option.some.inj hb'
  split at hx
  · simp at hx
  · rename_i hlp
    obtain ⟨arr, ty, hw, hl⟩ := hbx.cells (by simpa using hlp)
    have hseg : Seg w b off (arr.toList.drop off) := seg_block hw
    have hrun : ∀ v, (∃ d, P.underlying t = some d) → (if isAggT P t then P.cellsOf t ≤ (arr.toList.drop off).length ∧ v = .agg ((arr.toList.drop off).take (P.cellsOf t)).toArray else (arr.toList.drop off).head? = some v) → (Instr.loadAt t (a.eval ao)).run P w = .ok v w := by
      rintro v ⟨d, hd⟩ hvv
      rw [hv]
      simp only [Instr.loadAt, Instr.sureAddr, Sem.run_bind, Sem.run_pure, Result.andThen_ok]
      exact run_loadVar' hd hseg hvv
    simp only [putT_eq]
    split at hx
    · obtain ⟨y, hy, he⟩ := Option.map_eq_some_iff.1 hx
      obtain ⟨rfl, rfl⟩ := Prod.mk.inj he
      obtain ⟨v, Ox, Ob, hrep, hvv, hd, hrest, hcnt⟩ := rep_ofCells' hy hl
      refine ⟨v, hrun v hd hvv, X, ?_⟩
      have hlb := h.lin (.box r)
      have hmem : ∀ k ∈ Ob, k ∈ O (.box r) := mem_of_le fun k => by have := hcnt k; omega
      have hmemx : ∀ k ∈ Ox, k ∈ O (.box r) := mem_of_le fun k => by have := hcnt k; omega
      have hp2 : ∀ r' ∈ ptrsL (splice cs off (reflagL flDull ((cs.drop off).take (if isAggT P t then P.cellsOf t else 1)))), r' ∈ ptrsL cs := fun r' hr' => by
        rcases ptrs_splice r' hr' with h1 | h1
        · exact h1
        · rw [ptrsL_reflag] at h1; exact mem_drop (mem_take h1)
      have hset := h.setBox (w' := w) hr hb (fun _ _ => rfl) rfl (.inl ⟨arr, ty, hw, hrest⟩) (lin_of_le hlb fun k => by have := hcnt k; omega) (fun k hk q hq => h.dis (.box r) q (Ne.symm hq) k (hmem k hk)) (fun r' hr' => ⟨h.ptrB r cs hr r' (hp2 r' hr'), h.up r cs hr r' (hp2 r' hr')⟩)
      have hsetF := Fr.setBox (c' := splice cs off (reflagL flDull ((cs.drop off).take (if isAggT P t then P.cellsOf t else 1)))) (Ob := Ob) (w' := w) h hF hr hb (by rw [isLp_rep hrest]; simpa using hlp) (fun _ _ => rfl) rfl (fun k hk => hF.own _ k (hmem k hk)) rfl rfl rfl
      refine ⟨_, hset.put0 dst hrep (lin_of_le hlb fun k => by have := hcnt k; omega) (fun k hk q hkq => ?_) (fun r' hr' => ?_), hsetF.put0 dst (fun k hk => hF.own _ k (hmemx k hk))⟩
      · unfold setO at hkq
        split at hkq
        · have h1 := List.count_pos_iff.2 hk; have h2 := List.count_pos_iff.2 hkq; have h3 := hcnt k; have h4 := hlb k; omega
        · rename_i hne; exact h.dis (.box r) q (Ne.symm hne) k (hmemx k hk) hkq
      · rw [box_setBox]
        have hl := h.ptrB r cs hr r' (mem_drop (ptrs_ofCells hy r' hr'))
        split
        · simp [hr]
        · exact hl
    · obtain ⟨z', hz, he⟩ := Option.map_eq_some_iff.1 hx
      obtain ⟨rfl, rfl⟩ := Prod.mk.inj he
      obtain ⟨y, hy, rfl⟩ := Option.map_eq_some_iff.1 hz
      obtain ⟨v, Ox, Ob, hrep, hvv, hd, hrest, hcnt⟩ := rep_ofCells' hy hl
      refine ⟨v, hrun v hd hvv, X, _, h.put0 dst (rep_dull hrep) Lin.nil (by simp) (fun r' hr' => ?_), hF.put0 dst (by simp)⟩
      rw [ptrs_dull] at hr'
      exact h.ptrB r cs hr r' (mem_drop (ptrs_ofCells hy r' hr'))

/-- STORE INTO A BOX -/
theorem step_store {w0 : World} {X0 : Cx} {M : Md} {n : Nat} {st : St} {a : Act} {O : Pl → List Nat} {dst : Option Tmp} {T : List Tmp} {t : TypeId} {ao xo : Operand} {r : Root} {off : Nat} {cs : List V} {x : V} {Op Ox : List Nat}
    (h : Rel st a.tmps w X O) (hF : Fr w0 X0 M n st w X O) (hp : Rep w X (.ptr r off) (a.eval ao) Op) (hxr : Rep w X x (a.eval xo) Ox) (hin : ∀ b ∈ Ox, ∃ t ∈ T, b ∈ O (.tmp t)) (hlx : Lin Ox) (hr : st.box r = some cs)
    (hc : isLp cs = false ∧ P.cellsOf t ≠ 0 ∧ x.cells.length = P.cellsOf t ∧ off + x.cells.length ≤ cs.length ∧ x.oks = true) (hpx : ∀ r' ∈ x.ptrs, (st.box r').isSome = true) (hup : ∀ r' ∈ ptrsL (splice cs off x.cells), r'.lvl ≤ r.lvl) :
    ∃ w', (Instr.storeAt t (a.eval ao) (a.eval xo)).run P w = .ok () w' ∧ Sim w0 X0 M n ((({ st with E := dullAt st.E T } : St).setBox r (splice cs off x.cells)).put dst .undef) (a.put dst undef).tmps w' := by
  obtain ⟨hlp, hs0, hxl, hle, hok⟩ := hc
  simp only [Rep] at hp
  obtain ⟨_, b, hb, hv⟩ := hp
  obtain ⟨b', hb', hlt, hω, hbx⟩ := h.box r cs hr
  obtain rfl : b = b' := by rw [hb] at hb'; exact Option.some.inj hb'
  obtain ⟨arr, ty, hw, hl⟩ := hbx.cells hlp
  obtain ⟨hcells, hones⟩ := rep_cells hok hxr
  have hul : (a.eval xo).cells.toList.length = x.cells.length := (repL_length _ _ _ hcells).symm
  have hal : cs.length = arr.size := by rw [repL_length _ _ _ hl]; simp
  obtain ⟨Ob, hspl, hcnt⟩ := repL_splice (off := off) hl hcells
  have hst := run_storeCells_at (P := P) b off ty (a.eval xo).cells.toList 0 arr w hw (by omega) hones
  simp only [Nat.add_zero] at hst
  refine ⟨w.setRow b (arr.toList.take off ++ (a.eval xo).cells.toList ++ arr.toList.drop (off + (a.eval xo).cells.toList.length)).toArray, ?_, X, ?_⟩
  · rw [hv]
    have : ¬ ((a.eval xo).cells.size ≠ P.cellsOf t) := by rw [← hxl, ← hul]; simp
    simp only [Instr.storeAt, Instr.sureAddr, Sem.run_bind, Sem.run_pure, Result.andThen_ok, storeVar, run_sizeOf' hs0, if_neg this]
    exact hst
  · rw [putT_eq]
    have h1 := h.taken T
    have hF1 := Fr.taken h hF T
    have hr1 : ({ st with E := dullAt st.E T } : St).box r = some cs := hr
    have hlOb : Lin Ob := fun k => by
      have h2 := hcnt k; have h3 := h.lin (.box r) k; have h4 := hlx k
      by_cases hk : k ∈ Ox
      · have : (O (.box r)).count k = 0 := List.count_eq_zero.2 fun hkb => by
          obtain ⟨s, _, hs⟩ := hin k hk
          exact h.dis (.box r) (.tmp s) (by simp) k hkb hs
        omega
      · have : Ox.count k = 0 := List.count_eq_zero.2 hk
        omega
    have hmem : ∀ k ∈ Ob, k ∈ O (.box r) ∨ k ∈ Ox := fun k hk => by
      have h2 := hcnt k; have := List.count_pos_iff.2 hk
      by_cases hk' : k ∈ Ox
      · exact .inr hk'
      · have : Ox.count k = 0 := List.count_eq_zero.2 hk'
        exact .inl (List.count_pos_iff.1 (by omega))
    have hset := h1.setBox (c' := splice cs off x.cells) hr1 hb (fun k hk => setRow_other w b k _ hk) (by simp) (.inl ⟨_, ty, setRow_heap w b arr _ ty _ hw, repL_box hω (fun k hk => setRow_other w b k _ hk) hspl⟩) hlOb (fun k hk q hq hkq => ?_) (fun r' hr' => ?_)
    · have hsetF := Fr.setBox (c' := splice cs off x.cells) (Ob := Ob) (w' := w.setRow b (arr.toList.take off ++ (a.eval xo).cells.toList ++ arr.toList.drop (off + (a.eval xo).cells.toList.length)).toArray) h1 hF1 hr1 hb (by rw [isLp_rep hspl, hlp]) (fun k hk => setRow_other w b k _ hk) (by simp) (fun k hk => ?_) rfl rfl rfl
      · exact ⟨_, hset.put0 dst (z := .undef) (v := undef) (O' := []) (by simp [Rep]) Lin.nil (by simp) (by simp [V.ptrs]), hsetF.put0 dst (by simp)⟩
      · rcases hmem k hk with h2 | h2
        · exact hF.own _ k h2
        · obtain ⟨s', _, hks⟩ := hin k h2; exact hF.own _ k hks
    · cases q with
      | tmp s =>
        simp only [putO] at hkq
        rw [if_neg (by simp)] at hkq
        split at hkq
        · simp at hkq
        · rename_i hn
          rcases hmem k hk with h2 | h2
          · exact h.dis (.box r) (.tmp s) (by simp) k h2 hkq
          · obtain ⟨s', hs', hks⟩ := hin k h2
            exact h.dis (.tmp s') (.tmp s) (fun e => hn (by cases e; exact hs')) k hks hkq
      | box r' =>
        rcases hmem k hk with h2 | h2
        · exact h.dis (.box r) (.box r') (Ne.symm hq) k h2 hkq
        · obtain ⟨s', hs', hks⟩ := hin k h2
          exact h.dis (.tmp s') (.box r') (by simp) k hks hkq
    · refine ⟨?_, hup r' hr'⟩
      rcases ptrs_splice r' hr' with h2 | h2
      · exact h.ptrB r cs hr r' h2
      · exact hpx r' (mem_cells h2)

/-! ### a new box -/
def Cx.setβ (X : Cx) (r : Root) (b : Nat) : Cx := { X with β := fun k => if k = r then some b else X.β k }

theorem ext_setβ {w' : World} {r0 : Root} {b : Nat} {R : List Root} (hR : r0 ∉ R) (hd : Dom w X) (hk : ∀ k, k < w.heap.size → w'.heap[k]? = w.heap[k]?) : Ext R w X w' (X.setβ r0 b) (fun _ => False) where
  β := fun r hr => by simp only [Cx.setβ]; rw [if_neg (fun e => hR (by rw [← e]; exact hr))]
  ω := fun k e fz h => ⟨e, fz, h, Nat.le_refl _, id, fun _ => ⟨rfl, rfl⟩⟩
  cell := fun k e fz i v h _ hc => by rw [cell_of_heap (hk k (hd k e fz h))]; exact hc
  obj := fun k e fz c t _ h hc => ⟨c, by rw [hk k (hd k e fz h)]; exact hc, rfl⟩

def newO (O : Pl → List Nat) (r0 : Root) (d : Tmp) (Oc : List Nat) : Pl → List Nat := fun p => if p = .box r0 then Oc else if p = .tmp d then [] else O p

theorem Rel.newBox {st : St} {tmps : Array Value} {O : Pl → List Nat} (h : Rel st tmps w X O) {d : Nat} {c : List V} {arr : Array Value} {t : TypeId} {Oc : List Nat} (hnb : lookB st.B d = none) (hc : RepL w X c arr.toList Oc) (hl : Lin Oc)
    (hfree : ∀ k ∈ Oc, ∀ q, q ≠ .tmp d → k ∉ O q) (hp : ∀ r ∈ ptrsL c, (st.box r).isSome = true) :
    Rel { st with E := st.E.set d (.ptr ⟨st.L.length, d⟩ 0), B := (d, c) :: st.B } (tmps.setIfInBounds d (.pointer (some ⟨w.heap.size, 0, none⟩))) (w.alloc (.cells arr t)) (X.setβ ⟨st.L.length, d⟩ w.heap.size) (newO O ⟨st.L.length, d⟩ d Oc) := by
  have hr0 : st.box ⟨st.L.length, d⟩ = none := by simp [St.box, hnb]
  have hold : ∀ k, k < w.heap.size → (w.alloc (.cells arr t)).heap[k]? = w.heap[k]? := fun k hk => heap_alloc_old w _ hk
  have hnotin : ∀ l : List Root, (∀ r ∈ l, (st.box r).isSome = true) → (⟨st.L.length, d⟩ : Root) ∉ l := fun l hl hm => by have := hl _ hm; rw [hr0] at this; simp at this
  have hext : ∀ {x : V} {u : Value} {A : List Nat}, (∀ r ∈ x.ptrs, (st.box r).isSome = true) → Rep w X x u A → Rep (w.alloc (.cells arr t)) (X.setβ ⟨st.L.length, d⟩ w.heap.size) x u A := fun hx hr =>
    Rep.ext (ext_setβ (hnotin _ hx) h.dom hold) _ _ _ (fun _ h => h) (by simp) hr
  have hextL : ∀ {l : List V} {us : List Value} {A : List Nat}, (∀ r ∈ ptrsL l, (st.box r).isSome = true) → RepL w X l us A → RepL (w.alloc (.cells arr t)) (X.setβ ⟨st.L.length, d⟩ w.heap.size) l us A := fun hx hr =>
    RepL.ext (ext_setβ (hnotin _ hx) h.dom hold) _ _ _ (fun _ h => h) (by simp) hr
  have hbox : ∀ r, ({ st with E := st.E.set d (.ptr ⟨st.L.length, d⟩ 0), B := (d, c) :: st.B } : St).box r = if r = ⟨st.L.length, d⟩ then some c else st.box r := fun r => box_cons st d c r
  have hlive : ∀ r, (st.box r).isSome = true → (({ st with E := st.E.set d (.ptr ⟨st.L.length, d⟩ 0), B := (d, c) :: st.B } : St).box r).isSome = true := fun r hr => by
    rw [hbox]; split
    · rfl
    · exact hr
  have hne : ∀ r, (st.box r).isSome = true → r ≠ ⟨st.L.length, d⟩ := fun r hr e => by rw [e, hr0] at hr; simp at hr
  refine { size := by simp [h.size], env := ?_, envD := ?_, box := ?_, boxD := ?_, inj := ?_, lin := ?_, dis := ?_, ptrE := ?_, ptrB := ?_, up := ?_, dom := ?_ }
  · intro s x hx
    have hlt : s < st.E.length := by have := (List.getElem?_eq_some_iff.1 hx).1; simpa using this
    by_cases hsd : d = s
    · subst hsd
      rw [List.getElem?_set_self hlt] at hx; cases hx
      refine ⟨.pointer (some ⟨w.heap.size, 0, none⟩), by simp [h.size, hlt], ?_⟩
      simp only [newO, Rep]
      exact ⟨by simp, w.heap.size, by simp [Cx.setβ], rfl⟩
    · rw [List.getElem?_set_ne hsd] at hx
      obtain ⟨v, hv, hr⟩ := h.env s x hx
      refine ⟨v, by simp [hsd, hv], ?_⟩
      have e : newO O ⟨st.L.length, d⟩ d Oc (.tmp s) = O (.tmp s) := by simp [newO, Ne.symm hsd]
      rw [e]
      exact hext (fun r hr => h.ptrE r (mem_ptrsL.2 ⟨x, List.mem_of_getElem? hx, hr⟩)) hr
  · intro s hs
    simp at hs
    simp only [newO]
    rw [if_neg (by simp)]
    split
    · rfl
    · exact h.envD s hs
  · intro r c1 hr
    rw [hbox] at hr
    by_cases e : r = ⟨st.L.length, d⟩
    · subst e
      rw [if_pos rfl] at hr; cases hr
      refine ⟨w.heap.size, by simp [Cx.setβ], by simp, ?_, ?_⟩
      · cases hω : (X.setβ ⟨st.L.length, d⟩ w.heap.size).ω w.heap.size with
        | none => rfl
        | some p => have := h.dom w.heap.size p.1 p.2 hω; omega
      · rw [show newO O ⟨st.L.length, d⟩ d Oc (.box ⟨st.L.length, d⟩) = Oc from by simp [newO]]
        exact .inl ⟨arr, t, heap_alloc_new w _, hextL hp hc⟩
    · rw [if_neg e] at hr
      obtain ⟨k, hkb, hlt, hω, hbx⟩ := h.box r c1 hr
      refine ⟨k, by simp [Cx.setβ, e, hkb], by simp; omega, hω, ?_⟩
      rw [show newO O ⟨st.L.length, d⟩ d Oc (.box r) = O (.box r) from by simp [newO, e]]
      exact hbx.keep (hold k hlt) (fun l vals A hl _ hr' => hextL (fun r' hr' => h.ptrB r c1 hr r' (hl r' hr')) hr')
  · intro r hr
    rw [hbox] at hr
    split at hr
    · cases hr
    · rename_i e; simp [newO, e, h.boxD r hr]
  · intro r r' k h1 h2 h3 h4
    rw [hbox] at h1 h2
    simp only [Cx.setβ] at h3 h4
    have hltk : ∀ r'', (st.box r'').isSome = true → X.β r'' = some k → k < w.heap.size := fun r'' hs hb => by
      obtain ⟨c'', hc''⟩ := Option.isSome_iff_exists.1 hs
      obtain ⟨k', hk', hlt', _⟩ := h.box r'' c'' hc''
      rw [hb] at hk'; cases hk'; exact hlt'
    split at h3
    · rename_i e1
      split at h4
      · rename_i e2; rw [e1, e2]
      · rename_i e2
        rw [if_neg e2] at h2
        cases h3
        have := hltk r' h2 h4; omega
    · rename_i e1
      rw [if_neg e1] at h1
      split at h4
      · cases h4
        have := hltk r h1 h3; omega
      · rename_i e2
        rw [if_neg e2] at h2
        exact h.inj r r' k h1 h2 h3 h4
  · intro p; unfold newO; split
    · exact hl
    · split
      · exact Lin.nil
      · exact h.lin p
  · intro p q hpq k hkp hkq
    unfold newO at hkp hkq
    split at hkp
    · rename_i e; subst e
      rw [if_neg (Ne.symm hpq)] at hkq
      split at hkq
      · simp at hkq
      · rename_i hq; exact hfree k hkp q hq hkq
    · split at hkp
      · simp at hkp
      · rename_i e1 e2
        split at hkq
        · exact hfree k hkq p e2 hkp
        · split at hkq
          · simp at hkq
          · exact h.dis p q hpq k hkp hkq
  · intro r hr
    rcases mem_set hr with hr | hr
    · exact hlive r (h.ptrE r hr)
    · simp only [V.ptrs, List.mem_singleton] at hr
      subst hr; rw [hbox, if_pos rfl]; rfl
  · intro r c1 hr r' hr'
    rw [hbox] at hr
    split at hr
    · cases hr; exact hlive r' (hp r' hr')
    · exact hlive r' (h.ptrB r c1 hr r' hr')
  · intro r c1 hr r' hr'
    rw [hbox] at hr
    split at hr
    · rename_i e; cases hr; subst e; have := box_lt (hp r' hr'); simp only; omega
    · exact h.up r c1 hr r' hr'
  · intro k e fz hk
    have := h.dom k e fz hk
    simp; omega

theorem Fr.newBox {w0 : World} {X0 : Cx} {M : Md} {n : Nat} {st : St} {tmps : Array Value} {O : Pl → List Nat} (h : Rel st tmps w X O) (hF : Fr w0 X0 M n st w X O) {d : Nat} {c : List V} {arr : Array Value} {t : TypeId} {Oc : List Nat} (hnb : lookB st.B d = none) (hO : ∀ k ∈ Oc, w0.heap.size ≤ k ∨ M k) :
    Fr w0 X0 M n { st with E := st.E.set d (.ptr ⟨st.L.length, d⟩ 0), B := (d, c) :: st.B } (w.alloc (.cells arr t)) (X.setβ ⟨st.L.length, d⟩ w.heap.size) (newO O ⟨st.L.length, d⟩ d Oc) where
  size := by have := hF.size; simp; omega
  kept := fun b hb hM => by
    obtain ⟨h1, h2⟩ := hF.kept b hb hM
    exact ⟨by rw [heap_alloc_old w _ (Nat.lt_of_lt_of_le hb hF.size), h1], h2⟩
  grew := fun b e fz hω => by
    obtain ⟨e1, fz1, h1, h2, h3, h4⟩ := hF.grew b e fz hω
    exact ⟨e1, fz1, h1, h2, h3, fun i v hi hc => by rw [cell_of_heap (heap_alloc_old w _ (h.dom b e1 fz1 h1))]; exact h4 i v hi hc⟩
  β := fun r hr => by
    have hl := hF.lev
    simp only [Cx.setβ]
    rw [if_neg (fun e => by rw [e] at hr; simp at hr; omega)]
    exact hF.β r hr
  own := fun p b hb => by
    unfold newO at hb
    split at hb
    · exact hO b hb
    · split at hb
      · simp at hb
      · exact hF.own p b hb
  boxM := fun r b hr hb => by
    have hl := hF.lev
    rw [show ({ st with E := st.E.set d (.ptr ⟨st.L.length, d⟩ 0), B := (d, c) :: st.B } : St).box r = if r = ⟨st.L.length, d⟩ then some c else st.box r from box_cons st d c r] at hr
    simp only [Cx.setβ] at hb
    split at hb
    · rename_i e
      cases hb
      exact .inl hF.size
    · rename_i e
      rw [if_neg e] at hr
      exact hF.boxM r b hr hb
  lev := hF.lev
  live := fun r hr => by
    have hl := hF.lev
    rw [show ({ st with E := st.E.set d (.ptr ⟨st.L.length, d⟩ 0), B := (d, c) :: st.B } : St).box r = if r = ⟨st.L.length, d⟩ then some c else st.box r from box_cons st d c r, if_neg (fun e => by rw [e] at hr; simp at hr; omega)]
    exact hF.live r hr
  os := hF.os
  out := hF.out
  tape := hF.tape
end Go.Ab
