/-
  CODE IS SOUND.
-/
import Derived.Test.YtpiggpgocnlomaaAbT
set_option linter.unusedVariables false
namespace Go.Ab
open Go
variable {P : Program} {H : Hints} {f : FuncId} {C : Orc} {w : World} {X : Cx}

/-! ### a box is laid -/
def addO (O : Pl → List Nat) (r0 : Root) (Oc : List Nat) : Pl → List Nat := fun p => if p = .box r0 then Oc else O p

theorem Rel.addBox {st : St} {tmps : Array Value} {O : Pl → List Nat} (h : Rel st tmps w X O) {d : Nat} {c : List V} {o : Obj} (hnb : lookB st.B d = none)
    (hc : BoxR (w.alloc o) (X.setβ ⟨st.L.length, d⟩ w.heap.size) w.heap.size c []) (hp : ∀ r ∈ ptrsL c, (st.box r).isSome = true) :
    Rel { st with B := (d, c) :: st.B } tmps (w.alloc o) (X.setβ ⟨st.L.length, d⟩ w.heap.size) (addO O ⟨st.L.length, d⟩ []) := by
  have hr0 : st.box ⟨st.L.length, d⟩ = none := by simp [St.box, hnb]
  have hold : ∀ k, k < w.heap.size → (w.alloc o).heap[k]? = w.heap[k]? := fun k hk => heap_alloc_old w _ hk
  have hnotin : ∀ l : List Root, (∀ r ∈ l, (st.box r).isSome = true) → (⟨st.L.length, d⟩ : Root) ∉ l := fun l hl hm => by have := hl _ hm; rw [hr0] at this; simp at this
  have hext : ∀ {x : V} {u : Value} {A : List Nat}, (∀ r ∈ x.ptrs, (st.box r).isSome = true) → Rep w X x u A → Rep (w.alloc o) (X.setβ ⟨st.L.length, d⟩ w.heap.size) x u A := fun hx hr =>
    Rep.ext (ext_setβ (hnotin _ hx) h.dom hold) _ _ _ (fun _ h => h) (by simp) hr
  have hextL : ∀ {l : List V} {us : List Value} {A : List Nat}, (∀ r ∈ ptrsL l, (st.box r).isSome = true) → RepL w X l us A → RepL (w.alloc o) (X.setβ ⟨st.L.length, d⟩ w.heap.size) l us A := fun hx hr =>
    RepL.ext (ext_setβ (hnotin _ hx) h.dom hold) _ _ _ (fun _ h => h) (by simp) hr
  have hbox : ∀ r, ({ st with B := (d, c) :: st.B } : St).box r = if r = ⟨st.L.length, d⟩ then some c else st.box r := fun r => box_cons st d c r
  have hlive : ∀ r, (st.box r).isSome = true → (({ st with B := (d, c) :: st.B } : St).box r).isSome = true := fun r hr => by
    rw [hbox]; split
    · rfl
    · exact hr
  refine { size := h.size, env := ?_, envD := ?_, box := ?_, boxD := ?_, inj := ?_, lin := ?_, dis := ?_, ptrE := fun r hr => hlive r (h.ptrE r hr), ptrB := ?_, up := ?_, dom := ?_ }
  · intro s x hx
    obtain ⟨v, hv, hr⟩ := h.env s x hx
    refine ⟨v, hv, ?_⟩
    have e : addO O ⟨st.L.length, d⟩ [] (.tmp s) = O (.tmp s) := by simp [addO]
    rw [e]
    exact hext (fun r hr => h.ptrE r (mem_ptrsL.2 ⟨x, List.mem_of_getElem? hx, hr⟩)) hr
  · intro s hs; simpa [addO] using h.envD s hs
  · intro r c1 hr
    rw [hbox] at hr
    by_cases e : r = ⟨st.L.length, d⟩
    · subst e
      rw [if_pos rfl] at hr; cases hr
      refine ⟨w.heap.size, by simp [Cx.setβ], by simp, ?_, ?_⟩
      · cases hω : (X.setβ ⟨st.L.length, d⟩ w.heap.size).ω w.heap.size with
        | none => rfl
        | some p => have := h.dom w.heap.size p.1 p.2 hω; omega
      · rw [show addO O ⟨st.L.length, d⟩ [] (.box ⟨st.L.length, d⟩) = [] from by simp [addO]]
        exact hc
    · rw [if_neg e] at hr
      obtain ⟨k, hkb, hlt, hω, hbx⟩ := h.box r c1 hr
      refine ⟨k, by simp [Cx.setβ, e, hkb], by simp; omega, hω, ?_⟩
      rw [show addO O ⟨st.L.length, d⟩ [] (.box r) = O (.box r) from by simp [addO, e]]
      exact hbx.keep (hold k hlt) (fun l vals A hl _ hr' => hextL (fun r' hr' => h.ptrB r c1 hr r' (hl r' hr')) hr')
  · intro r hr
    rw [hbox] at hr
    split at hr
    · cases hr
    · rename_i e; simp [addO, e, h.boxD r hr]
  · intro r r' k h1 h2 h3 h4
    rw [hbox] at h1 h2
    simp only [Cx.setβ] at h3 h4
    have hltk : ∀ r'', (st.box r'').isSome = true → X.β r'' = some k → k < w.heap.size := fun r'' hs hb => by
      obtain ⟨c'', hc''⟩ := Option.isSome_iff_exists.1 hs
      obtain ⟨k', hk', hlt', _⟩ := h.box r'' c'' hc''
      rw [hb] at hk'; cases hk'; exact hlt'
    split at h3
    · rename_i e1
      split at h4
      · rename_i e2; rw [e1, e2]
      · rename_i e2
        rw [if_neg e2] at h2
        cases h3
        have := hltk r' h2 h4; omega
    · rename_i e1
      rw [if_neg e1] at h1
      split at h4
      · cases h4
        have := hltk r h1 h3; omega
      · rename_i e2
        rw [if_neg e2] at h2
        exact h.inj r r' k h1 h2 h3 h4
  · intro p; unfold addO; split
    · exact Lin.nil
    · exact h.lin p
  · intro p q hpq k hkp hkq
    unfold addO at hkp hkq
    split at hkp
    · simp at hkp
    · split at hkq
      · simp at hkq
      · exact h.dis p q hpq k hkp hkq
  · intro r c1 hr r' hr'
    rw [hbox] at hr
    split at hr
    · cases hr; exact hlive r' (hp r' hr')
    · exact hlive r' (h.ptrB r c1 hr r' hr')
  · intro r c1 hr r' hr'
    rw [hbox] at hr
    split at hr
    · rename_i e; cases hr; subst e; have := box_lt (hp r' hr'); simp only; omega
    · exact h.up r c1 hr r' hr'
  · intro k e fz hk
    have := h.dom k e fz hk
    simp; omega

theorem Fr.addBox {w0 : World} {X0 : Cx} {M : Md} {n : Nat} {st : St} {tmps : Array Value} {O : Pl → List Nat} (h : Rel st tmps w X O) (hF : Fr w0 X0 M n st w X O) {d : Nat} {c : List V} {o : Obj} (hnb : lookB st.B d = none) :
    Fr w0 X0 M n { st with B := (d, c) :: st.B } (w.alloc o) (X.setβ ⟨st.L.length, d⟩ w.heap.size) (addO O ⟨st.L.length, d⟩ []) where
  size := by have := hF.size; simp; omega
  kept := fun b hb hM => by
    obtain ⟨h1, h2⟩ := hF.kept b hb hM
    exact ⟨by rw [heap_alloc_old w _ (Nat.lt_of_lt_of_le hb hF.size), h1], h2⟩
  grew := fun b e fz hω => by
    obtain ⟨e1, fz1, h1, h2, h3, h4⟩ := hF.grew b e fz hω
    exact ⟨e1, fz1, h1, h2, h3, fun i v hi hc => by rw [cell_of_heap (heap_alloc_old w _ (h.dom b e1 fz1 h1))]; exact h4 i v hi hc⟩
  β := fun r hr => by
    have hl := hF.lev
    simp only [Cx.setβ]
    rw [if_neg (fun e => by rw [e] at hr; simp at hr; omega)]
    exact hF.β r hr
  own := fun p b hb => by
    unfold addO at hb
    split at hb
    · simp at hb
    · exact hF.own p b hb
  boxM := fun r b hr hb => by
    rw [show ({ st with B := (d, c) :: st.B } : St).box r = if r = ⟨st.L.length, d⟩ then some c else st.box r from box_cons st d c r] at hr
    simp only [Cx.setβ] at hb
    split at hb
    · cases hb; exact .inl hF.size
    · rename_i e
      rw [if_neg e] at hr
      exact hF.boxM r b hr hb
  lev := hF.lev
  live := fun r hr => by
    have hl := hF.lev
    rw [show ({ st with B := (d, c) :: st.B } : St).box r = if r = ⟨st.L.length, d⟩ then some c else st.box r from box_cons st d c r, if_neg (fun e => by rw [e] at hr; simp at hr; omega)]
    exact hF.live r hr
  os := hF.os
  out := hF.out
  tape := hF.tape

/-! ### boxes are dropped -/
theorem lookB_clear (D : List Tmp) (s : Nat) : ∀ B : Level, lookB (clearB D B) s = if D.contains s then none else lookB B s
  | [] => by simp [clearB, lookB]
  | (k, c) :: B => by
    simp only [clearB, lookB]
    by_cases hk : D.contains k = true
    · rw [if_pos hk, lookB_clear D s B]
      by_cases hs : D.contains s = true
      · rw [if_pos hs, if_pos hs]
      · rw [if_neg hs, if_neg hs, if_neg (fun e => hs (by rw [← e]; exact hk))]
    · rw [if_neg hk]
      simp only [lookB, lookB_clear D s B]
      by_cases hks : k = s
      · subst hks; rw [if_pos rfl, if_neg hk, if_pos rfl]
      · rw [if_neg hks, if_neg hks]

theorem mem_ptrsB {B : Level} {r : Root} {s : Nat} {c : List V} (hl : lookB B s = some c) (hr : r ∈ ptrsL c) : r ∈ ptrsB B := by
  induction B with
  | nil => simp [lookB] at hl
  | cons p B ih =>
    obtain ⟨k, d⟩ := p
    simp only [lookB] at hl
    simp only [ptrsB, List.mem_append]
    split at hl
    · cases hl; exact .inl hr
    · exact .inr (ih hl)

def dropO (O : Pl → List Nat) (lvl : Nat) (D : List Tmp) : Pl → List Nat
  | .tmp t => O (.tmp t)
  | .box r => if r.lvl = lvl ∧ D.contains r.slot = true then [] else O (.box r)

theorem box_drop (st : St) (D : List Tmp) (r : Root) : ({ st with B := clearB D st.B } : St).box r = if r.lvl = st.L.length ∧ D.contains r.slot = true then none else st.box r := by
  unfold St.box
  by_cases h : r.lvl = st.L.length
  · simp only [h, if_true, true_and, lookB_clear]
  · simp only [h, if_false, false_and]

theorem drop_boxes {w0 : World} {X0 : Cx} {M : Md} {n : Nat} {st : St} {tmps : Array Value} {O : Pl → List Nat} (h : Rel st tmps w X O) (hF : Fr w0 X0 M n st w X O) {D : List Tmp}
    (hE : okPtrs st.L.length D (ptrsL st.E) = true) (hB : okPtrs st.L.length D (ptrsB (clearB D st.B)) = true) :
    Rel { st with B := clearB D st.B } tmps w X (dropO O st.L.length D) ∧ Fr w0 X0 M n { st with B := clearB D st.B } w X (dropO O st.L.length D) := by
  have hbox := box_drop st D
  have hsome : ∀ r c, ({ st with B := clearB D st.B } : St).box r = some c → ¬ (r.lvl = st.L.length ∧ D.contains r.slot = true) ∧ st.box r = some c := fun r c hr => by
    rw [hbox] at hr
    split at hr
    · cases hr
    · rename_i hn; exact ⟨hn, hr⟩
  have hsub : ∀ p k, k ∈ dropO O st.L.length D p → k ∈ O p := fun p k hk => by
    cases p with
    | tmp t => exact hk
    | box r =>
      simp only [dropO] at hk
      split at hk
      · simp at hk
      · exact hk
  have hok : ∀ r, okPtrs st.L.length D [r] = true → (st.box r).isSome = true → (({ st with B := clearB D st.B } : St).box r).isSome = true := fun r hr hs => by
    rw [hbox, if_neg]
    · exact hs
    · rintro ⟨h1, h2⟩
      simp only [okPtrs, List.all_cons, List.all_nil, Bool.and_true, h1, bne_self_eq_false, h2, Bool.false_or, Bool.not_true] at hr
      cases hr
  have hall : ∀ rs r, okPtrs st.L.length D rs = true → r ∈ rs → okPtrs st.L.length D [r] = true := fun rs r hrs hr => by
    have := List.all_eq_true.1 hrs r hr
    simp only [okPtrs, List.all_cons, List.all_nil, Bool.and_true]
    exact this
  constructor
  · refine { size := h.size, env := h.env, envD := h.envD, box := ?_, boxD := ?_, inj := ?_, lin := ?_, dis := ?_, ptrE := ?_, ptrB := ?_, up := ?_, dom := h.dom }
    · intro r c hr
      obtain ⟨h1, h2⟩ := hsome r c hr
      simpa only [dropO, if_neg h1] using h.box r c h2
    · intro r hr
      rw [hbox] at hr
      simp only [dropO]
      split
      · rfl
      · rename_i hn; rw [if_neg hn] at hr; exact h.boxD r hr
    · intro r r' b h1 h2
      obtain ⟨c, hc⟩ := Option.isSome_iff_exists.1 h1
      obtain ⟨c', hc'⟩ := Option.isSome_iff_exists.1 h2
      exact h.inj r r' b (by simp [(hsome r c hc).2]) (by simp [(hsome r' c' hc').2])
    · intro p
      cases p with
      | tmp t => exact h.lin _
      | box r =>
        simp only [dropO]; split
        · exact Lin.nil
        · exact h.lin _
    · exact fun p q hpq k hkp hkq => h.dis p q hpq k (hsub p k hkp) (hsub q k hkq)
    · exact fun r hr => hok r (hall _ r hE hr) (h.ptrE r hr)
    · intro r c hr r' hr'
      obtain ⟨h1, h2⟩ := hsome r c hr
      have h3 := h.ptrB r c h2 r' hr'
      by_cases hl : r.lvl = st.L.length
      · refine hok r' (hall _ r' hB ?_) h3
        rw [hbox, if_neg h1] at hr
        have hlk : lookB (clearB D st.B) r.slot = some c := by
          rw [lookB_clear, if_neg (fun e => h1 ⟨hl, e⟩)]
          unfold St.box at hr
          rw [if_pos hl] at hr
          exact hr
        exact mem_ptrsB hlk hr'
      · have h4 := h.up r c h2 r' hr'
        have h5 := box_lt (st := st) (r := r) (by simp [h2])
        rw [hbox, if_neg (fun e => by omega)]
        exact h3
    · intro r c hr; exact h.up r c (hsome r c hr).2
  · exact {
      size := hF.size
      kept := hF.kept
      grew := hF.grew
      β := hF.β
      own := fun p b hb => hF.own p b (hsub p b hb)
      boxM := fun r b hr hb => by
        obtain ⟨c, hc⟩ := Option.isSome_iff_exists.1 hr
        exact hF.boxM r b (by simp [(hsome r c hc).2]) hb
      lev := hF.lev
      live := fun r hr => by
        have := hF.lev
        rw [hbox, if_neg (fun e => by omega)]
        exact hF.live r hr
      os := hF.os
      out := hF.out
      tape := hF.tape }

/-! ### temporaries are forgotten -/
def isUndef : Option V → Bool
  | some .undef => true
  | _ => false
theorem isUndef_iff {x : Option V} : isUndef x = true ↔ x = some .undef := by
  constructor
  · intro h; unfold isUndef at h; split at h
    · rfl
    · cases h
  · rintro rfl; rfl
def forgetO (O : Pl → List Nat) (E' : List V) : Pl → List Nat
  | .tmp t => if isUndef E'[t]? = true then [] else O (.tmp t)
  | .box r => O (.box r)

theorem forget {w0 : World} {X0 : Cx} {M : Md} {n : Nat} {st : St} {tmps : Array Value} {O : Pl → List Nat} (h : Rel st tmps w X O) (hF : Fr w0 X0 M n st w X O) {E' : List V} (hlen : E'.length = st.E.length) (hE : ∀ t : Nat, E'[t]? = st.E[t]? ∨ E'[t]? = some .undef) :
    Rel { st with E := E' } tmps w X (forgetO O E') ∧ Fr w0 X0 M n { st with E := E' } w X (forgetO O E') := by
  have hsub : ∀ p k, k ∈ forgetO O E' p → k ∈ O p := fun p k hk => by
    cases p with
    | tmp t =>
      simp only [forgetO] at hk
      split at hk
      · simp at hk
      · exact hk
    | box r => exact hk
  constructor
  · refine { size := by rw [hlen]; exact h.size, env := ?_, envD := ?_, box := h.box, boxD := h.boxD, inj := h.inj, lin := ?_, dis := fun p q hpq k hkp hkq => h.dis p q hpq k (hsub p k hkp) (hsub q k hkq), ptrE := ?_, ptrB := h.ptrB, up := h.up, dom := h.dom }
    · intro t x hx
      have hx' : E'[t]? = some x := hx
      have hlt : t < tmps.size := by rw [h.size, ← hlen]; exact (List.getElem?_eq_some_iff.1 hx').1
      by_cases hu : x = .undef
      · subst hu
        refine ⟨tmps[t], Array.getElem?_eq_getElem hlt, ?_⟩
        simp only [forgetO, hx', isUndef, if_true, Rep]
      · have h1 : st.E[t]? = some x := by
          rcases hE t with h1 | h1
          · rw [← h1]; exact hx'
          · rw [hx'] at h1; exact absurd (Option.some.inj h1) hu
        have h2 : ¬ isUndef E'[t]? = true := fun e => by rw [isUndef_iff, hx'] at e; exact hu (Option.some.inj e)
        simpa only [forgetO, if_neg h2] using h.env t x h1
    · intro t ht
      simp only [forgetO]
      split
      · rfl
      · exact h.envD t (by rw [← hlen]; exact ht)
    · intro p
      cases p with
      | tmp t =>
        simp only [forgetO]; split
        · exact Lin.nil
        · exact h.lin _
      | box r => exact h.lin _
    · intro r hr
      obtain ⟨x, hx, hr⟩ := mem_ptrsL.1 hr
      obtain ⟨t, ht, hx⟩ := List.mem_iff_getElem.1 hx
      have hx' : E'[t]? = some x := by rw [List.getElem?_eq_getElem ht, hx]
      rcases hE t with h1 | h1
      · exact h.ptrE r (mem_ptrsL.2 ⟨x, List.mem_of_getElem? (by rw [← h1]; exact hx'), hr⟩)
      · rw [hx'] at h1; cases h1; simp [V.ptrs] at hr
  · exact { size := hF.size, kept := hF.kept, grew := hF.grew, β := hF.β, own := fun p b hb => hF.own p b (hsub p b hb), boxM := hF.boxM, lev := hF.lev, live := hF.live, os := hF.os, out := hF.out, tape := hF.tape }

theorem clearE_spec : ∀ (D : List Tmp) (E : List V), (clearE D E).length = E.length ∧ ∀ t : Nat, (clearE D E)[t]? = E[t]? ∨ (clearE D E)[t]? = some .undef
  | [], E => ⟨rfl, fun _ => .inl rfl⟩
  | d :: D, E => by
    obtain ⟨h1, h2⟩ := clearE_spec D (E.set d .undef)
    have e : clearE (d :: D) E = clearE D (E.set d .undef) := rfl
    rw [e]
    refine ⟨by rw [h1]; simp, fun t => ?_⟩
    rcases h2 t with h3 | h3
    · rw [h3, List.getElem?_set]
      by_cases hdt : d = t
      · subst hdt
        by_cases hlt : d < E.length
        · simp [hlt]
        · simp [hlt]
      · simp [hdt]
    · exact .inr h3

theorem clearB_same (D : List Tmp) : ∀ B : Level, (clearB D B).length ≤ B.length ∧ ((clearB D B).length = B.length → clearB D B = B)
  | [] => ⟨Nat.le_refl _, fun _ => rfl⟩
  | (k, c) :: B => by
    obtain ⟨h1, h2⟩ := clearB_same D B
    simp only [clearB]
    split
    · exact ⟨by simp; omega, fun h => by simp at h; omega⟩
    · exact ⟨by simpa using h1, fun h => by rw [h2 (by simpa using h)]⟩

theorem clear_ok {w0 : World} {X0 : Cx} {M : Md} {n : Nat} {st st' : St} {D : List Tmp} {a : Act} (hS : SimD w0 X0 M n st a w) (hx : st.clear D = some st') : SimD w0 X0 M n st' a w := by
  obtain ⟨X, O, h, hF, hM⟩ := hS
  unfold St.clear at hx
  simp only at hx
  obtain ⟨hl, hE⟩ := clearE_spec D st.E
  obtain ⟨h1, hF1⟩ := forget h hF hl hE
  split at hx
  · rename_i hc
    cases hx
    by_cases hs : (clearB D st.B).length = st.B.length
    · rw [(clearB_same D st.B).2 hs]
      exact ⟨X, _, h1, hF1, hM⟩
    · rcases hc with hc | hc
      · exact absurd hc hs
      · simp only [Bool.and_eq_true] at hc
        obtain ⟨h2, hF2⟩ := drop_boxes h1 hF1 (D := D) hc.1 hc.2
        exact ⟨X, _, h2, hF2, hM⟩
  · cases hx

/-! ### loops over functions -/
theorem repL_env {st : St} {tmps : Array Value} {O : Pl → List Nat} (h : Rel st tmps w X O) : RepL w X (st.E.map V.dull) tmps.toList [] := by
  have key : ∀ (E : List V) (vs : List Value), E.length = vs.length → (∀ (t : Nat) x, E[t]? = some x → ∃ v A, vs[t]? = some v ∧ Rep w X x v A) → RepL w X (E.map V.dull) vs [] := by
    intro E
    induction E with
    | nil => intro vs hl _; simp only [List.map_nil, RepL]; exact ⟨List.eq_nil_of_length_eq_zero (by simpa using hl.symm), trivial⟩
    | cons x E ih =>
      intro vs hl hv
      cases vs with
      | nil => simp at hl
      | cons v vs =>
        simp only [List.map_cons, RepL]
        obtain ⟨v', A, h1, h2⟩ := hv 0 x rfl
        simp only [List.getElem?_cons_zero, Option.some.injEq] at h1
        subst h1
        exact ⟨v, vs, [], [], rfl, rfl, rep_dull h2, ih vs (by simpa using hl) fun t y hy => by simpa using hv (t + 1) y (by simpa using hy)⟩
  refine key st.E tmps.toList (by simpa using h.size.symm) fun t x hx => ?_
  obtain ⟨v, hv, hr⟩ := h.env t x hx
  exact ⟨v, _, by simpa using hv, hr⟩

theorem ptrs_dullE {E : List V} {r : Root} (h : r ∈ ptrsL (E.map V.dull)) : r ∈ ptrsL E := by
  rw [show E.map V.dull = reflagL flDull E from (reflagL_eq_map _ _).symm, ptrsL_reflag] at h; exact h

theorem rd_default {st : St} {a : Act} {O : Pl → List Nat} (h : Rel st a.tmps w X O) (x : Operand) : Rep w X (rd H f default st.E x) (a.eval x) [] := by
  have htk : takes H f (default : Oper) = false := by rfl
  obtain ⟨Oin, hrep, hs, _⟩ := rel_operands (H := H) (f := f) h default [x] (fun ht => by rw [htk] at ht; cases ht)
  have : Oin = [] := by
    cases Oin with
    | nil => rfl
    | cons b l => have := (hs b (by simp)).1; rw [htk] at this; cases this
  subst this
  simp only [List.map_cons, List.map_nil, RepL] at hrep
  obtain ⟨u, vs, O1, O2, hu, hO, h1, _⟩ := hrep
  simp only [List.nil_eq, List.append_eq_nil_iff] at hO
  simp only [List.cons.injEq] at hu
  rw [hu.1]
  rw [hO.1] at h1
  exact h1
end Go.Ab
