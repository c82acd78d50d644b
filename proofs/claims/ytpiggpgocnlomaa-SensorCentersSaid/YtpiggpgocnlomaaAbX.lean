/-
  FUNCTIONS, AND THE INTERPRETER WITH FUEL: sound.
-/
import Derived.Test.YtpiggpgocnlomaaAbW
set_option linter.unusedVariables false
namespace Go.Ab
open Go
variable {P : Program} {H : Hints} {f : FuncId} {C : Orc} {w : World} {X : Cx}

def plOf : Bool × Nat × Nat → Pl
  | (false, t, _) => .tmp t
  | (true, l, s) => .box ⟨l, s⟩

def resVal (tmps : Array Value) : ResultVar → Sem Value
  | .tmp t => pure (tmps.getD t undef)
  | .cell a t => do loadVar t (← asAddr (tmps.getD a undef))

theorem getD_rep {st : St} {tmps : Array Value} {O : Pl → List Nat} (h : Rel st tmps w X O) (t : Nat) : Rep w X (st.E.getD t .undef) (tmps.getD t undef) (O (.tmp t)) := by
  by_cases hlt : t < st.E.length
  · obtain ⟨v, hv, hr⟩ := h.env t _ (List.getElem?_eq_getElem hlt)
    have e1 : tmps.getD t undef = v := by rw [Array.getD_eq_getD_getElem?, hv]; rfl
    have e2 : st.E.getD t .undef = st.E[t] := by simp [hlt]
    rw [e1, e2]; exact hr
  · have e2 : st.E.getD t .undef = .undef := by simp [List.getElem?_eq_none (Nat.not_lt.1 hlt)]
    rw [e2, h.envD t (by omega)]; simp [Rep]

theorem result_one {st : St} {tmps : Array Value} {O : Pl → List Nat} (h : Rel st tmps w X O) {rv : ResultVar} {x : V} (hx : resultOf P st rv = some x) :
    ∃ v Ox, (resVal tmps rv).run P w = .ok v w ∧ Rep w X x v Ox ∧ (∀ b, Ox.count b ≤ (O (plOf (resultKey st rv))).count b) ∧ ∀ r ∈ x.ptrs, (st.box r).isSome = true := by
  cases rv with
  | tmp t =>
    simp only [resultOf, Option.some.injEq] at hx
    subst hx
    exact ⟨_, _, rfl, getD_rep h t, fun b => Nat.le_refl _, fun r hr => h.ptrE r (getD_ptrs hr)⟩
  | cell a t =>
    simp only [resultOf] at hx
    split at hx
    · rename_i r off hE
      split at hx
      · rename_i cs hcs
        split at hx
        · cases hx
        · rename_i hlp
          have ha := getD_rep h a
          rw [hE] at ha
          simp only [Rep] at ha
          obtain ⟨_, b, hb, hv⟩ := ha
          obtain ⟨b', hb', hlt, hω, hbx⟩ := h.box r cs hcs
          obtain rfl : b = b' := by rw [hb] at hb'; exact Option.some.inj hb'
          obtain ⟨arr, ty, hw, hl⟩ := hbx.cells (by simpa using hlp)
          have hseg : Seg w b off (arr.toList.drop off) := seg_block hw
          obtain ⟨v, Ox, Ob, hrep, hvv, ⟨d, hd⟩, _, hcnt⟩ := rep_ofCells' hx hl
          have hkey : plOf (resultKey st (.cell a t)) = .box r := by simp only [resultKey, hE, plOf]
          refine ⟨v, Ox, ?_, hrep, fun k => by rw [hkey]; have := hcnt k; omega, fun r' hr' => h.ptrB r cs hcs r' (mem_drop (ptrs_ofCells hx r' hr'))⟩
          simp only [resVal, hv, asAddr, Sem.run_bind, Sem.run_pure, Result.andThen_ok]
          exact run_loadVar' hd hseg hvv
      · cases hx
    · cases hx

theorem results_ok {st : St} {tmps : Array Value} {O : Pl → List Nat} (h : Rel st tmps w X O) : ∀ (l : List ResultVar) (rs : List V), allSome (l.map (resultOf P st)) = some rs →
    ∃ vals Or, (l.mapM (resVal tmps)).run P w = .ok vals w ∧ RepL w X rs vals Or ∧ (∀ b, Or.count b ≤ (l.map fun r => (O (plOf (resultKey st r))).count b).sum) ∧ ∀ r ∈ ptrsL rs, (st.box r).isSome = true
  | [], rs, hx => by
    simp only [List.map_nil, allSome, Option.some.injEq] at hx
    subst hx
    exact ⟨[], [], rfl, by simp [RepL], by simp, by simp [ptrsL]⟩
  | rv :: l, rs, hx => by
    simp only [List.map_cons] at hx
    cases h1 : resultOf P st rv with
    | none => rw [h1] at hx; simp [allSome] at hx
    | some x =>
      rw [h1] at hx
      simp only [allSome] at hx
      obtain ⟨rs', h2, rfl⟩ := Option.map_eq_some_iff.1 hx
      obtain ⟨v, Ox, hr, hrep, hc, hp⟩ := result_one h h1
      obtain ⟨vals, Or, hr', hrep', hc', hp'⟩ := results_ok h l rs' h2
      refine ⟨v :: vals, Ox ++ Or, ?_, by simp only [RepL]; exact ⟨v, vals, Ox, Or, rfl, rfl, hrep, hrep'⟩, fun b => ?_, fun r hr => ?_⟩
      · simp only [List.mapM_cons, Sem.run_bind, hr, Result.andThen_ok, hr', Sem.run_pure]
      · simp only [List.map_cons, List.sum_cons, List.count_append]
        have := hc b; have := hc' b; omega
      · simp only [ptrsL, List.mem_append] at hr
        rcases hr with hr | hr
        · exact hp r hr
        · exact hp' r hr

theorem plOf_inj {st : St} {r r' : ResultVar} (h : plOf (resultKey st r) = plOf (resultKey st r')) : resultKey st r = resultKey st r' := by
  have key : ∀ r : ResultVar, (∃ t, resultKey st r = (false, t, 0)) ∨ ∃ l s, resultKey st r = (true, l, s) := fun r => by
    cases r with
    | tmp t => exact .inl ⟨t, rfl⟩
    | cell a t => right; simp only [resultKey]; split <;> exact ⟨_, _, rfl⟩
  rcases key r with ⟨t, e⟩ | ⟨l, s, e⟩ <;> rcases key r' with ⟨t', e'⟩ | ⟨l', s', e'⟩ <;> rw [e, e'] at h ⊢ <;> simp_all [plOf]

theorem sum_zero {α : Type} (c : α → Nat) : ∀ l : List α, (∀ x ∈ l, c x = 0) → (l.map c).sum = 0
  | [], _ => rfl
  | x :: l, h => by
    simp only [List.map_cons, List.sum_cons, h x (by simp), sum_zero c l fun y hy => h y (by simp [hy])]
theorem sum_le_one {O : Pl → List Nat} (hl : ∀ p, Lin (O p)) (hd : ∀ p q, p ≠ q → ∀ b ∈ O p, b ∉ O q) {st : St} (b : Nat) : ∀ (l : List ResultVar), distinct (l.map (resultKey st)) = true → (l.map fun r => (O (plOf (resultKey st r))).count b).sum ≤ 1
  | [], _ => by simp
  | r :: l, h => by
    simp only [List.map_cons, distinct, Bool.and_eq_true, Bool.not_eq_true'] at h
    have ih := sum_le_one hl hd b l h.2
    simp only [List.map_cons, List.sum_cons]
    by_cases hb : b ∈ O (plOf (resultKey st r))
    · have h1 := hl (plOf (resultKey st r)) b
      have h0 : (l.map fun r => (O (plOf (resultKey st r))).count b).sum = 0 := by
        have : ∀ r' ∈ l, (O (plOf (resultKey st r'))).count b = 0 := fun r' hr' => List.count_eq_zero.2 fun hb' => by
          have hne : plOf (resultKey st r) ≠ plOf (resultKey st r') := fun e => by
            have := plOf_inj e
            have hm : resultKey st r ∈ l.map (resultKey st) := by rw [this]; exact List.mem_map.2 ⟨r', hr', rfl⟩
            have h2 := h.1
            simp only [List.contains_eq_mem, decide_eq_false_iff_not] at h2
            exact h2 hm
          exact hd _ _ hne b hb hb'
        exact sum_zero _ l this
      omega
    · have : (O (plOf (resultKey st r))).count b = 0 := List.count_eq_zero.2 hb
      omega

/-! ### no owners -/
mutual
theorem rep_noowns : ∀ (x : V) (v : Value) (O : List Nat), x.owns = false → Rep w X x v O → O = []
  | .undef, _, _, _, h => by simp only [Rep] at h; exact h
  | .val _, _, _, _, h => by simp only [Rep] at h; exact h.2
  | .ptr .., _, _, _, h => by simp only [Rep] at h; exact h.1
  | .yld _, _, _, _, h => by simp only [Rep] at h; exact h.1
  | .cptr _, _, _, _, h => by simp only [Rep] at h; exact h.1
  | .sl f c l, v, O, ho, h => by
    simp only [V.owns, Bool.or_eq_false_iff, decide_eq_false_iff_not] at ho
    simp only [Rep] at h
    obtain ⟨_, h⟩ := h
    rcases h with ⟨_, h0, _⟩ | ⟨b, off, cap, s, vals, O', _, _, _, _, _, _, _, _, _, _, ho'⟩
    · exact h0
    · exact (ho' ho.1).1
  | .fn f a c, v, O, ho, h => by
    simp only [V.owns, Bool.or_eq_false_iff] at ho
    simp only [Rep] at h
    obtain ⟨va, vc, O1, O2, _, rfl, h1, h2⟩ := h
    rw [repL_noowns a va O1 ho.1 h1, repL_noowns c vc O2 ho.2 h2]; rfl
  | .iface t x, v, O, ho, h => by simp only [V.owns] at ho; simp only [Rep] at h; obtain ⟨u, _, h1⟩ := h; exact rep_noowns x u O ho h1
  | .agg l, v, O, ho, h => by simp only [V.owns] at ho; simp only [Rep] at h; obtain ⟨vals, _, h1⟩ := h; exact repL_noowns l vals O ho h1
  | .tuple l, v, O, ho, h => by simp only [V.owns] at ho; simp only [Rep] at h; obtain ⟨vals, _, h1⟩ := h; exact repL_noowns l vals O ho h1
  | .lp .., _, _, _, h => by simp only [Rep] at h
theorem repL_noowns : ∀ (l : List V) (vals : List Value) (O : List Nat), ownsL l = false → RepL w X l vals O → O = []
  | [], _, _, _, h => by simp only [RepL] at h; exact h.2
  | x :: l, vals, O, ho, h => by
    simp only [ownsL, Bool.or_eq_false_iff] at ho
    simp only [RepL] at h
    obtain ⟨u, vs, O1, O2, _, rfl, h1, h2⟩ := h
    rw [rep_noowns x u O1 ho.1 h1, repL_noowns l vs O2 ho.2 h2]; rfl
end

theorem rep_packed {rs : List V} {vals : List Value} {Or : List Nat} (h : RepL w X rs vals Or) : Rep w X (packed rs) (if hs : vals.toArray.size = 1 then vals.toArray[0] else .tuple vals.toArray) Or := by
  match rs, vals, h with
  | [], vals, h => simp only [RepL] at h; obtain ⟨rfl, rfl⟩ := h; simp [packed, Rep, RepL]
  | [r], vals, h =>
    simp only [RepL] at h
    obtain ⟨u, vs, O1, O2, rfl, rfl, h1, rfl, rfl⟩ := h
    simpa [packed] using h1
  | r :: r' :: rs, vals, h =>
    have hl := repL_length _ _ _ h
    have hne : ¬ vals.toArray.size = 1 := by simp at hl ⊢; omega
    rw [dif_neg hne]
    simp only [packed, Rep]
    exact ⟨vals, rfl, h⟩

/-! ### the marks are taken -/
theorem leaves_marks {fn : Func} {tmps : Array Value} {R : Ending → World → Prop} : ∀ (ks : List Nat) (w : World), ks.Nodup → (∀ k ∈ ks, w.heap[k]? = some (.deferred (some []))) →
    (∀ w' : World, w'.heap.size = w.heap.size → (∀ k, k ∉ ks → w'.heap[k]? = w.heap[k]?) → w'.os = w.os → w'.output = w.output → w'.tape = w.tape → ∃ v, (results fn tmps).run P w' = .ok v w' ∧ R (.returned v) w') →
    LeavesInM Fence.wide 0 P fn tmps R (ks.map fun k => { target := .collected k, args := #[] }) .returning w
  | [], w, _, _, hR => hR w rfl (fun _ _ => rfl) rfl rfl rfl
  | k :: ks, w, hnd, hk, hR => by
    have hw := hk k (by simp)
    obtain ⟨hnk, hnd'⟩ := List.nodup_cons.1 hnd
    refine ⟨by simp, .inl ⟨k, w.putObj k (.deferred none), rfl, run_takeDeferred hw, ?_⟩⟩
    refine leaves_marks ks _ hnd' (fun k' hk' => ?_) (fun w' h1 h2 h3 h4 h5 => ?_)
    · rw [World.putObj_heap_other (fun e => hnk (by rw [← e]; exact hk'))]; exact hk k' (by simp [hk'])
    · refine hR w' (by rw [h1]; simp [World.putObj]) (fun k' hk' => ?_) h3 h4 h5
      simp only [List.mem_cons, not_or] at hk'
      rw [h2 k' hk'.2, World.putObj_heap_other hk'.1]
end Go.Ab
