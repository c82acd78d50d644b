/-
  ONE OPERATION ON THE STATE: operands; values; boxes.
-/
import Derived.Test.YtpiggpgocnlomaaAbK
set_option linter.unusedVariables false
namespace Go.Ab
open Go
variable {P : Program} {H : Hints} {f : FuncId} {w : World} {X : Cx}

def tmpsOfL (l : List Operand) : List Tmp := l.filterMap fun | .tmp t => some t | _ => none
theorem tmpsOf_eq (o : Oper) : tmpsOf o = tmpsOfL o.op.operands.toList := rfl

theorem nodupT_cons {t : Tmp} {l : List Tmp} (h : nodupT (t :: l) = true) : t ∉ l ∧ nodupT l = true := by
  simp only [nodupT, Bool.and_eq_true, Bool.not_eq_true'] at h
  exact ⟨by simpa using h.1, h.2⟩

theorem rel_operands {st : St} {a : Act} {O : Pl → List Nat} (h : Rel st a.tmps w X O) (o : Oper) : ∀ (l : List Operand), (takes H f o = true → nodupT (tmpsOfL l) = true) →
    ∃ Oin, RepL w X (l.map (rd H f o st.E)) (l.map a.eval) Oin ∧ (∀ b ∈ Oin, takes H f o = true ∧ ∃ t ∈ tmpsOfL l, b ∈ O (.tmp t)) ∧ Lin Oin
  | [], _ => ⟨[], by simp [RepL], by simp, Lin.nil⟩
  | x :: l, hn => by
    have hrec : takes H f o = true → nodupT (tmpsOfL l) = true := fun ht => by
      have := hn ht
      cases x with
      | tmp t => exact (nodupT_cons (by simpa [tmpsOfL] using this)).2
      | _ => simpa [tmpsOfL] using this
    obtain ⟨A, hA, hAs, hAl⟩ := rel_operands h o l hrec
    have hsub : ∀ t, t ∈ tmpsOfL l → t ∈ tmpsOfL (x :: l) := fun t ht => by
      cases x <;> simp_all [tmpsOfL]
    cases x with
    | tmp t =>
      have hv : ∃ B, Rep w X (rd H f o st.E (.tmp t)) (a.eval (.tmp t)) B ∧ (∀ b ∈ B, takes H f o = true ∧ b ∈ O (.tmp t)) ∧ Lin B := by
        by_cases hlt : t < st.E.length
        · obtain ⟨v, hv, hr⟩ := h.env t _ (List.getElem?_eq_getElem hlt)
          have e1 : a.eval (.tmp t) = v := by
            simp only [Act.eval]
            rw [Array.getD_eq_getD_getElem?, hv]; rfl
          have e2 : st.E.getD t .undef = st.E[t] := by simp [hlt]
          by_cases htk : takes H f o = true
          · exact ⟨O (.tmp t), by rw [e1]; simp only [rd, htk, if_true, e2]; exact hr, fun b hb => ⟨htk, hb⟩, h.lin _⟩
          · exact ⟨[], by rw [e1]; simp only [rd, htk, e2]; exact rep_dull hr, by simp, Lin.nil⟩
        · have e2 : st.E.getD t .undef = .undef := by simp [List.getElem?_eq_none (Nat.not_lt.1 hlt)]
          refine ⟨[], ?_, by simp, Lin.nil⟩
          simp only [rd, e2]
          split <;> simp [Rep, V.dull, V.reflag]
      obtain ⟨B, hB, hBs, hBl⟩ := hv
      refine ⟨B ++ A, by simp only [List.map_cons, RepL]; exact ⟨_, _, B, A, rfl, rfl, hB, hA⟩, fun b hb => ?_, fun b => ?_⟩
      · rcases List.mem_append.1 hb with hb | hb
        · exact ⟨(hBs b hb).1, t, by simp [tmpsOfL], (hBs b hb).2⟩
        · obtain ⟨h1, s, hs, hb⟩ := hAs b hb; exact ⟨h1, s, hsub s hs, hb⟩
      · rw [List.count_append]
        have h1 := hBl b; have h2 := hAl b
        by_cases hb : b ∈ B
        · have : A.count b = 0 := List.count_eq_zero.2 fun hbA => by
            obtain ⟨htk, s, hs, hbs⟩ := hAs b hbA
            have hts : t ≠ s := fun e => (nodupT_cons (by simpa [tmpsOfL] using hn htk)).1 (by subst e; exact hs)
            exact h.dis (.tmp t) (.tmp s) (fun e => hts (by cases e; rfl)) b (hBs b hb).2 hbs
          omega
        · have : B.count b = 0 := List.count_eq_zero.2 hb
          omega
    | const v =>
      refine ⟨A, by simp only [List.map_cons, RepL]; exact ⟨_, _, [], A, rfl, rfl, by simp only [rd, Act.eval]; exact rep_ofConst _ _, hA⟩, fun b hb => ?_, hAl⟩
      obtain ⟨h1, s, hs, hb⟩ := hAs b hb; exact ⟨h1, s, hsub s hs, hb⟩
    | func g =>
      refine ⟨A, by simp only [List.map_cons, RepL]; exact ⟨_, _, [], A, rfl, rfl, by simp only [rd, Act.eval, Rep]; exact ⟨[], [], [], [], rfl, rfl, by simp [RepL], by simp [RepL]⟩, hA⟩, fun b hb => ?_, hAl⟩
      obtain ⟨h1, s, hs, hb⟩ := hAs b hb; exact ⟨h1, s, hsub s hs, hb⟩
    | global g =>
      refine ⟨A, by simp only [List.map_cons, RepL]; exact ⟨_, _, [], A, rfl, rfl, by simp [rd, Rep], hA⟩, fun b hb => ?_, hAl⟩
      obtain ⟨h1, s, hs, hb⟩ := hAs b hb; exact ⟨h1, s, hsub s hs, hb⟩

theorem getD_ptrs {E : List V} {t : Nat} {r : Root} (h : r ∈ (E.getD t .undef).ptrs) : r ∈ ptrsL E := by
  by_cases hlt : t < E.length
  · have e2 : E.getD t .undef = E[t] := by simp [hlt]
    rw [e2] at h
    exact mem_ptrsL.2 ⟨_, List.getElem_mem hlt, h⟩
  · have e2 : E.getD t .undef = .undef := by simp [List.getElem?_eq_none (by omega : E.length ≤ t)]
    rw [e2] at h; simp [V.ptrs] at h

theorem rd_ptrs {o : Oper} {E : List V} {x : Operand} {r : Root} (h : r ∈ (rd H f o E x).ptrs) : r ∈ ptrsL E := by
  cases x with
  | tmp t =>
    simp only [rd] at h
    split at h
    · exact getD_ptrs h
    · rw [ptrs_dull] at h; exact getD_ptrs h
  | const v => simp only [rd] at h; rw [ptrs_ofConst] at h; simp at h
  | func g => simp [rd, V.ptrs, ptrsL] at h
  | global g => simp [rd, V.ptrs] at h

theorem rdL_ptrs {o : Oper} {E : List V} {l : List Operand} {r : Root} (h : r ∈ ptrsL (l.map (rd H f o E))) : r ∈ ptrsL E := by
  obtain ⟨x, hx, hr⟩ := mem_ptrsL.1 h
  obtain ⟨y, _, rfl⟩ := List.mem_map.1 hx
  exact rd_ptrs hr

/-- the activation's state, and what has become of the world since it began -/
def Sim (w0 : World) (X0 : Cx) (M : Md) (n : Nat) (st : St) (tmps : Array Value) (w : World) : Prop := ∃ X O, Rel st tmps w X O ∧ Fr w0 X0 M n st w X O

theorem dullAt_nil (E : List V) : dullAt E [] = E := rfl

/-- AN OPERATION THAT TOUCHES NO BOX -/
theorem step_value {w0 : World} {X0 : Cx} {M : Md} {n : Nat} {st : St} {a : Act} {O : Pl → List Nat} {o : Oper} {z : V} (h : Rel st a.tmps w X O) (hF : Fr w0 X0 M n st w X O)
    (hn : takes H f o = true → nodupT (tmpsOf o) = true) (hx : opSem P H f (takes H f o) o.op o.type (o.op.operands.toList.map (rd H f o st.E)) none = some (z, none)) :
    ∃ v w', (execOp a.eval o).run P w = .ok (.value v) w' ∧ Sim w0 X0 M n ((if takes H f o then { st with E := dullAt st.E (tmpsOf o) } else st).put o.dst z) (a.put o.dst v).tmps w' := by
  obtain ⟨Oin, hrep, hs, hlin⟩ := rel_operands h o _ hn
  obtain ⟨v, w', X', O', hrun, heff, hz, hl, hO'⟩ := opSem_ok h.dom hlin hx hrep
  refine ⟨v, w', hrun, X', ?_⟩
  have hp : ∀ r ∈ z.ptrs, (st.box r).isSome = true := fun r hr => by
    rcases opSem_ptrs hx r hr with h1 | ⟨cs, h1, _⟩
    · exact h.ptrE r (rdL_ptrs h1)
    · simp at h1
  have hput : (a.put o.dst v).tmps = putT a.tmps o.dst v := by cases o.dst <;> rfl
  rw [hput]
  by_cases ht : takes H f o = true
  · rw [if_pos ht]
    exact ⟨_, h.put (T := tmpsOf o) o.dst (fun b hb => (hs b hb).2) heff hz hl (h.free (fun b hb => (hs b hb).2) hO') hp, Fr.put h hF (T := tmpsOf o) o.dst (fun b hb => (hs b hb).2) heff hO'⟩
  · rw [if_neg ht]
    have hnil : Oin = [] := by
      cases Oin with
      | nil => rfl
      | cons b l => exact absurd (hs b (by simp)).1 ht
    subst hnil
    exact ⟨_, h.put (T := []) (Oin := []) o.dst (by simp) heff hz hl (h.free (Oin := []) (T := []) (by simp) hO') hp, Fr.put h hF (T := []) o.dst (by simp) heff hO'⟩

/-! ### boxes -/
theorem lookB_set {B : Level} {s s' : Nat} {c : List V} : lookB (setB B s c) s' = if s' = s then (lookB B s).map (fun _ => c) else lookB B s' := by
  induction B with
  | nil => simp [setB, lookB]
  | cons p B ih =>
    obtain ⟨k, c0⟩ := p
    simp only [setB]
    by_cases hk : k = s
    · subst hk
      by_cases hs : s' = k
      · subst hs; simp [lookB]
      · simp [lookB, hs, Ne.symm hs]
    · simp only [hk, if_false, lookB]
      by_cases hs : s' = s
      · subst hs
        simp [hk, ih]
      · by_cases hks : k = s'
        · simp [hks, hs]
        · simp [hks, hs, ih]

theorem box_setBox (st : St) (r r' : Root) (c : List V) : (st.setBox r c).box r' = if r' = r then (st.box r).map (fun _ => c) else st.box r' := by
  obtain ⟨lvl, slot⟩ := r
  obtain ⟨lvl', slot'⟩ := r'
  unfold St.setBox St.box
  by_cases h1 : lvl = st.L.length
  · simp only [h1, if_true]
    by_cases h2 : lvl' = st.L.length
    · subst h2
      simp only [if_true, lookB_set, Root.mk.injEq, true_and]
    · simp only [h2, if_false, Root.mk.injEq, false_and]
  · simp only [h1, if_false, List.length_modify]
    by_cases h2 : lvl' = st.L.length
    · subst h2
      simp only [if_true, Root.mk.injEq]
      rw [if_neg (by rintro ⟨h, _⟩; exact h1 h.symm)]
    · simp only [h2, if_false, List.getElem?_modify, Root.mk.injEq]
      by_cases h3 : lvl = lvl'
      · subst h3
        simp only [if_true, true_and]
        cases hl : st.L[lvl]? with
        | none => simp
        | some b => simp [lookB_set]
      · simp only [h3, if_false, Ne.symm h3, false_and]
        cases st.L[lvl']? <;> simp

theorem setBox_L (st : St) (r : Root) (c : List V) : (st.setBox r c).L.length = st.L.length := by
  unfold St.setBox; split <;> simp
theorem setBox_E (st : St) (r : Root) (c : List V) : (st.setBox r c).E = st.E := by
  unfold St.setBox; split <;> rfl

theorem box_cons (st : St) (d : Nat) (c : List V) (r : Root) : ({ st with B := (d, c) :: st.B } : St).box r = if r = ⟨st.L.length, d⟩ then some c else st.box r := by
  obtain ⟨lvl, slot⟩ := r
  unfold St.box
  by_cases h1 : lvl = st.L.length
  · subst h1
    simp only [if_true, lookB, Root.mk.injEq, true_and]
    by_cases h2 : d = slot
    · simp [h2]
    · simp [h2, Ne.symm h2]
  · simp only [h1, if_false, Root.mk.injEq, false_and]
end Go.Ab
