/-
  WHAT THE TYPED FUNCTIONS OF THE SENSOR PACKAGE ANSWER: channels, watches.
-/
import Derived.Test.YtpiggpgocnlomaaPW1
set_option linter.unusedVariables false
set_option linter.unusedSimpArgs false
namespace Go.Proofs.Ytpiggpgocnlomaa
open Go Go.Ab Go.Tx
/-- a channel's fault -/
def eC (n : Int) (c : List Int) : Int := if rawE c = 0 then (if (c.length : Int) = n then 0 else 13) else rawE c
def gC (n : Int) (i : Nat) (c : List Int) : Option (Int × Int) := if eC n c = 0 then none else some ((i : Int), eC n c)
theorem findI_gC (n : Int) : ∀ (l : List (List Int)) (k : Nat), ((findI (gC n) k l).getD (0, 0)).2 = firstE (l.map (eC n))
  | [], k => rfl
  | c :: l, k => by
    simp only [findI, gC, List.map_cons, firstE]
    by_cases h : eC n c = 0
    · simp only [h, if_true]; exact findI_gC n l (k + 1)
    · simp [h]
theorem firstE_single (a : Int) : firstE [a] = a := by simp only [firstE]; split <;> simp_all
theorem channelsErr_eq (a0 : List (List Int)) (m n : Int) (hl : a0.length ≤ big) (hc : ∀ c ∈ a0, c.length ≤ big) :
    sensor_channelsErr a0 m n = some (firstE [if 0 < a0.length then 0 else 10, if (a0.length : Int) ≤ m then 0 else 8, firstE (a0.map (eC n))]) := by
  unfold sensor_channelsErr
  rw [loop_list a0 (gC n)]
  · have h1 : ((Option.some (toSum (findI (gC n) 0 a0))).bind (Sum.elim (fun (p7 : Unit) => some (0, 0)) some)) = some ((findI (gC n) 0 a0).getD (0, 0)) := by
      cases findI (gC n) 0 a0 <;> simp [toSum]
    rw [h1]
    simp only [Option.bind_some, unless_eq, findI_gC]
    rw [first_of (by simp)]
    simp
  · intro i a hi
    have hlt : i < a0.length := (List.getElem?_eq_some_iff.1 hi).1
    have h1 : (i : Int) < (a0.length : Int) := by omega
    have h2 := hc a (List.mem_of_getElem? hi)
    unfold big at hl
    simp only [h1, decide_true, cond_true, idx_of hi, Option.bind_some, wrap_id (n := (i : Int) + 1) (by omega) (by omega), rawErr_eq a h2, unless_eq]
    rw [first_of (by simp)]
    simp only [Option.bind_some, firstE, gC, eC]
    by_cases h3 : rawE a = 0
    · by_cases h4 : (a.length : Int) = n <;> simp [h3, h4, stp]
    · simp [h3, stp]
  · simp
def n0 : List (List Int) → Nat
  | [] => 0
  | c :: _ => c.length
theorem samplesOf_eq (a0 : List (List Int)) : sensor_samplesOf a0 = some (n0 a0 : Int) := by
  unfold sensor_samplesOf
  cases a0 with
  | nil => simp [n0]
  | cons c l =>
    have : ¬ (((c :: l).length : Nat) : Int) = 0 := by simp; omega
    simp only [this, decide_false, cond_false, idx_zero]
    simp [n0]
def chanE (a0 : List (List Int)) (m : Int) : Int := firstE [if 0 < a0.length then 0 else 10, if (a0.length : Int) ≤ m then 0 else 8, firstE (a0.map (eC (n0 a0)))]
theorem ChannelsErr_eq (a0 : List (List Int)) (m : Int) (hl : a0.length ≤ big) : ref07_ChannelsErr a0 m = some (chanE a0 m) := by
  unfold ref07_ChannelsErr chanE
  unfold big at hl
  by_cases h0 : a0.length = 0
  · have : a0 = [] := List.eq_nil_of_length_eq_zero h0
    subst this
    simp [firstE]
  · have h0' : ¬ (a0.length : Int) = 0 := by omega
    have h0'' : 0 < a0.length := by omega
    by_cases h1 : (a0.length : Int) ≤ m
    · have h1' : ¬ (a0.length : Int) > m := by omega
      simp only [h0', h1', h0'', h1, decide_false, cond_false, if_true]
      rw [loop_list a0 (fun _ c => if eC (n0 a0) c = 0 then none else some (eC (n0 a0) c))]
      · rw [findI_const]
        have key : ∀ l : List (List Int), ((Option.some (toSum (l.findSome? (fun c => if eC (n0 a0) c = 0 then none else some (eC (n0 a0) c))))).bind (Sum.elim (fun (p7 : Unit) => some (0 : Int)) some)) = some (firstE (l.map (eC (n0 a0)))) := by
          intro l
          induction l with
          | nil => rfl
          | cons c l ih =>
            simp only [List.findSome?_cons, List.map_cons, firstE]
            by_cases h : eC (n0 a0) c = 0
            · simp only [h, if_true]; exact ih
            · simp [h, toSum]
        rw [key]
        simp only [firstE, if_true]
        split <;> simp_all
      · intro i a hi
        have hlt : i < a0.length := (List.getElem?_eq_some_iff.1 hi).1
        have h2 : (i : Int) < (a0.length : Int) := by omega
        have h3 : idx a0 0 = some (a0[0]'h0'') := by rw [idx_zero, List.getElem?_eq_getElem h0'']
        have h4 : (a0[0]'h0'').length = n0 a0 := by cases a0 with
          | nil => simp at h0
          | cons c l => simp [n0]
        simp only [h2, decide_true, cond_true, idx_of hi, Option.bind_some, wrap_id (n := (i : Int) + 1) (by omega) (by omega), RawErr_eq, h3, h4, eC]
        by_cases h5 : rawE a = 0
        · by_cases h6 : (a.length : Int) = n0 a0 <;> simp [h5, h6, stp]
        · simp [h5, stp]
      · simp
    · have h1' : (a0.length : Int) > m := by omega
      simp only [h0', h1', h0'', h1, firstE, decide_false, decide_true, cond_false, cond_true, if_true, if_false]
      simp
def okW (a0 : List (List Int)) (a1 : Int × Int × Int × Unit) : Prop := (0 ≤ a1.1 ∧ a1.1 ≤ 100000) ∧ (1 ≤ a1.2.1 ∧ a1.2.1 ≤ (a0.length : Int)) ∧ (1 ≤ a1.2.2.1 ∧ a1.2.2.1 ≤ 60)
instance (a0 : List (List Int)) (a1 : Int × Int × Int × Unit) : Decidable (okW a0 a1) := by unfold okW; infer_instance
def watchE (a0 : List (List Int)) (a1 : Int × Int × Int × Unit) : Int := if chanE a0 7 = 0 then (if okW a0 a1 then 0 else 2) else chanE a0 7
theorem openWatch_eq (a0 : List (List Int)) (a1 : Int × Int × Int × Unit) (hl : a0.length ≤ big) (hc : ∀ c ∈ a0, c.length ≤ big) :
    sensor_openWatch a0 a1 = some ((a1.1, a1.2.1, a1.2.2.1, a0, ()), watchE a0 a1) := by
  unfold sensor_openWatch
  simp only [within_eq, samplesOf_eq, channelsErr_eq a0 _ _ hl hc, unless_eq, Option.bind_some]
  have h : ((bif decide (0 ≤ a1.1 ∧ a1.1 ≤ 100000) then bif decide (1 ≤ a1.2.1 ∧ a1.2.1 ≤ (a0.length : Int)) then some (decide (1 ≤ a1.2.2.1 ∧ a1.2.2.1 ≤ 60)) else some false else some false) : Option Bool) = some (decide (okW a0 a1)) := by
    by_cases h1 : 0 ≤ a1.1 ∧ a1.1 ≤ 100000
    · by_cases h2 : 1 ≤ a1.2.1 ∧ a1.2.1 ≤ (a0.length : Int)
      · simp only [h1, h2, okW, decide_true, cond_true, true_and, and_self]
      · simp only [h1, h2, okW, decide_true, decide_false, cond_true, cond_false, and_self, false_and, and_false]
    · simp only [h1, okW, decide_false, cond_false, false_and]
  rw [h]
  simp only [Option.bind_some]
  rw [first_of (by simp)]
  simp only [Option.bind_some, Option.some.injEq, Prod.mk.injEq, true_and]
  unfold watchE
  show firstE [chanE a0 7, _] = _
  simp only [firstE]
  by_cases h1 : chanE a0 7 = 0
  · by_cases h2 : okW a0 a1 <;> simp [h1, h2]
  · simp [h1]
theorem WatchErr_eq (a0 : List (List Int)) (a1 : Int × Int × Int × Unit) (hl : a0.length ≤ big) : ref07_WatchErr a0 a1 = some (watchE a0 a1) := by
  unfold ref07_WatchErr
  simp only [Within_eq, ChannelsErr_eq a0 _ hl, Option.bind_some]
  unfold watchE
  by_cases h0 : chanE a0 7 = 0
  · by_cases h1 : 0 ≤ a1.1 ∧ a1.1 ≤ 100000
    · by_cases h2 : 1 ≤ a1.2.1 ∧ a1.2.1 ≤ (a0.length : Int)
      · by_cases h3 : 1 ≤ a1.2.2.1 ∧ a1.2.2.1 ≤ 60
        · have hk : okW a0 a1 := ⟨h1, h2, h3⟩
          simp [h0, h1, h2, h3, hk]
        · have hk : ¬ okW a0 a1 := fun h => h3 h.2.2
          simp only [h0, h1, h2, h3, hk]; simp
      · have hk : ¬ okW a0 a1 := fun h => h2 h.2.1
        simp only [h0, h1, h2, hk]; simp
    · have hk : ¬ okW a0 a1 := fun h => h1 h.1
      simp only [h0, h1, hk]; simp
  · simp [h0]
theorem firstE_zero : ∀ {l : List Int}, firstE l = 0 → ∀ a ∈ l, a = 0
  | [], _, a, h => by cases h
  | b :: l, h, a, ha => by
    simp only [firstE] at h
    split at h
    · rename_i e
      rcases List.mem_cons.1 ha with rfl | ha
      · exact e
      · exact firstE_zero h a ha
    · rename_i e; exact absurd h e
theorem rawE_zero {l : List Int} (h : rawE l = 0) : 0 < l.length ∧ l.length ≤ 60 ∧ ∀ v ∈ l, -100000 ≤ v ∧ v ≤ 100000 := by
  unfold rawE at h
  split at h
  · cases h
  · split at h
    · cases h
    · split at h
      · rename_i h1 h2 h3; exact ⟨by omega, by omega, h3⟩
      · cases h
theorem chanE_zero {a0 : List (List Int)} {m : Int} (h : chanE a0 m = 0) : 0 < a0.length ∧ (a0.length : Int) ≤ m ∧ ∀ c ∈ a0, rawE c = 0 ∧ c.length = n0 a0 := by
  unfold chanE at h
  have h1 := firstE_zero h
  simp only [List.mem_cons, List.mem_nil_iff, or_false, forall_eq_or_imp, forall_eq] at h1
  obtain ⟨h2, h3, h4⟩ := h1
  refine ⟨?_, ?_, fun c hc => ?_⟩
  · by_cases h : 0 < a0.length
    · exact h
    · rw [if_neg h] at h2; cases h2
  · by_cases h : (a0.length : Int) ≤ m
    · exact h
    · rw [if_neg h] at h3; cases h3
  · have := firstE_zero h4 (eC (n0 a0) c) (List.mem_map_of_mem hc)
    unfold eC at this
    split at this
    · rename_i e
      split at this
      · rename_i e2; exact ⟨e, by omega⟩
      · cases this
    · rename_i e; exact absurd this e
theorem watchE_zero {a0 : List (List Int)} {a1 : Int × Int × Int × Unit} (h : watchE a0 a1 = 0) : chanE a0 7 = 0 ∧ okW a0 a1 := by
  unfold watchE at h
  split at h
  · rename_i e
    split at h
    · rename_i e2; exact ⟨e, e2⟩
    · cases h
  · rename_i e; exact absurd h e
end Go.Proofs.Ytpiggpgocnlomaa
