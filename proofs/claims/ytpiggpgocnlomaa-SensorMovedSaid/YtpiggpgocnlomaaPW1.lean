/-
  WHAT THE TYPED FUNCTIONS OF THE SENSOR PACKAGE ANSWER: checks.
-/
import Derived.Test.YtpiggpgocnlomaaFa
import Derived.Test.YtpiggpgocnlomaaPuA
set_option linter.unusedVariables false
set_option linter.unusedSimpArgs false
namespace Go.Proofs.Ytpiggpgocnlomaa
open Go Go.Ab Go.Tx
def big : Nat := 9223372036854775807
theorem within_eq (a b c : Int) : sensor_within a b c = some (decide (b ≤ a ∧ a ≤ c)) := by
  unfold sensor_within
  by_cases h : b ≤ a <;> simp [h]
theorem Within_eq (a b c : Int) : base_Within a b c = some (decide (b ≤ a ∧ a ≤ c)) := by
  unfold base_Within
  by_cases h : b ≤ a <;> simp [h]
theorem unless_eq (b : Bool) (v : Int) : sensor_unless b v = some (if b then 0 else v) := by
  unfold sensor_unless
  cases b <;> simp
def firstE : List Int → Int
  | [] => 0
  | a :: l => if a = 0 then firstE l else a
theorem first_eq (l : List Int) (hl : l.length ≤ big) : sensor_first l = some (firstE l) := by
  unfold sensor_first
  unfold big at hl
  rw [loop_list l (fun _ a => if a = 0 then none else some a)]
  · rw [findI_const]
    simp only [Option.bind_some]
    clear hl
    induction l with
    | nil => rfl
    | cons a l ih =>
      simp only [List.findSome?_cons, firstE]
      by_cases h : a = 0
      · simp only [h, if_true]; exact ih
      · simp [h, toSum]
  · intro i a hi
    have hlt : i < l.length := (List.getElem?_eq_some_iff.1 hi).1
    have h1 : (i : Int) < (l.length : Int) := by omega
    simp only [h1, decide_true, cond_true, idx_of hi, Option.bind_some, wrap_id (n := (i : Int) + 1) (by omega) (by omega)]
    by_cases h : a = 0 <;> simp [h, stp]
  · simp
theorem first_of {l : List Int} (hl : l.length ≤ 100) : sensor_first l = some (firstE l) := first_eq l (by unfold big; omega)
theorem sized_eq (a b : Int) (h1 : 0 ≤ b) (h2 : b ≤ 9223372036854775807) : sensor_sized a b = some (decide (-b ≤ a ∧ a ≤ b)) := by
  unfold sensor_sized
  rw [within_eq]
  simp only [w64, wrap_id (n := 0 - b) (by omega) (by omega), Option.bind_some]
  congr 2
  simp
def rawE (l : List Int) : Int := if l.length = 0 then 10 else if 60 < l.length then 8 else if ∀ v ∈ l, -100000 ≤ v ∧ v ≤ 100000 then 0 else 2
theorem CheckRaw_1_eq (i a : Int) : sensor_CheckRaw_1 i a = some (if -100000 ≤ a ∧ a ≤ 100000 then 0 else 2) := by
  unfold sensor_CheckRaw_1
  rw [sized_eq _ _ (by omega) (by omega)]
  simp [unless_eq]
def gRaw (i : Nat) (a : Int) : Option (Int × Int) := if -100000 ≤ a ∧ a ≤ 100000 then none else some ((i : Int), 2)
theorem findI_raw : ∀ (l : List Int) (k : Nat), (findI gRaw k l = none ∧ ∀ v ∈ l, -100000 ≤ v ∧ v ≤ 100000) ∨ (∃ r, findI gRaw k l = some r ∧ r.2 = 2 ∧ ¬ ∀ v ∈ l, -100000 ≤ v ∧ v ≤ 100000)
  | [], k => .inl ⟨rfl, by simp⟩
  | a :: l, k => by
    simp only [findI, gRaw]
    by_cases h : -100000 ≤ a ∧ a ≤ 100000
    · simp only [h, if_true, and_self]
      rcases findI_raw l (k + 1) with ⟨h1, h2⟩ | ⟨r, h1, h2, h3⟩
      · refine .inl ⟨h1, ?_⟩
        intro v hv
        rcases List.mem_cons.1 hv with rfl | hv
        · exact h
        · exact h2 v hv
      · exact .inr ⟨r, h1, h2, fun hh => h3 fun v hv => hh v (List.mem_cons_of_mem _ hv)⟩
    · refine .inr ⟨((k : Int), 2), by simp [h], rfl, fun hh => h (hh a (List.mem_cons_self))⟩
theorem each_eq (l : List Int) (hl : l.length ≤ big) : sensor_each_int_of_sensor_CheckRaw_1 l = some ((findI gRaw 0 l).getD (0, 0)) := by
  unfold sensor_each_int_of_sensor_CheckRaw_1
  unfold big at hl
  rw [loop_list l gRaw]
  · simp only [Option.bind_some]
    cases findI gRaw 0 l <;> simp [toSum]
  · intro i a hi
    have hlt : i < l.length := (List.getElem?_eq_some_iff.1 hi).1
    have h1 : (i : Int) < (l.length : Int) := by omega
    simp only [h1, decide_true, cond_true, idx_of hi, Option.bind_some, wrap_id (n := (i : Int) + 1) (by omega) (by omega), CheckRaw_1_eq]
    by_cases h : -100000 ≤ a ∧ a ≤ 100000 <;> simp [h, stp, gRaw]
  · simp
theorem rawErr_eq (l : List Int) (hl : l.length ≤ big) : sensor_rawErr l = some (rawE l) := by
  unfold sensor_rawErr sensor_CheckRaw
  simp only [unless_eq, Option.bind_some]
  rw [first_of (by simp)]
  simp only [Option.bind_some, firstE, each_eq l hl]
  unfold rawE
  by_cases h0 : l.length = 0
  · simp [h0]
  · by_cases h1 : 60 < l.length
    · have a1 : (l.length : Int) > 0 := by omega
      have a2 : ¬ (l.length : Int) ≤ 60 := by omega
      simp [h0, h1, a1, a2]
    · have a1 : (l.length : Int) > 0 := by omega
      have a2 : (l.length : Int) ≤ 60 := by omega
      rcases findI_raw l 0 with ⟨h2, h3⟩ | ⟨r, h2, h3, h4⟩
      · simp only [a1, a2, h0, h1, h2, decide_true, if_true, if_false, if_pos h3]; simp
      · simp only [a1, a2, h0, h1, h2, decide_true, if_true, if_false, if_neg h4]; simp [h3]
theorem RawErr_eq (l : List Int) : ref07_RawErr l = some (rawE l) := by
  unfold ref07_RawErr ref07_CheckRaw rawE
  by_cases h0 : l.length = 0
  · simp [h0]
  · by_cases h1 : 60 < l.length
    · have a1 : ¬ (l.length : Int) = 0 := by omega
      have a2 : (l.length : Int) > 60 := by omega
      simp only [a1, a2, h0, h1]; simp
    · have a1 : ¬ (l.length : Int) = 0 := by omega
      have a2 : ¬ (l.length : Int) > 60 := by omega
      rw [loop_list l gRaw]
      · rcases findI_raw l 0 with ⟨h2, h3⟩ | ⟨r, h2, h3, h4⟩
        · simp only [a1, a2, h0, h1, h2, if_pos h3, toSum]; simp
        · simp only [a1, a2, h0, h1, h2, if_neg h4, toSum]; simp [h3]
      · intro i a hi
        have hlt : i < l.length := (List.getElem?_eq_some_iff.1 hi).1
        have h1 : (i : Int) < (l.length : Int) := by omega
        simp only [h1, decide_true, cond_true, idx_of hi, Option.bind_some, wrap_id (n := (i : Int) + 1) (by omega) (by omega), Within_eq]
        by_cases h : -100000 ≤ a ∧ a ≤ 100000 <;> simp [h, stp, gRaw]
      · simp
theorem samples_eq (l : List Int) : law07_samples l = some (decide (l.length ≤ 62)) := by
  unfold law07_samples
  congr 2
  exact propext (by omega)
theorem channels_eq (l : List (List Int)) (hl : l.length ≤ big) : law07_channels l = some (decide ((∀ c ∈ l, c.length ≤ 62) ∧ l.length ≤ 9)) := by
  unfold law07_channels
  unfold big at hl
  rw [loop_list l (fun _ c => if c.length ≤ 62 then none else some false)]
  · rw [findI_const]
    have key : l.findSome? (fun c => if c.length ≤ 62 then none else some false) = if ∀ c ∈ l, c.length ≤ 62 then none else some false := by
      clear hl
      induction l with
      | nil => simp
      | cons a l ih =>
        simp only [List.findSome?_cons]
        by_cases h : a.length ≤ 62
        · simp only [h, if_true, ih, List.mem_cons, forall_eq_or_imp, true_and]
        · simp [h]
    rw [key]
    by_cases h : ∀ c ∈ l, c.length ≤ 62
    · rw [if_pos h]
      simp only [Option.bind_some, toSum, Sum.elim_inl, Option.some.injEq, decide_eq_decide]
      constructor
      · intro h2; exact ⟨h, by omega⟩
      · intro h2; have := h2.2; omega
    · rw [if_neg h]
      simp only [Option.bind_some, toSum, Sum.elim_inr, Option.some.injEq]
      exact (decide_eq_false (fun h2 => h h2.1)).symm
  · intro i a hi
    have hlt : i < l.length := (List.getElem?_eq_some_iff.1 hi).1
    have h1 : (i : Int) < (l.length : Int) := by omega
    simp only [h1, decide_true, cond_true, idx_of hi, Option.bind_some, wrap_id (n := (i : Int) + 1) (by omega) (by omega), samples_eq]
    by_cases h : a.length ≤ 62 <;> simp [h, stp]
  · simp
theorem CopyInts_eq (l : List Int) (hl : l.length ≤ 4294967296) : base_CopyInts l = some l := by
  unfold base_CopyInts
  rw [app_of (by simpa using hl)]
  rfl
theorem CopyLists_eq (l : List (List Int)) (hl : l.length ≤ 4294967295) (h : ∀ c ∈ l, c.length ≤ 4294967296) : base_CopyLists l = some l := by
  unfold base_CopyLists
  have key : ∀ (l2 : List (List Int)) (k : Nat) (b : List (List Int)), foldI (fun _ b a => b ++ [a]) k b l2 = b ++ l2 := by
    intro l2
    induction l2 with
    | nil => intro k b; simp [foldI]
    | cons a l2 ih => intro k b; simp [foldI, ih]
  rw [loop_fold l (fun _ b a => b ++ [a]) id (fun i b => b.length = i) rfl]
  · simp [key]
  · intro i a b hi hb
    have hlt : i < l.length := (List.getElem?_eq_some_iff.1 hi).1
    have h1 : (i : Int) < (l.length : Int) := by omega
    have h2 := h a (List.mem_of_getElem? hi)
    refine ⟨?_, by simp [hb]⟩
    simp only [h1, decide_true, cond_true, idx_of hi, Option.bind_some, wrap_id (n := (i : Int) + 1) (by omega) (by omega), CopyInts_eq a h2]
    rw [app_of (by simp; omega)]
    rfl
  · intro b hb
    simp
end Go.Proofs.Ytpiggpgocnlomaa
