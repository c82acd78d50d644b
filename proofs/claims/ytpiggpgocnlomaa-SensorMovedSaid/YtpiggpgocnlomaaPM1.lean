/-
  THE LAW SensorMoved: its typed function answers true.
-/
import Derived.Test.YtpiggpgocnlomaaPS3
import Derived.Test.YtpiggpgocnlomaaFb
set_option linter.unusedVariables false
set_option linter.unusedSimpArgs false
namespace Go.Proofs.Ytpiggpgocnlomaa
open Go Go.Ab Go.Tx
theorem sp_swap {a0 a1 : List Int} (hl : a0.length = a1.length) (d : Nat) : ∀ k : Nat, k + d ≤ a0.length → sp a1 a0 (-(d : Int)) (k + d) = sp a0 a1 d k
  | 0, h => by rw [Nat.zero_add, sp_zero d (by omega)]; rfl
  | k + 1, h => by
    have ih := sp_swap hl d k (by omega)
    rw [show k + 1 + d = (k + d) + 1 by omega]
    simp only [sp]
    rw [ih, if_pos (by omega), if_pos (by omega)]
    rw [show (((k + d : Nat) : Int) + -(d : Int)).toNat = k by omega, show ((k : Int) + (d : Int)).toNat = k + d by omega, Int.mul_comm]
theorem S_swapN {a0 a1 : List Int} (hl : a0.length = a1.length) (d : Nat) : S a1 a0 (-(d : Int)) = S a0 a1 d := by
  unfold S
  by_cases h : d ≤ a0.length
  · have h1 := sp_swap hl d (a0.length - d) (by omega)
    have h2 := sp_stay (a0 := a0) (a1 := a1) (d := (d : Int)) (j := a0.length - d) (by omega) d
    rw [show a0.length - d + d = a0.length by omega] at h1 h2
    rw [← hl, h1, h2]
  · rw [sp_zero _ (by omega), sp_zero _ (by omega)]
theorem S_swap {a0 a1 : List Int} (hl : a0.length = a1.length) (d : Int) : S a1 a0 (-d) = S a0 a1 d := by
  by_cases h : 0 ≤ d
  · obtain ⟨n, rfl⟩ : ∃ n : Nat, d = n := ⟨d.toNat, by omega⟩
    exact S_swapN hl n
  · obtain ⟨n, rfl⟩ : ∃ n : Nat, d = -(n : Int) := ⟨(-d).toNat, by omega⟩
    have := S_swapN hl.symm n
    rw [Int.neg_neg]
    exact this.symm
theorem Best.top {F : Int → Int} {m r : Int} (h : Best F m r) {i : Int} (h1 : -m ≤ i) (h2 : i ≤ m) : F i ≤ F r := by
  have := h.2.2 i h1 h2
  unfold bt at this
  omega
theorem Has_eq (l : List Int) (v : Int) (hl : l.length ≤ big) : base_Has l v = some (decide (v ∈ l)) := by
  unfold base_Has
  unfold big at hl
  rw [loop_list l (fun _ a => if a = v then some true else none)]
  · rw [findI_const]
    have key : l.findSome? (fun a => if a = v then some true else none) = if v ∈ l then some true else none := by
      clear hl
      induction l with
      | nil => simp
      | cons a l ih =>
        simp only [List.findSome?_cons]
        by_cases h : a = v
        · simp [h]
        · have h' : ¬ v = a := fun e => h e.symm
          simp [h, h', ih]
    rw [key]
    by_cases h : v ∈ l <;> simp [h, toSum]
  · intro i a hi
    have hlt : i < l.length := (List.getElem?_eq_some_iff.1 hi).1
    have h1 : (i : Int) < (l.length : Int) := by omega
    simp only [h1, decide_true, cond_true, idx_of hi, Option.bind_some, wrap_id (n := (i : Int) + 1) (by omega) (by omega)]
    by_cases h : a = v <;> simp [h, stp]
  · simp
theorem stL_sub (l y : List Int) {a b : Int} (h : a ≤ b) : ∀ k, (∀ v ∈ stL l y b k, v ∈ stL l y a k) ∧ (stL l y b k).length ≤ (stL l y a k).length
  | 0 => by simp [stL]
  | k + 1 => by
    obtain ⟨h1, h2⟩ := stL_sub l y h k
    simp only [stL]
    by_cases c1 : -a ≤ cv l (k + 1) - y.getD (k + 1) 0 ∧ cv l (k + 1) - y.getD (k + 1) 0 ≤ a
    · have c2 : -b ≤ cv l (k + 1) - y.getD (k + 1) 0 ∧ cv l (k + 1) - y.getD (k + 1) 0 ≤ b := by omega
      rw [if_pos c1, if_pos c2]
      exact ⟨h1, h2⟩
    · rw [if_neg c1]
      split
      · exact ⟨fun v hv => List.mem_append_left _ (h1 v hv), by simp; omega⟩
      · refine ⟨fun v hv => ?_, by simp; omega⟩
        rcases List.mem_append.1 hv with hv | hv
        · exact List.mem_append_left _ (h1 v hv)
        · exact List.mem_append_right _ hv
theorem stL_nil {l y : List Int} : ∀ k, (∀ j, j < k → y.getD (j + 1) 0 = cv l (j + 1)) → stL l y 0 k = []
  | 0, _ => rfl
  | k + 1, h => by
    simp only [stL]
    have := h k (by omega)
    rw [if_pos (by omega)]
    exact stL_nil k fun j hj => h j (by omega)
def allIn (l : List Int) : Prop := ∀ v ∈ l, -1000 ≤ v ∧ v ≤ 1000
theorem edge_eq {l : List Int} (g : Good l) (ha : allIn l) (h3 : 3 ≤ l.length) :
    sensor_StrangeIn l ([0] ++ cvs l (l.length - 2) ++ [0]) 0 = some ([], 0) := by
  have hlen := g.len
  have hl2 : ([0] ++ cvs l (l.length - 2) ++ [0]).length = l.length := by simp [cvs_len]; omega
  have hb : ∀ i, -1000 ≤ l.getD i 0 ∧ l.getD i 0 ≤ 1000 := fun i => by
    by_cases hi : i < l.length
    · have := ha l[i] (List.getElem_mem hi)
      simpa [hi] using this
    · simp [hi]
  have hraw : rawE ([0] ++ cvs l (l.length - 2) ++ [0]) = 0 := by
    unfold rawE
    rw [if_neg (by omega), if_neg (by omega), if_pos]
    intro v hv
    simp only [List.cons_append, List.nil_append, List.mem_cons, List.mem_append, List.mem_nil_iff, or_false] at hv
    rcases hv with rfl | hv | rfl
    · omega
    · unfold cvs at hv
      obtain ⟨j, _, rfl⟩ := List.mem_map.1 hv
      have h1 := hb j
      have h2 := hb (j + 1)
      have h3 := hb (j + 2)
      unfold cv
      rw [show j + 1 - 1 = j by omega, show j + 1 + 1 = j + 2 by omega]
      omega
    · omega
  have hr0 : rawE l = 0 := by
    unfold rawE
    rw [if_neg (by omega), if_neg (by omega), if_pos]
    intro v hv
    have := ha v hv
    omega
  have hsh : shE l ([0] ++ cvs l (l.length - 2) ++ [0]) 0 100000 = 0 := by
    unfold shE
    rw [if_pos hr0, if_pos hraw, if_pos hl2.symm, if_pos (by omega)]
  rw [StrangeIn_eq _ _ _ (by unfold big; omega) (by unfold big; omega) hsh]
  rw [stL_nil]
  intro j hj
  have h1 : ([0] ++ cvs l (l.length - 2) ++ [0])[j + 1]? = (cvs l (l.length - 2) ++ [0])[j]? := by simp
  have h2 : (cvs l (l.length - 2) ++ [0])[j]? = (cvs l (l.length - 2))[j]? := by rw [List.getElem?_append_left (by rw [cvs_len]; exact hj)]
  have h4 := cvs_get (l := l) hj
  rw [idx_nat] at h4
  rw [List.getD_eq_getElem?_getD, h1, h2, h4]
  rfl
end Go.Proofs.Ytpiggpgocnlomaa
