/-
  THE LAW SensorShifts: its typed function answers true.
-/
import Derived.Test.YtpiggpgocnlomaaPW4
set_option linter.unusedVariables false
set_option linter.unusedSimpArgs false
namespace Go.Proofs.Ytpiggpgocnlomaa
open Go Go.Ab Go.Tx
/-- a channel without fault -/
structure Good (l : List Int) : Prop where
  len : 0 < l.length ∧ l.length ≤ 60
  v : ∀ i : Nat, -100000 ≤ l.getD i 0 ∧ l.getD i 0 ≤ 100000
theorem good {l : List Int} (h : rawE l = 0) : Good l := by
  obtain ⟨h1, h2, h3⟩ := rawE_zero h
  refine ⟨⟨h1, h2⟩, fun i => ?_⟩
  by_cases hi : i < l.length
  · have := h3 (l[i]) (List.getElem_mem hi)
    simpa [hi] using this
  · simp [hi]
theorem idx_get {l : List Int} {i : Nat} (h : i < l.length) : idx l (i : Int) = some (l.getD i 0) := by simp [idx, h]
/-! sums -/
def sp (a0 a1 : List Int) (d : Int) : Nat → Int
  | 0 => 0
  | k + 1 => sp a0 a1 d k + (if 0 ≤ (k : Int) + d ∧ (k : Int) + d < (a1.length : Int) then a0.getD k 0 * a1.getD ((k : Int) + d).toNat 0 else 0)
def S (a0 a1 : List Int) (d : Int) : Int := sp a0 a1 d a0.length
theorem mul_bound {x y : Int} (h1 : -100000 ≤ x ∧ x ≤ 100000) (h2 : -100000 ≤ y ∧ y ≤ 100000) : -10000000000 ≤ x * y ∧ x * y ≤ 10000000000 := by
  have a : 0 ≤ (100000 - x) * (100000 - y) := Int.mul_nonneg (by omega) (by omega)
  have b : 0 ≤ (100000 + x) * (100000 + y) := Int.mul_nonneg (by omega) (by omega)
  have c : 0 ≤ (100000 - x) * (100000 + y) := Int.mul_nonneg (by omega) (by omega)
  have d : 0 ≤ (100000 + x) * (100000 - y) := Int.mul_nonneg (by omega) (by omega)
  simp only [Int.sub_mul, Int.mul_sub, Int.add_mul, Int.mul_add] at a b c d
  constructor <;> omega
theorem sp_bound {a0 a1 : List Int} (g0 : Good a0) (g1 : Good a1) (d : Int) : ∀ k : Nat, -(10000000000 * (k : Int)) ≤ sp a0 a1 d k ∧ sp a0 a1 d k ≤ 10000000000 * (k : Int)
  | 0 => by simp [sp]
  | k + 1 => by
    have ih := sp_bound g0 g1 d k
    have hm := mul_bound (g0.v k) (g1.v ((k : Int) + d).toNat)
    simp only [sp]
    split <;> constructor <;> omega
theorem sp_zero {a0 a1 : List Int} {d : Int} : ∀ k : Nat, (k = 0 ∨ (k : Int) + d ≤ 0 ∨ (a1.length : Int) ≤ d) → sp a0 a1 d k = 0
  | 0, _ => rfl
  | k + 1, h => by
    simp only [sp]
    rw [sp_zero k (by omega), if_neg (by omega)]
    rfl
theorem sp_stay {a0 a1 : List Int} {d : Int} {j : Nat} (hj : (a1.length : Int) ≤ j + d) : ∀ k : Nat, sp a0 a1 d (j + k) = sp a0 a1 d j
  | 0 => rfl
  | k + 1 => by
    rw [show j + (k + 1) = (j + k) + 1 from rfl]
    simp only [sp]
    rw [if_neg (by omega), sp_stay hj k]
    omega
def sumBody (a0 a1 : List Int) (d : Int) (s : Int × Int) : Option ((Int × Int) ⊕ Int) :=
  bif decide (s.2 < min (a0.length : Int) (w64 ((a1.length : Int) - d))) then
    (idx a0 s.2).bind fun x9 =>
    (idx a1 (w64 (s.2 + d))).bind fun x10 =>
    some (.inl (w64 (s.1 + (w64 (x9 * x10))), w64 (s.2 + 1)))
  else
    some (.inr s.1)
theorem sumLoop {a0 a1 : List Int} (g0 : Good a0) (g1 : Good a1) {d : Int} (hd : -100 ≤ d ∧ d ≤ 100) {f : Int × Int → Option ((Int × Int) ⊕ Int)} (hf : ∀ s, f s = sumBody a0 a1 d s) {lo : Int} (hlo : lo = max 0 (-d)) :
    loopO f (0, lo) = some (S a0 a1 d) := by
  have l0 := g0.len
  have l1 := g1.len
  have e1 : w64 ((a1.length : Int) - d) = (a1.length : Int) - d := wrap_id (by omega) (by omega)
  obtain ⟨r, hr, hQ⟩ := loop_inv (f := f) a0.length
    (fun i st => st = (sp a0 a1 d (lo.toNat + i), lo + i) ∧ (i = 0 ∨ lo + i ≤ min (a0.length : Int) ((a1.length : Int) - d)))
    (fun r => r = S a0 a1 d)
    (by
      rintro i st hi ⟨rfl, hle⟩
      rw [hf]
      unfold sumBody
      simp only [e1]
      by_cases hlt : lo + (i : Int) < min (a0.length : Int) ((a1.length : Int) - d)
      · left
        obtain ⟨n, hn⟩ : ∃ n : Nat, lo + (i : Int) = n := ⟨(lo + i).toNat, by omega⟩
        have e2 : w64 ((n : Int) + d) = (((n : Int) + d).toNat : Int) := by rw [show w64 ((n : Int) + d) = (n : Int) + d from wrap_id (by omega) (by omega)]; omega
        have e3 : lo.toNat + i = n := by omega
        have e4 : lo.toNat + (i + 1) = n + 1 := by omega
        have hb := sp_bound g0 g1 d n
        have hm := mul_bound (g0.v n) (g1.v ((n : Int) + d).toNat)
        have hlt' : (n : Int) < min (a0.length : Int) ((a1.length : Int) - d) := by omega
        rw [e3, hn]
        simp only [hlt', decide_true, cond_true, idx_get (l := a0) (i := n) (by omega), Option.bind_some, e2, idx_get (l := a1) (i := ((n : Int) + d).toNat) (by omega)]
        refine ⟨_, rfl, by omega, ?_, .inr (by omega)⟩
        rw [show w64 (a0.getD n 0 * a1.getD ((n : Int) + d).toNat 0) = a0.getD n 0 * a1.getD ((n : Int) + d).toNat 0 from wrap_id (by omega) (by omega)]
        rw [show w64 (sp a0 a1 d n + a0.getD n 0 * a1.getD ((n : Int) + d).toNat 0) = sp a0 a1 d n + a0.getD n 0 * a1.getD ((n : Int) + d).toNat 0 from wrap_id (by omega) (by omega)]
        rw [show w64 ((n : Int) + 1) = (n : Int) + 1 from wrap_id (by omega) (by omega), e4]
        simp only [sp]
        rw [if_pos (by omega)]
        congr 1
        omega
      · right
        simp only [hlt, decide_false, cond_false]
        refine ⟨_, rfl, ?_⟩
        unfold S
        rcases hle with rfl | hle
        · rw [sp_zero _ (by omega)]
          by_cases h1 : (a0.length : Int) ≤ lo
          · rw [sp_zero _ (by omega)]
          · have : (a1.length : Int) ≤ lo.toNat + d := by omega
            have hs := sp_stay (a0 := a0) this (a0.length - lo.toNat)
            rw [show lo.toNat + (a0.length - lo.toNat) = a0.length by omega] at hs
            rw [hs, sp_zero _ (by omega)]
        · by_cases h1 : (a0.length : Int) ≤ lo + i
          · rw [show lo.toNat + i = a0.length by omega]
          · have : (a1.length : Int) ≤ ((lo.toNat + i : Nat) : Int) + d := by omega
            have hs := sp_stay (a0 := a0) this (a0.length - (lo.toNat + i))
            rw [show (lo.toNat + i) + (a0.length - (lo.toNat + i)) = a0.length by omega] at hs
            rw [hs])
    (s := (0, lo)) ⟨by rw [sp_zero _ (by omega)]; simp, .inl rfl⟩
  rw [hr, hQ]
theorem SumAt_eq {a0 a1 : List Int} (g0 : Good a0) (g1 : Good a1) {d : Int} (hd : -100 ≤ d ∧ d ≤ 100) : ref07_SumAt a0 a1 d = some (S a0 a1 d) := by
  have l0 := g0.len
  have l1 := g1.len
  unfold ref07_SumAt
  obtain ⟨r, hr, hQ⟩ := loop_inv (f := fun (s2 : (Int × Int)) =>
      bif decide (s2.2 < (a0.length : Int)) then
        (base_Within (w64 (s2.2 + d)) (0 : Int) (w64 ((a1.length : Int) - 1))).bind fun x3 =>
        (bif x3 then
            (idx a0 s2.2).bind fun x4 =>
            (idx a1 (w64 (s2.2 + d))).bind fun x5 =>
            some (w64 (s2.1 + (w64 (x4 * x5))))
          else
            some s2.1).bind fun (p6 : Int) =>
        some (.inl (p6, w64 (s2.2 + 1)))
      else
        some (.inr s2.1)) a0.length
    (fun i st => st = (sp a0 a1 d i, (i : Int))) (fun r => r = S a0 a1 d)
    (by
      rintro n st hi rfl
      by_cases hlt : n < a0.length
      · left
        have hlt' : (n : Int) < (a0.length : Int) := by omega
        have hb := sp_bound g0 g1 d n
        have hm := mul_bound (g0.v n) (g1.v ((n : Int) + d).toNat)
        have e2 : w64 ((n : Int) + d) = (n : Int) + d := wrap_id (by omega) (by omega)
        have e3 : w64 ((a1.length : Int) - 1) = (a1.length : Int) - 1 := wrap_id (by omega) (by omega)
        have e5 : w64 ((n : Int) + 1) = ((n + 1 : Nat) : Int) := by rw [show w64 ((n : Int) + 1) = (n : Int) + 1 from wrap_id (by omega) (by omega)]; omega
        simp only [hlt', decide_true, cond_true, Within_eq, Option.bind_some, e2, e3, e5]
        by_cases hin : 0 ≤ (n : Int) + d ∧ (n : Int) + d ≤ (a1.length : Int) - 1
        · have e4 : (n : Int) + d = (((n : Int) + d).toNat : Int) := by omega
          have e6 : idx a1 ((n : Int) + d) = some (a1.getD ((n : Int) + d).toNat 0) := by
            have := idx_get (l := a1) (i := ((n : Int) + d).toNat) (by omega)
            rw [← e4] at this
            exact this
          simp only [hin, and_self, decide_true, cond_true, idx_get hlt, Option.bind_some, e6]
          refine ⟨_, rfl, by omega, ?_⟩
          rw [show w64 (a0.getD n 0 * a1.getD ((n : Int) + d).toNat 0) = a0.getD n 0 * a1.getD ((n : Int) + d).toNat 0 from wrap_id (by omega) (by omega)]
          rw [show w64 (sp a0 a1 d n + a0.getD n 0 * a1.getD ((n : Int) + d).toNat 0) = sp a0 a1 d n + a0.getD n 0 * a1.getD ((n : Int) + d).toNat 0 from wrap_id (by omega) (by omega)]
          simp only [sp]
          rw [if_pos (by omega)]
        · simp only [hin, decide_false, cond_false, Option.bind_some]
          refine ⟨_, rfl, by omega, ?_⟩
          simp only [sp]
          rw [if_neg (by omega)]
          simp
      · right
        have hlt' : ¬ (n : Int) < (a0.length : Int) := by omega
        simp only [hlt', decide_false, cond_false]
        refine ⟨_, rfl, ?_⟩
        unfold S
        rw [show n = a0.length by omega])
    (s := (0, 0)) rfl
  rw [hr, hQ]
  rfl
/-! the best shift -/
def bt (F : Int → Int) (r i : Int) : Prop := F i < F r ∨ (F i = F r ∧ (max r (-r) < max i (-i) ∨ (max r (-r) = max i (-i) ∧ r ≤ i)))
def Best (F : Int → Int) (m r : Int) : Prop := -m ≤ r ∧ r ≤ m ∧ ∀ i, -m ≤ i → i ≤ m → bt F r i
theorem Best.unique {F : Int → Int} {m r r' : Int} (h : Best F m r) (h' : Best F m r') : r = r' := by
  have h1 := h.2.2 r' h'.1 h'.2.1
  have h2 := h'.2.2 r h.1 h.2.1
  unfold bt at h1 h2
  omega
end Go.Proofs.Ytpiggpgocnlomaa
