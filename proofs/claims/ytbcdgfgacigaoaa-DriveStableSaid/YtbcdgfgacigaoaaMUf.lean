/-
  ONE LAW OF A CHAPTER: its program side is run by an interpreter that is proved sound; what it computes is shown to be what the law says. No conditions. Part 6 of 6.
-/
import Derived.Test.YtbcdgfgacigaoaaMUe
set_option linter.unusedSimpArgs false
set_option linter.unusedVariables false
set_option linter.unnecessarySimpa false
section
/-
  TABLES OF POLYNOMIALS: the program's and the reference's table are the same list.
-/
set_option linter.unusedVariables false
set_option linter.unusedSimpArgs false
namespace Go.Proofs.Ytbcdgfgacigaoaa
open Go Go.Ab Go.Tx

theorem wid {n : Int} (h1 : -9223372036854775808 ≤ n) (h2 : n ≤ 9223372036854775807) : w64 n = n := wrap_id h1 h2
theorem Within_ok (a b c : Int) : base_Within a b c = some (decide (b ≤ a ∧ a ≤ c)) := by
  unfold base_Within
  by_cases h1 : b ≤ a <;> by_cases h2 : a ≤ c <;> simp [h1, h2]
theorem within_ok (a b c : Int) : drive_within a b c = some (decide (b ≤ a ∧ a ≤ c)) := by
  unfold drive_within
  by_cases h1 : b ≤ a <;> by_cases h2 : a ≤ c <;> simp [h1, h2]
theorem isSized_ok (a k : Int) (h0 : -4611686018427387904 ≤ k) (h1 : k ≤ 4611686018427387904) : drive_isSized a k = some (decide (-k ≤ a ∧ a ≤ k)) := by
  unfold drive_isSized
  rw [wid (by omega) (by omega), within_ok]
  simp only [Option.bind_some]
  congr 2
  simp
theorem unless_eq (b : Bool) (e : Int) : drive_unless b e = some (if b then 0 else e) := by cases b <;> rfl
theorem first_eq (l : List Int) (h : l.length ≤ 1000000000) : drive_first l = some (fst0 l) := by
  unfold drive_first; exact for_first l h
theorem CopyInts_ok {l : List Int} (h : l.length ≤ 1000000000) : base_CopyInts l = some l := by
  unfold base_CopyInts
  rw [app_nil (by omega)]; rfl
theorem Size_ok {n : Int} (h : -9223372036854775807 ≤ n ∧ n ≤ 9223372036854775807) : base_Size n = some (n.natAbs : Int) := by
  unfold base_Size
  rw [wid (by omega) (by omega)]; congr 1; omega
theorem Gcd_ok {a b : Int} (ha : a.natAbs ≤ 4611686018427387904) (hb : b.natAbs ≤ 4611686018427387904) : base_Gcd a b = some (Int.gcd a b : Int) := by
  unfold base_Gcd
  refine Ok.eq ?_
  rw [ok_bind]
  refine (Gcd_loop a b ha hb).mono fun r hr => ?_
  have := gcd_le ha hb
  rw [Size_ok (by omega)]
  simp only [Option.bind_some, ok_some]
  omega
theorem divisor_ok (l : List Int) (hl : l.length ≤ 1000000000) (hb : ∀ x ∈ l, x.natAbs ≤ 4611686018427387904) : drive_divisor l = some (gcdL l : Int) := by
  unfold drive_divisor; exact divisor_loop l hl hb
theorem Ints_ok {l m : List Int} (hl : l.length ≤ 1000000000) : base_Ints l m = some (decide (l = m)) := by
  unfold base_Ints
  by_cases h : l.length = m.length
  · have e : decide ((l.length : Int) = (m.length : Int)) = true := by simp [h]
    simp only [e, Bool.not_true, cond_false]
    refine ints_loop 0 h hl (fun a b => decide (a = b)) (by simp) fun i hi => ?_
    rw [idx_int (by omega) (by omega), idx_int (by omega) (by omega)]
    simp only [Option.bind_some, Int.toNat_natCast]
    by_cases c : l.getD i 0 = m.getD i 0
    · simp only [c, decide_true, Bool.not_true, cond_false, if_true]; rw [wid (by omega) (by omega)]
    · simp only [c, decide_false, Bool.not_false, cond_true, Bool.false_eq_true, if_false]
  · have e : decide ((l.length : Int) = (m.length : Int)) = false := by simp; omega
    have : l ≠ m := fun e => h (by rw [e])
    simp [e, this]
theorem Lists_ok {l m : List (List Int)} (hl : l.length ≤ 1000000000) (hr : ∀ r ∈ l, r.length ≤ 1000000000) : base_Lists l m = some (decide (l = m)) := by
  unfold base_Lists
  by_cases h : l.length = m.length
  · have e : decide ((l.length : Int) = (m.length : Int)) = true := by simp [h]
    simp only [e, Bool.not_true, cond_false]
    refine ints_loop [] h hl (fun a b => decide (a = b)) (by simp) fun i hi => ?_
    rw [idx_nil (by omega) (by omega), idx_nil (by omega) (by omega)]
    simp only [Option.bind_some, Int.toNat_natCast]
    rw [Ints_ok (hr _ (getD_mem hi))]
    simp only [Option.bind_some]
    by_cases c : l.getD i [] = m.getD i []
    · simp only [c, decide_true, Bool.not_true, cond_false, if_true]; rw [wid (by omega) (by omega)]
    · simp only [c, decide_false, Bool.not_false, cond_true, Bool.false_eq_true, if_false]
  · have e : decide ((l.length : Int) = (m.length : Int)) = false := by simp; omega
    have : l ≠ m := fun e => h (by rw [e])
    simp [e, this]

/-! ### polynomials -/
def bad1000 (n : Int) : Bool := !(decide (-1000 ≤ n ∧ n ≤ 1000))
def polyE (p : List Int) : Int := if p.length = 0 then 10 else if 4 < p.length then 8 else if p.any bad1000 then 2 else if p.getD 0 0 = 0 then 11 else 0
theorem polynomialErr_ok {p : List Int} (h : p.length ≤ 1000000000) : drive_polynomialErr p = some (polyE p) := by
  unfold drive_polynomialErr
  have hc : slices_ContainsFunc_Lint_int_of_drive_polynomialErr_1 p = some (p.any bad1000) := by
    unfold slices_ContainsFunc_Lint_int_of_drive_polynomialErr_1 slices_IndexFunc_Lint_int_of_drive_polynomialErr_1
    refine for_any p drive_polynomialErr_1 bad1000 (fun x _ => ?_) h
    unfold drive_polynomialErr_1
    rw [isSized_ok _ _ (by omega) (by omega)]; rfl
  rw [hc]
  simp only [unless_eq, Option.bind_some]
  rw [first_eq _ (by simp)]
  simp only [Option.bind_some]
  unfold polyE
  by_cases h0 : p.length = 0
  · have h0' : ¬ ((p.length : Int) > 0) := by omega
    simp [h0, fst0]
  · have h0' : (p.length : Int) > 0 := by omega
    by_cases h4 : 4 < p.length
    · have h4' : ¬ ((p.length : Int) ≤ 4) := by omega
      simp [h0, h0', h4, h4', fst0]
    · have h4' : (p.length : Int) ≤ 4 := by omega
      simp only [h0, h0', h4, h4', decide_true, if_true, if_false, fst0, Bool.not_true, cond_false]
      rw [idx_int (by omega) (by omega)]
      simp only [Option.bind_some, Int.toNat_zero]
      rw [first_eq _ (by simp)]
      generalize p.getD 0 0 = z
      cases hb : p.any bad1000
      · by_cases hz : z = 0
        · simp [fst0, hz]
        · simp [fst0, hz]
      · simp [fst0]
theorem refPolynomialErr_ok {p : List Int} (h : p.length ≤ 1000000000) : ref04_PolynomialErr p = some (polyE p) := by
  unfold ref04_PolynomialErr polyE
  by_cases h0 : p.length = 0
  · simp [h0]
  have h0' : ¬ ((p.length : Int) = 0) := by omega
  by_cases h4 : 4 < p.length
  · have h4' : (p.length : Int) > 4 := by omega
    simp [h0, h0', h4, h4']
  have h4' : ¬ ((p.length : Int) > 4) := by omega
  simp only [h0, h0', h4, h4', decide_false, cond_false, if_false]
  rw [for_find p _ (fun _ a => if bad1000 a then some (2 : Int) else none) (fun i a hi => by
    have := len_lt hi
    rw [idx_of hi]
    simp only [Option.bind_some]
    rw [Within_ok]
    simp only [Option.bind_some]
    unfold bad1000
    by_cases c : -1000 ≤ a ∧ a ≤ 1000
    · simp only [c, and_self, decide_true, Bool.not_true, cond_false, Bool.false_eq_true, if_false, stp]; rw [wid (by omega) (by omega)]
    · simp [c, stp]), elim_toSum]
  cases hf : findI (fun _ a => if bad1000 a then some (2 : Int) else none) 0 p with
  | none =>
    rw [findI_none] at hf
    have hb : p.any bad1000 = false := by
      rw [List.any_eq_false]
      intro x hx
      obtain ⟨i, hi⟩ := List.mem_iff_getElem?.1 hx
      have := hf i x hi
      simpa using this
    simp only
    rw [idx_int (by omega) (by omega)]
    simp only [Int.toNat_zero, Option.bind_some]
    generalize p.getD 0 0 = z
    by_cases hz : z = 0 <;> simp [hb, hz]
  | some r =>
    obtain ⟨i, a, h1, h2, _⟩ := findI_some hf
    have hp : bad1000 a = true := by
      cases hp : bad1000 a
      · simp [hp] at h2
      · rfl
    have hb : p.any bad1000 = true := List.any_eq_true.2 ⟨a, List.mem_of_getElem? h1, hp⟩
    simp [hp] at h2
    simp [hb, ← h2]
theorem poly_ok {p : List Int} (h : polyE p = 0) : 1 ≤ p.length ∧ p.length ≤ 4 ∧ (∀ x ∈ p, -1000 ≤ x ∧ x ≤ 1000) ∧ p.getD 0 0 ≠ 0 := by
  unfold polyE at h
  by_cases h0 : p.length = 0
  · rw [if_pos h0] at h; omega
  rw [if_neg h0] at h
  by_cases h4 : 4 < p.length
  · rw [if_pos h4] at h; omega
  rw [if_neg h4] at h
  cases hb : p.any bad1000
  · rw [hb] at h
    by_cases hz : p.getD 0 0 = 0
    · rw [if_neg (by simp), if_pos hz] at h; omega
    · refine ⟨by omega, by omega, fun x hx => ?_, hz⟩
      rw [List.any_eq_false] at hb
      have := hb x hx
      simp [bad1000] at this
      omega
  · rw [hb] at h; simp at h

/-! ### lowest terms -/
def sg (p : List Int) : Int := if p.getD 0 0 < 0 then -(gcdL p : Int) else gcdL p
def red (p : List Int) : List Int := p.map fun x => x.tdiv (sg p)
theorem gcdL_le {l : List Int} {B : Nat} (h : ∀ x ∈ l, x.natAbs ≤ B) : gcdL l ≤ B := gcdF_le (by omega) h
theorem gcdL_ne {l : List Int} (hl : l ≠ []) (h : l.getD 0 0 ≠ 0) : gcdL l ≠ 0 := fun h0 => by
  have := (gcdF_zero.1 h0).2
  exact h (this _ (getD_mem (List.length_pos_iff.2 hl)))
theorem sg_ne {p : List Int} (hl : p ≠ []) (h : p.getD 0 0 ≠ 0) : sg p ≠ 0 := by
  have := gcdL_ne hl h
  unfold sg; split <;> omega
theorem red_len (p : List Int) : (red p).length = p.length := by simp [red]
theorem tdiv_abs (x g : Int) : (x.tdiv g).natAbs ≤ x.natAbs := by rw [Int.natAbs_tdiv]; exact Nat.div_le_self _ _
theorem low_loop {p : List Int} {g : Int} (hg : g ≠ 0) (hl : p.length ≤ 1000) (hb : ∀ x ∈ p, x.natAbs ≤ 1000000000000000) :
    loopO (fun (s6 : ((List Int) × Int)) =>
      bif decide (s6.2 < (p.length : Int)) then
        (idx p s6.2).bind fun x7 =>
        bif decide (g = 0) then
          none
        else
          (app s6.1 ([w64 (x7.tdiv g)])).bind fun x8 =>
          some (.inl (x8, w64 (s6.2 + 1)))
      else
        some (.inr s6.1)) ([], 0) = some (p.map fun x => x.tdiv g) := by
  refine for_map p _ (fun i a out hi ho => ?_) (fun out ho => by simp)
  have hlt := len_lt hi
  have e0 : decide ((i : Int) < (p.length : Int)) = true := by simp; omega
  simp only [e0, cond_true]
  rw [idx_of hi]
  simp only [Option.bind_some, hg, decide_false, cond_false]
  have h1 := tdiv_abs a g
  have h2 := hb a (List.mem_of_getElem? hi)
  rw [app_one (by omega), wid (by omega) (by omega), wid (by omega) (by omega)]
  rfl
theorem lowest_ok {p : List Int} (hl : p ≠ []) (h : p.getD 0 0 ≠ 0) (hl2 : p.length ≤ 1000) (hb : ∀ x ∈ p, x.natAbs ≤ 1000000000000000) : drive_lowest p = some (red p) := by
  unfold drive_lowest
  rw [divisor_ok p (by omega) (fun x hx => Nat.le_trans (hb x hx) (by omega))]
  have hp := List.length_pos_iff.2 hl
  have hg := gcdL_le (fun x hx => hb x hx)
  simp only [Option.bind_some]
  rw [idx_int (by omega) (by omega)]
  simp only [Option.bind_some, Int.toNat_zero]
  have e : (bif decide (p.getD 0 0 < 0) then some (w64 (0 - (gcdL p : Int))) else some (gcdL p : Int)) = some (sg p) := by
    unfold sg
    by_cases c : p.getD 0 0 < 0
    · rw [if_pos c]; simp only [c, decide_true, cond_true]; rw [wid (by omega) (by omega)]; congr 1; omega
    · rw [if_neg c]; simp only [c, decide_false, cond_false]
  rw [e]
  simp only [Option.bind_some]
  rw [low_loop (sg_ne hl h) hl2 hb]
  rfl
theorem reduced_ok {p : List Int} (hl : p ≠ []) (h : p.getD 0 0 ≠ 0) (hl2 : p.length ≤ 1000) (hb : ∀ x ∈ p, x.natAbs ≤ 1000000000000000) : ref04_reduced p = some (red p) := by
  unfold ref04_reduced
  refine Ok.eq ?_
  rw [ok_bind]
  refine (loop_up p.length (fun i (s : Int × Int) => s = ((gcdL (p.take i) : Int), (i : Int))) (fun r : Int => r = gcdL p) rfl ?_).mono ?_
  · rintro i s hi rfl
    by_cases hlt : i < p.length
    · have e0 : decide ((i : Int) < (p.length : Int)) = true := by simp; omega
      simp only [e0, cond_true]
      rw [idx_int (by omega) (by omega)]
      simp only [Option.bind_some, Int.toNat_natCast]
      have h1 : gcdL (p.take i) ≤ 1000000000000000 := gcdL_le fun x hx => hb x (List.mem_of_mem_take hx)
      have h2 := hb _ (getD_mem (d := 0) hlt)
      rw [Gcd_ok (by omega) (by omega)]
      simp only [Option.bind_some]
      rw [wid (by omega) (by omega), rnd_inl]
      refine ⟨hlt, ?_⟩
      rw [take_next 0 hlt]
      unfold gcdL
      rw [gcdF_snoc]
      rfl
    · have : i = p.length := by omega
      subst this
      have e0 : decide ((p.length : Int) < (p.length : Int)) = false := by simp
      simp only [e0, cond_false]
      rw [rnd_inr]
      simp
  rintro _ rfl
  have hp := List.length_pos_iff.2 hl
  have hg := gcdL_le (fun x hx => hb x hx)
  rw [idx_int (by omega) (by omega)]
  simp only [Option.bind_some, Int.toNat_zero]
  have e : (bif decide (p.getD 0 0 < 0) then some (w64 (0 - (gcdL p : Int))) else some (gcdL p : Int)) = some (sg p) := by
    unfold sg
    by_cases c : p.getD 0 0 < 0
    · rw [if_pos c]; simp only [c, decide_true, cond_true]; rw [wid (by omega) (by omega)]; congr 1; omega
    · rw [if_neg c]; simp only [c, decide_false, cond_false]
  rw [e]
  simp only [Option.bind_some]
  rw [low_loop (sg_ne hl h) hl2 hb]
  simp [ok_some, red]

/-! ### tables -/
theorem red_getD (p : List Int) (k : Nat) : (red p).getD k 0 = (p.getD k 0).tdiv (sg p) := by
  unfold red
  by_cases h : k < p.length
  · simp [h]
  · simp; rw [List.getElem?_eq_none (by omega)]; simp
theorem gcdL_dvd {l : List Int} {x : Int} (h : x ∈ l) : (gcdL l : Int) ∣ x := gcdF_dvd h
theorem red_first {p : List Int} (hl : p ≠ []) (h : p.getD 0 0 ≠ 0) : 0 < (red p).getD 0 0 := by
  rw [red_getD]
  obtain ⟨q, hq⟩ := gcdL_dvd (getD_mem (d := 0) (List.length_pos_iff.2 hl))
  have hg := gcdL_ne hl h
  unfold sg
  by_cases c : p.getD 0 0 < 0
  · rw [if_pos c, hq, Int.tdiv_neg, Int.mul_tdiv_cancel_left _ (by omega)]
    rw [hq] at c
    rcases Int.lt_or_le q 0 with h1 | h1
    · omega
    · have := Int.mul_nonneg (show (0 : Int) ≤ gcdL p by omega) h1; omega
  · rw [if_neg c, hq, Int.mul_tdiv_cancel_left _ (by omega)]
    rw [hq] at c h
    rcases Int.lt_trichotomy q 0 with h1 | h1 | h1
    · have := Int.mul_neg_of_pos_of_neg (show (0 : Int) < gcdL p by omega) h1; omega
    · subst h1; simp at h
    · exact h1
/-- the row below -/
def stpR (r : List Int) : List Int := mkL (r.length - 1) fun j => r.getD 0 0 * r.getD j 0 - r.getD (r.length - 1) 0 * r.getD (r.length - 1 - j) 0
def goes (r : List Int) : Prop := 1 < r.length ∧ (r.getD (r.length - 1) 0).natAbs < r.getD 0 0
instance (r : List Int) : Decidable (goes r) := inferInstanceAs (Decidable (_ ∧ _))
def tabR : Nat → List Int → List (List Int)
  | 0, _ => []
  | k + 1, r => if goes r then (if r.length = 2 then [[1]] else red (stpR r) :: tabR k (red (stpR r))) else []
def tab (p : List Int) : List (List Int) := red p :: tabR 3 (red p)
def bd (n : Nat) : Int := if 4 ≤ n then 1000 else if n = 3 then 2000000 else 8000000000000
structure Good (r : List Int) : Prop where
  len1 : 1 ≤ r.length
  len4 : r.length ≤ 4
  pos : 0 < r.getD 0 0
  bound : ∀ x ∈ r, -bd r.length ≤ x ∧ x ≤ bd r.length
theorem bd_le (n : Nat) : bd n ≤ 8000000000000 ∧ 1000 ≤ bd n := by
  unfold bd
  by_cases h : 4 ≤ n
  · rw [if_pos h]; omega
  · rw [if_neg h]
    by_cases h3 : n = 3
    · rw [if_pos h3]; omega
    · rw [if_neg h3]; omega
theorem Good.all {r : List Int} (h : Good r) : ∀ x ∈ r, x.natAbs ≤ 1000000000000000 := fun x hx => by
  have := h.bound x hx; have := bd_le r.length; omega
theorem Good.get {r : List Int} (h : Good r) (k : Nat) : -bd r.length ≤ r.getD k 0 ∧ r.getD k 0 ≤ bd r.length := by
  by_cases hk : k < r.length
  · exact h.bound _ (getD_mem hk)
  · have e : r.getD k 0 = 0 := by simp; rw [List.getElem?_eq_none (by omega)]; rfl
    have := bd_le r.length
    rw [e]; omega
theorem Good.ne {r : List Int} (h : Good r) : r ≠ [] := fun e => by have := h.len1; rw [e] at this; simp at this
theorem red_mem {p : List Int} {x : Int} (h : x ∈ red p) : ∃ y ∈ p, x.natAbs ≤ y.natAbs := by
  obtain ⟨y, hy, rfl⟩ := List.mem_map.1 h
  exact ⟨y, hy, tdiv_abs _ _⟩
theorem Good.ofPoly {p : List Int} (h : polyE p = 0) : Good (red p) := by
  obtain ⟨h1, h2, h3, h4⟩ := poly_ok h
  have hp : p ≠ [] := fun e => by rw [e] at h1; simp at h1
  refine ⟨by rw [red_len]; exact h1, by rw [red_len]; exact h2, red_first hp h4, fun x hx => ?_⟩
  obtain ⟨y, hy, hxy⟩ := red_mem hx
  have := h3 y hy
  have := bd_le (red p).length
  omega
theorem stpR_len (r : List Int) : (stpR r).length = r.length - 1 := mkL_len _ _
theorem Good.bd2 {r : List Int} (h : Good r) (h3 : 3 ≤ r.length) (i j : Nat) : -(2000000 * 2000000) ≤ r.getD i 0 * r.getD j 0 ∧ r.getD i 0 * r.getD j 0 ≤ 2000000 * 2000000 := by
  have hi := h.get i
  have hj := h.get j
  have hb : bd r.length ≤ 2000000 := by
    unfold bd
    by_cases h4 : 4 ≤ r.length
    · rw [if_pos h4]; omega
    · rw [if_neg h4, if_pos (by omega)]; omega
  exact abs_mul_le (by omega) (by omega)
theorem Good.step {r : List Int} (h : Good r) (h3 : 3 ≤ r.length) (hg : goes r) : Good (red (stpR r)) ∧ (stpR r).getD 0 0 ≠ 0 ∧ stpR r ≠ [] ∧ ∀ x ∈ stpR r, x.natAbs ≤ 1000000000000000 := by
  have hl := stpR_len r
  have h4 := h.len4
  have e0 : (stpR r).getD 0 0 = r.getD 0 0 * r.getD 0 0 - r.getD (r.length - 1) 0 * r.getD (r.length - 1) 0 := mkL_getD _ 0 (by omega)
  have hpos : 0 < (stpR r).getD 0 0 := by
    rw [e0]
    obtain ⟨_, hlt⟩ := hg
    generalize r.getD (r.length - 1) 0 = b at *
    have hp := h.pos
    generalize r.getD 0 0 = a at *
    have f1 : a * a - b * b = (a - b) * (a + b) := by grind
    rw [f1]
    exact Int.mul_pos (by omega) (by omega)
  have hne : stpR r ≠ [] := fun e => by rw [e] at hl; simp at hl; omega
  have hb : ∀ x ∈ stpR r, -bd (r.length - 1) ≤ x ∧ x ≤ bd (r.length - 1) := fun x hx => by
    obtain ⟨j, hj, rfl⟩ := mkL_mem hx
    by_cases hl4 : r.length = 4
    · have g0 := h.get 0
      have g1 := h.get j
      have g2 := h.get (r.length - 1)
      have g3 := h.get (r.length - 1 - j)
      have e1 : bd r.length = 1000 := by rw [hl4]; rfl
      have e2 : bd (r.length - 1) = 2000000 := by rw [hl4]; rfl
      rw [e1] at g0 g1 g2 g3
      have m1 := abs_mul_le g0 g1
      have m2 := abs_mul_le g2 g3
      rw [e2]; omega
    · have e2 : bd (r.length - 1) = 8000000000000 := by
        have : r.length = 3 := by omega
        rw [this]; rfl
      have m1 := h.bd2 h3 0 j
      have m2 := h.bd2 h3 (r.length - 1) (r.length - 1 - j)
      rw [e2]; omega
  refine ⟨⟨by rw [red_len]; omega, by rw [red_len]; omega, red_first hne (by omega), fun x hx => ?_⟩, by omega, hne, fun x hx => ?_⟩
  · obtain ⟨y, hy, hxy⟩ := red_mem hx
    have := hb y hy
    rw [red_len, hl]
    have := bd_le (r.length - 1)
    omega
  · have := hb x hx
    have := bd_le (r.length - 1)
    omega
/-- a loop that does so gives the table -/
theorem tab_loop {f : List Int × List (List Int) → Option ((List Int × List (List Int)) ⊕ (List (List Int) ⊕ List (List Int)))}
    (hf : ∀ r out, Good r → out.length ≤ 1000 → f (r, out) = if goes r then (if r.length = 2 then some (.inr (.inr (out ++ [[1]]))) else some (.inl (red (stpR r), out ++ [red (stpR r)]))) else some (.inr (.inl out))) :
    ∀ (k : Nat) (r : List Int) (out : List (List Int)), Good r → r.length ≤ k + 1 → out.length + k ≤ 1000 → (loopO f (r, out)).bind (Sum.elim some some) = some (out ++ tabR k r)
  | 0, r, out, hr, hk, ho => by
    have := hf r out hr (by omega)
    rw [if_neg (fun h => by have := h.1; omega)] at this
    rw [loopO_inr this]; simp [tabR]
  | k + 1, r, out, hr, hk, ho => by
    have := hf r out hr (by omega)
    by_cases hg : goes r
    · rw [if_pos hg] at this
      by_cases h2 : r.length = 2
      · rw [if_pos h2] at this
        rw [loopO_inr this]; simp [tabR, hg, h2]
      · rw [if_neg h2] at this
        have h3 : 3 ≤ r.length := by have := hg.1; omega
        obtain ⟨hs, _⟩ := hr.step h3 hg
        rw [loopO_inl this, tab_loop hf k _ _ hs (by rw [red_len, stpR_len]; omega) (by simp; omega)]
        simp [tabR, hg, h2]
    · rw [if_neg hg] at this
      rw [loopO_inr this]; simp [tabR, hg]
theorem stp_loop {r : List Int} (hr : Good r) (h3 : 3 ≤ r.length) :
    loopO (fun (s10 : ((List Int) × Int)) =>
      bif decide (s10.2 < ((r.length - 1 : Nat) : Int)) then
        (idx r s10.2).bind fun x12 =>
        (idx r (w64 (((r.length - 1 : Nat) : Int) - s10.2))).bind fun x14 =>
        (app s10.1 ([w64 ((w64 (r.getD 0 0 * x12)) - (w64 (r.getD (r.length - 1) 0 * x14)))])).bind fun x15 =>
        some (.inl (x15, w64 (s10.2 + 1)))
      else
        some (.inr s10.1)) ([], 0) = some (stpR r) := by
  have h4 := hr.len4
  refine for_mk (r.length - 1) _ (fun i hi => ?_) (by simp)
  have e0 : decide ((i : Int) < ((r.length - 1 : Nat) : Int)) = true := by simp; omega
  simp only [e0, cond_true]
  have e2 : w64 (((r.length - 1 : Nat) : Int) - (i : Int)) = ((r.length - 1 - i : Nat) : Int) := by rw [wid (by omega) (by omega)]; omega
  rw [e2, idx_int (by omega) (by omega), idx_int (by omega) (by omega)]
  simp only [Option.bind_some, Int.toNat_natCast]
  have m1 := hr.bd2 h3 0 i
  have m2 := hr.bd2 h3 (r.length - 1) (r.length - 1 - i)
  rw [app_one (by rw [mkL_len]; omega), wid (n := r.getD 0 0 * r.getD i 0) (by omega) (by omega), wid (n := r.getD (r.length - 1) 0 * r.getD (r.length - 1 - i) 0) (by omega) (by omega), wid (by omega) (by omega), wid (by omega) (by omega)]
  rfl
theorem goes_iff {r : List Int} (hr : Good r) (h : 1 < r.length) : (-(r.getD 0 0 - 1) ≤ r.getD (r.length - 1) 0 ∧ r.getD (r.length - 1) 0 ≤ r.getD 0 0 - 1) ↔ goes r := by
  unfold goes; omega
theorem table_ok {p : List Int} (h : polyE p = 0) : drive_table p = some (tab p) := by
  obtain ⟨h1, h2, h3, h4⟩ := poly_ok h
  have hp : p ≠ [] := fun e => by rw [e] at h1; simp at h1
  unfold drive_table
  rw [lowest_ok hp h4 (by omega) (fun x hx => by have := h3 x hx; omega)]
  simp only [Option.bind_some]
  refine (tab_loop ?_ 3 (red p) [red p] (Good.ofPoly h) (by rw [red_len]; omega) (by simp)).trans (by simp [tab])
  intro r out hr ho
  have hl4 := hr.len4
  have hbd := bd_le r.length
  by_cases hl : 1 < r.length
  · have e0 : decide ((r.length : Int) > 1) = true := by simp; omega
    have e1 : w64 ((r.length : Int) - 1) = ((r.length - 1 : Nat) : Int) := by rw [wid (by omega) (by omega)]; omega
    have g0 := hr.get 0
    simp only [e0, cond_true]
    rw [e1, idx_int (by omega) (by omega), idx_int (by omega) (by omega)]
    simp only [Option.bind_some, Int.toNat_natCast, Int.toNat_zero]
    rw [wid (by omega) (by omega), isSized_ok _ _ (by omega) (by omega)]
    simp only [Option.bind_some]
    by_cases hg : goes r
    · have e2 := (goes_iff hr hl).2 hg
      rw [if_pos hg]
      simp only [e2, and_self, decide_true, Bool.not_true, cond_false]
      by_cases h2' : r.length = 2
      · have e3 : decide (((r.length - 1 : Nat) : Int) = 1) = true := by simp; omega
        rw [if_pos h2']
        simp only [e3, cond_true]
        rw [app_one (by omega)]; rfl
      · have e3 : decide (((r.length - 1 : Nat) : Int) = 1) = false := by simp; omega
        rw [if_neg h2']
        simp only [e3, cond_false]
        have h3' : 3 ≤ r.length := by omega
        rw [stp_loop hr h3']
        obtain ⟨_, s1, s2, s3⟩ := hr.step h3' hg
        simp only [Option.bind_some]
        rw [lowest_ok s2 s1 (by rw [stpR_len]; omega) s3]
        simp only [Option.bind_some]
        rw [app_one (by omega)]; rfl
    · have e2 : ¬ (-(r.getD 0 0 - 1) ≤ r.getD (r.length - 1) 0 ∧ r.getD (r.length - 1) 0 ≤ r.getD 0 0 - 1) := fun h => hg ((goes_iff hr hl).1 h)
      rw [if_neg hg]
      simp only [e2, decide_false, Bool.not_false, cond_true]
  · have e0 : decide ((r.length : Int) > 1) = false := by simp; omega
    rw [if_neg (fun h => hl h.1)]
    simp only [e0, cond_false]
theorem refTable_ok {p : List Int} (h : polyE p = 0) : ref04_Table p = some (tab p) := by
  obtain ⟨h1, h2, h3, h4⟩ := poly_ok h
  have hp : p ≠ [] := fun e => by rw [e] at h1; simp at h1
  unfold ref04_Table
  rw [reduced_ok hp h4 (by omega) (fun x hx => by have := h3 x hx; omega)]
  simp only [Option.bind_some]
  refine (tab_loop ?_ 3 (red p) [red p] (Good.ofPoly h) (by rw [red_len]; omega) (by simp)).trans (by simp [tab])
  intro r out hr ho
  have hl4 := hr.len4
  have hbd := bd_le r.length
  by_cases hl : 1 < r.length
  · have e0 : decide ((r.length : Int) > 1) = true := by simp; omega
    have e1 : w64 ((r.length : Int) - 1) = ((r.length - 1 : Nat) : Int) := by rw [wid (by omega) (by omega)]; omega
    have g0 := hr.get 0
    have g1 := hr.get (r.length - 1)
    simp only [e0, cond_true]
    rw [e1, idx_int (by omega) (by omega), idx_int (by omega) (by omega)]
    simp only [Option.bind_some, Int.toNat_natCast, Int.toNat_zero]
    rw [Size_ok (by omega)]
    simp only [Option.bind_some]
    by_cases hg : goes r
    · have e2 : decide (((r.getD (r.length - 1) 0).natAbs : Int) < r.getD 0 0) = true := by simp only [decide_eq_true_iff]; exact hg.2
      rw [if_pos hg]
      simp only [e2, cond_true]
      by_cases h2' : r.length = 2
      · have e3 : decide (((r.length - 1 : Nat) : Int) = 1) = true := by simp; omega
        rw [if_pos h2']
        simp only [e3, cond_true]
        rw [app_one (by omega)]; rfl
      · have e3 : decide (((r.length - 1 : Nat) : Int) = 1) = false := by simp; omega
        rw [if_neg h2']
        simp only [e3, cond_false]
        have h3' : 3 ≤ r.length := by omega
        rw [stp_loop hr h3']
        obtain ⟨_, s1, s2, s3⟩ := hr.step h3' hg
        simp only [Option.bind_some]
        rw [reduced_ok s2 s1 (by rw [stpR_len]; omega) s3]
        simp only [Option.bind_some]
        rw [app_one (by omega)]; rfl
    · have e2 : decide (((r.getD (r.length - 1) 0).natAbs : Int) < r.getD 0 0) = false := by simp only [decide_eq_false_iff_not]; exact fun h => hg ⟨hl, h⟩
      rw [if_neg hg]
      simp only [e2, cond_false]
  · have e0 : decide ((r.length : Int) > 1) = false := by simp; omega
    rw [if_neg (fun h => hl h.1)]
    simp only [e0, cond_false, Option.bind_some]
end Go.Proofs.Ytbcdgfgacigaoaa
end
section
/-
  STABLE POLYNOMIALS: other signs are as stable; the law of tables.
-/
set_option linter.unusedVariables false
set_option linter.unusedSimpArgs false
namespace Go.Proofs.Ytbcdgfgacigaoaa
open Go Go.Ab Go.Tx

def lastLen (l : List (List Int)) : Nat := (l.getD (l.length - 1) []).length
theorem lastLen_cons (r s : List Int) (l : List (List Int)) : lastLen (r :: s :: l) = lastLen (s :: l) := by
  unfold lastLen
  have : (r :: s :: l).length - 1 = ((s :: l).length - 1) + 1 := by simp
  rw [this, List.getD_cons_succ]
theorem lastLen_one (r : List Int) : lastLen [r] = r.length := rfl
theorem last_rows (k : Nat) (r : List Int) : lastLen (r :: tabR (k + 1) r) = if goes r then (if r.length = 2 then 1 else lastLen (red (stpR r) :: tabR k (red (stpR r)))) else r.length := by
  simp only [tabR]
  by_cases hg : goes r
  · rw [if_pos hg, if_pos hg]
    by_cases h2 : r.length = 2
    · rw [if_pos h2, if_pos h2]; rfl
    · rw [if_neg h2, if_neg h2, lastLen_cons]
  · rw [if_neg hg, if_neg hg, lastLen_one]
def stab (p : List Int) : Bool := decide (lastLen (tab p) = 1)
theorem isStable_ok {p : List Int} (h : polyE p = 0) : drive_isStable p = some (stab p) := by
  unfold drive_isStable
  rw [table_ok h]
  simp only [Option.bind_some]
  have hl : 1 ≤ (tab p).length := by simp [tab]
  have hl2 : (tab p).length ≤ 10 := by
    have : ∀ k r, (tabR k r).length ≤ k := by
      intro k
      induction k with
      | zero => intro r; simp [tabR]
      | succ k ih => intro r; simp only [tabR]; split <;> (try split) <;> simp <;> (try exact ih _)
    have := this 3 (red p)
    simp [tab]; omega
  rw [wid (by omega) (by omega), idx_nil (by omega) (by omega)]
  have e : ((tab p).length - 1 : Int).toNat = (tab p).length - 1 := by omega
  rw [e]
  simp only [Option.bind_some]
  unfold stab lastLen
  congr 1
  rw [decide_eq_decide]
  omega
theorem refIsStable_ok {p : List Int} (h : polyE p = 0) : ref04_IsStable p = some (stab p) := by
  have h1 := isStable_ok h
  unfold drive_isStable at h1
  unfold ref04_IsStable
  rw [refTable_ok h]
  rw [table_ok h] at h1
  exact h1
theorem IsStable_ok {p : List Int} (hl : p.length ≤ 1000000000) : drive_IsStable p = some (if polyE p = 0 then stab p else false, polyE p) := by
  unfold drive_IsStable
  rw [polynomialErr_ok hl]
  simp only [Option.bind_some]
  by_cases h : polyE p = 0
  · rw [isStable_ok h]; simp [h]
  · simp [h]
theorem TableOf_ok {p : List Int} (hl : p.length ≤ 1000000000) : drive_TableOf p = some (if polyE p = 0 then tab p else [], polyE p) := by
  unfold drive_TableOf
  rw [polynomialErr_ok hl]
  simp only [Option.bind_some]
  by_cases h : polyE p = 0
  · rw [table_ok h]; simp [h]
  · simp [h]

/-! ### other signs -/
def altF (j : Nat) (x : Int) : Int := if j % 2 = 1 then -x else x
def alt (p : List Int) : List Int := mkL p.length fun j => altF j (p.getD j 0)
theorem altF_abs (j : Nat) (x : Int) : (altF j x).natAbs = x.natAbs := by unfold altF; split <;> omega
theorem altF_mul (m n : Nat) (a b : Int) : altF m a * altF n b = altF (m + n) (a * b) := by
  unfold altF
  by_cases h1 : m % 2 = 1 <;> by_cases h2 : n % 2 = 1
  · rw [if_pos h1, if_pos h2, if_neg (by omega), Int.neg_mul_neg]
  · rw [if_pos h1, if_neg h2, if_pos (by omega), Int.neg_mul]
  · rw [if_neg h1, if_pos h2, if_pos (by omega), Int.mul_neg]
  · rw [if_neg h1, if_neg h2, if_neg (by omega)]
theorem altF_par {m n : Nat} (h : m % 2 = n % 2) (x : Int) : altF m x = altF n x := by unfold altF; rw [h]
theorem altF_sub (j : Nat) (a b : Int) : altF j a - altF j b = altF j (a - b) := by unfold altF; split <;> omega
theorem altF_tdiv (j : Nat) (a g : Int) : (altF j a).tdiv g = altF j (a.tdiv g) := by unfold altF; split <;> simp [Int.neg_tdiv]
theorem alt_len (p : List Int) : (alt p).length = p.length := mkL_len _ _
theorem alt_get (p : List Int) (j : Nat) : (alt p).getD j 0 = altF j (p.getD j 0) := by
  by_cases h : j < p.length
  · exact mkL_getD _ 0 h
  · have e1 : (alt p).getD j 0 = 0 := by simp; rw [List.getElem?_eq_none (by rw [alt_len]; omega)]; rfl
    have e2 : p.getD j 0 = 0 := by simp; rw [List.getElem?_eq_none (by omega)]; rfl
    rw [e1, e2]; unfold altF; split <;> rfl
theorem gcdF_abs : ∀ {l m : List Int} {g : Nat}, l.map Int.natAbs = m.map Int.natAbs → gcdF g l = gcdF g m
  | [], [], g, _ => rfl
  | [], b :: m, g, h => by simp at h
  | a :: l, [], g, h => by simp at h
  | a :: l, b :: m, g, h => by
    simp only [List.map_cons, List.cons.injEq] at h
    simp only [gcdF, h.1]
    exact gcdF_abs h.2
theorem alt_abs (p : List Int) : (alt p).map Int.natAbs = p.map Int.natAbs := by
  conv => rhs; rw [list_mkL p 0]
  unfold alt
  rw [map_mkL, map_mkL]
  exact mkL_congr fun k _ => altF_abs _ _
theorem alt_first (p : List Int) : (alt p).getD 0 0 = p.getD 0 0 := by rw [alt_get]; rfl
theorem sg_alt (p : List Int) : sg (alt p) = sg p := by
  unfold sg gcdL
  rw [alt_first, gcdF_abs (alt_abs p)]
theorem red_alt (p : List Int) : red (alt p) = alt (red p) := by
  rw [list_mkL (red (alt p)) 0]
  unfold alt
  rw [red_len, red_len, mkL_len]
  refine mkL_congr fun k hk => ?_
  rw [red_getD, red_getD, ← altF_tdiv, ← alt_get]
  have := sg_alt p
  unfold alt at this ⊢
  rw [this]
theorem stp_alt (r : List Int) : stpR (alt r) = alt (stpR r) := by
  unfold stpR
  rw [alt_len]
  conv => rhs; unfold alt
  rw [mkL_len]
  refine mkL_congr fun j hj => ?_
  rw [mkL_getD _ 0 hj, alt_get, alt_get, alt_get, alt_get, altF_mul, altF_mul, ← altF_sub]
  rw [altF_par (m := 0 + j) (n := j) (by omega), altF_par (m := r.length - 1 + (r.length - 1 - j)) (n := j) (by omega)]
theorem goes_alt (r : List Int) : goes (alt r) ↔ goes r := by
  unfold goes
  rw [alt_len, alt_get, alt_first, altF_abs]
theorem last_alt : ∀ (k : Nat) (r : List Int), lastLen (alt r :: tabR k (alt r)) = lastLen (r :: tabR k r)
  | 0, r => by simp only [tabR, lastLen_one, alt_len]
  | k + 1, r => by
    rw [last_rows, last_rows, alt_len, stp_alt, red_alt, last_alt k]
    by_cases h : goes r
    · rw [if_pos h, if_pos ((goes_alt r).2 h)]
    · rw [if_neg h, if_neg (fun h' => h ((goes_alt r).1 h'))]
theorem stab_alt (p : List Int) : stab (alt p) = stab p := by
  unfold stab tab
  rw [red_alt, last_alt]
def negL (p : List Int) : List Int := p.map fun x => -x
theorem negL_first (p : List Int) : (negL p).getD 0 0 = -(p.getD 0 0) := by
  unfold negL
  cases p <;> simp
theorem red_neg {p : List Int} (h : p.getD 0 0 ≠ 0) : red (negL p) = red p := by
  have hs : sg (negL p) = -(sg p) := by
    have hg : gcdL (negL p) = gcdL p := gcdF_abs (by simp [negL])
    unfold sg
    rw [hg, negL_first]
    by_cases c : p.getD 0 0 < 0
    · rw [if_pos c, if_neg (by omega)]; omega
    · rw [if_neg c, if_pos (by omega)]
  unfold red
  rw [hs]
  unfold negL
  rw [List.map_map]
  refine List.map_congr_left fun x _ => ?_
  simp [Int.neg_tdiv, Int.tdiv_neg]
theorem stab_neg {p : List Int} (h : p.getD 0 0 ≠ 0) : stab (negL p) = stab p := by
  unfold stab tab
  rw [red_neg h]
theorem polyE_same {p q : List Int} (hl : q.length = p.length) (ha : q.map Int.natAbs = p.map Int.natAbs) (h : polyE p = 0) : polyE q = 0 := by
  obtain ⟨h1, h2, h3, h4⟩ := poly_ok h
  unfold polyE
  rw [hl, if_neg (by omega), if_neg (by omega)]
  have hb : q.any bad1000 = false := by
    rw [List.any_eq_false]
    intro x hx
    have hm : x.natAbs ∈ q.map Int.natAbs := List.mem_map.2 ⟨x, hx, rfl⟩
    rw [ha] at hm
    obtain ⟨y, hy, hxy⟩ := List.mem_map.1 hm
    have := h3 y hy
    simp [bad1000]; omega
  rw [hb, if_neg (by simp), if_neg]
  intro h0
  have e : ∀ l : List Int, (l.map Int.natAbs).getD 0 0 = (l.getD 0 0).natAbs := fun l => by cases l <;> simp
  have := e q
  rw [ha, e p, h0] at this
  simp only [Int.natAbs_zero] at this
  exact h4 (by omega)

/-! ### the law -/
theorem Mod2_ok (n : Nat) (h : n ≤ 1000000000) : base_Mod (n : Int) 2 = some ((n % 2 : Nat) : Int) := by
  unfold base_Mod
  have e : ((n : Int).tmod 2) = ((n % 2 : Nat) : Int) := by rw [Int.tmod_eq_emod_of_nonneg (by omega)]; omega
  rw [e]
  have e1 : decide ((2 : Int) = 0) = false := by decide
  have e2 : decide (((n % 2 : Nat) : Int) < 0) = false := by simp; omega
  simp only [e1, e2, cond_false, Option.bind_some]
theorem stab_last {p : List Int} (h : polyE p = 0) (hs : stab p = true) (hl : p.length ≠ 1) : (p.getD (p.length - 1) 0).natAbs < (p.getD 0 0).natAbs := by
  obtain ⟨h1, h2, h3, h4⟩ := poly_ok h
  have hp : p ≠ [] := fun e => by rw [e] at h1; simp at h1
  unfold stab tab at hs
  rw [decide_eq_true_iff, last_rows] at hs
  have hg : goes (red p) := by
    by_cases hg : goes (red p)
    · exact hg
    · rw [if_neg hg, red_len] at hs; omega
  obtain ⟨_, hlt⟩ := hg
  rw [red_len, red_getD, red_getD] at hlt
  have hd : ∀ k, k < p.length → p.getD k 0 = sg p * (p.getD k 0).tdiv (sg p) := fun k hk => by
    have hd : sg p ∣ p.getD k 0 := by
      have := gcdL_dvd (getD_mem (d := 0) hk)
      unfold sg; split
      · exact Int.neg_dvd.2 this
      · exact this
    rw [Int.mul_tdiv_cancel' hd]
  have e1 := hd (p.length - 1) (by omega)
  have e2 := hd 0 (by omega)
  rw [e1, e2, Int.natAbs_mul, Int.natAbs_mul]
  have hsg := sg_ne hp h4
  exact Nat.mul_lt_mul_of_pos_left (by omega) (by omega)
theorem DriveTables_eq (p : List Int) (hl : p.length ≤ 9223372036854775807) : law04_DriveTables p = some true := by
  unfold law04_DriveTables
  have aw : law04_awake = some true := rfl
  rw [aw]
  simp only [Option.bind_some, Bool.not_true, cond_false]
  by_cases h6 : p.length > 6
  · have e : decide ((p.length : Int) > 6) = true := by simp; omega
    simp only [e, cond_true]
  have e : decide ((p.length : Int) > 6) = false := by simp; omega
  simp only [e, cond_false]
  rw [CopyInts_ok (by omega)]
  simp only [Option.bind_some]
  rw [TableOf_ok (by omega), IsStable_ok (by omega), refPolynomialErr_ok (by omega)]
  simp only [Option.bind_some]
  by_cases h : polyE p = 0
  case neg => simp [h]
  simp only [h, decide_true, Bool.not_true, cond_false, if_true]
  rw [refTable_ok h]
  simp only [Option.bind_some]
  have hr : ∀ r ∈ tab p, r.length ≤ 1000000000 := by
    have : ∀ k r, r.length ≤ 4 → ∀ s ∈ tabR k r, s.length ≤ 4 := by
      intro k
      induction k with
      | zero => intro r _ s hs; simp [tabR] at hs
      | succ k ih =>
        intro r hr s hs
        simp only [tabR] at hs
        split at hs
        · split at hs
          · simp at hs; subst hs; simp
          · rcases List.mem_cons.1 hs with rfl | hs
            · rw [red_len, stpR_len]; omega
            · exact ih _ (by rw [red_len, stpR_len]; omega) s hs
        · simp at hs
    intro r hr
    obtain ⟨h1, h2, _, _⟩ := poly_ok h
    unfold tab at hr
    rcases List.mem_cons.1 hr with rfl | hr
    · rw [red_len]; omega
    · have := this 3 (red p) (by rw [red_len]; omega) r hr; omega
  have hlt : (tab p).length ≤ 1000000000 := by
    have : ∀ k r, (tabR k r).length ≤ k := by
      intro k
      induction k with
      | zero => intro r; simp [tabR]
      | succ k ih => intro r; simp only [tabR]; split <;> (try split) <;> simp <;> (try exact ih _)
    have := this 3 (red p)
    simp [tab]; omega
  rw [Lists_ok hlt hr]
  simp only [Option.bind_some, decide_true, Bool.not_true, cond_false]
  rw [refIsStable_ok h]
  simp only [Option.bind_some, beq_self_eq_true, Bool.not_true, cond_false]
  obtain ⟨h1, h2, h3, h4⟩ := poly_ok h
  refine Ok.eq ?_
  rw [ok_bind]
  refine (loop_up p.length (fun i (s : List Int × List Int × Int) => s = (mkL i (fun j => altF j (p.getD j 0)), mkL i (fun j => -(p.getD j 0)), (i : Int))) (fun r => r = (alt p, negL p)) rfl ?_).mono ?_
  · rintro i s hi rfl
    by_cases hlt : i < p.length
    · have e0 : decide ((i : Int) < (p.length : Int)) = true := by simp; omega
      have hb := h3 _ (getD_mem (d := 0) hlt)
      simp only [e0, cond_true]
      rw [idx_int (by omega) (by omega), Mod2_ok i (by omega)]
      simp only [Option.bind_some, Int.toNat_natCast]
      rw [wid (n := 0 - p.getD i 0) (by omega) (by omega)]
      have e1 : (bif decide (((i % 2 : Nat) : Int) = 1) then some (0 - p.getD i 0) else some (p.getD i 0)) = some (altF i (p.getD i 0)) := by
        unfold altF
        by_cases c : i % 2 = 1
        · simp [c]
        · have : ¬ (((i % 2 : Nat) : Int) = 1) := by omega
          simp only [this, c, decide_false, cond_false, if_false]
      rw [e1]
      simp only [Option.bind_some]
      rw [app_one (by rw [mkL_len]; omega)]
      simp only [Option.bind_some]
      rw [app_one (by rw [mkL_len]; omega)]
      simp only [Option.bind_some]
      rw [wid (by omega) (by omega), rnd_inl]
      refine ⟨hlt, ?_⟩
      rw [mkL_succ, mkL_succ]
      simp
    · have : i = p.length := by omega
      subst this
      have e0 : decide ((p.length : Int) < (p.length : Int)) = false := by simp
      simp only [e0, cond_false]
      rw [rnd_inr]
      have : negL p = mkL p.length fun j => -(p.getD j 0) := by
        unfold negL
        conv => lhs; rw [list_mkL p 0]
        rw [map_mkL]
      rw [this]; rfl
  rintro _ rfl
  have ha : polyE (alt p) = 0 := polyE_same (alt_len p) (alt_abs p) h
  have hn : polyE (negL p) = 0 := polyE_same (by simp [negL]) (by simp [negL]) h
  rw [IsStable_ok (by rw [alt_len]; omega), IsStable_ok (by simp [negL]; omega), ha, hn, stab_alt, stab_neg h4]
  simp only [Option.bind_some, if_true, decide_true, cond_true, beq_self_eq_true]
  cases hs : stab p
  · simp [ok_some]
  · simp only [Bool.not_true, cond_false]
    by_cases hl1 : p.length = 1
    · simp [hl1, ok_some]
    · have e1 : decide ((p.length : Int) = 1) = false := by simp; omega
      simp only [e1, cond_false]
      have hb1 := h3 _ (getD_mem (d := 0) (show p.length - 1 < p.length by omega))
      have hb0 := h3 _ (getD_mem (d := 0) (show 0 < p.length by omega))
      have e2 : w64 ((p.length : Int) - 1) = ((p.length - 1 : Nat) : Int) := by rw [wid (by omega) (by omega)]; omega
      rw [e2, idx_int (by omega) (by omega), idx_int (by omega) (by omega)]
      simp only [Option.bind_some, Int.toNat_natCast, Int.toNat_zero]
      rw [Size_ok (by omega), Size_ok (by omega)]
      simp only [Option.bind_some, ok_some]
      have := stab_last h hs hl1
      simp only [decide_eq_true_iff]
      omega
theorem law04_DriveTables_true : ∀ x : denP ([Ty.sl I].map .ty), RngP maxLen [.sl I] x → e_law04_DriveTables.F x = some true := by
  rintro a0 ⟨h0, _⟩
  exact DriveTables_eq a0 (Nat.le_trans h0 (by decide))
end Go.Proofs.Ytbcdgfgacigaoaa
end
section
/-
  STABLE PRODUCTS: when a product of a polynomial and a factor is stable (numbers alone).
-/
set_option linter.unusedVariables false
set_option linter.unusedSimpArgs false
namespace Go.Proofs.Ytbcdgfgacigaoaa
open Go Go.Ab Go.Tx

/-- the last number is less than the first one -/
def lt2 (r : List Int) : Prop := (r.getD (r.length - 1) 0).natAbs < (r.getD 0 0).natAbs
def SS : Nat → List Int → Prop
  | 0, _ => True
  | k + 1, r => lt2 r ∧ SS k (stpR r)
def scl (c : Int) (r : List Int) : List Int := r.map fun x => c * x
theorem scl_len (c : Int) (r : List Int) : (scl c r).length = r.length := by simp [scl]
theorem scl_get (c : Int) (r : List Int) (k : Nat) : (scl c r).getD k 0 = c * r.getD k 0 := by
  unfold scl
  by_cases h : k < r.length
  · simp [h]
  · simp; rw [List.getElem?_eq_none (by omega)]; simp
theorem lt2_scl {c : Int} (hc : c ≠ 0) (r : List Int) : lt2 (scl c r) ↔ lt2 r := by
  unfold lt2
  rw [scl_get, scl_get, scl_len, Int.natAbs_mul, Int.natAbs_mul]
  exact Nat.mul_lt_mul_left (by omega)
theorem stpR_scl (c : Int) (r : List Int) : stpR (scl c r) = scl (c * c) (stpR r) := by
  unfold stpR
  rw [scl_len]
  unfold scl
  rw [map_mkL]
  refine mkL_congr fun k hk => ?_
  have h := scl_get c r
  unfold scl at h
  rw [h, h, h, h]
  grind
theorem SS_scl : ∀ (k : Nat) {c : Int} (r : List Int), c ≠ 0 → (SS k (scl c r) ↔ SS k r)
  | 0, c, r, h => Iff.rfl
  | k + 1, c, r, h => by
    simp only [SS]
    rw [lt2_scl h, stpR_scl, SS_scl k _ (by intro e; rcases Int.mul_eq_zero.1 e with e | e <;> exact h e)]
theorem red_scl {p : List Int} (hl : p ≠ []) (h : p.getD 0 0 ≠ 0) : p = scl (sg p) (red p) := by
  unfold scl red
  rw [List.map_map]
  have : ∀ x ∈ p, ((fun x => sg p * x) ∘ fun x => x.tdiv (sg p)) x = x := fun x hx => by
    simp only [Function.comp]
    obtain ⟨q, hq⟩ := gcdL_dvd hx
    have hs := sg_ne hl h
    have hd : sg p ∣ x := by
      unfold sg; split
      · exact Int.neg_dvd.2 (gcdL_dvd hx)
      · exact gcdL_dvd hx
    exact Int.mul_tdiv_cancel' hd
  rw [List.map_congr_left this]; simp
theorem goes_lt {r : List Int} (h : 0 < r.getD 0 0) : goes r ↔ 1 < r.length ∧ lt2 r := by
  unfold goes lt2
  have : ((r.getD 0 0).natAbs : Int) = r.getD 0 0 := by omega
  constructor <;> rintro ⟨h1, h2⟩ <;> exact ⟨h1, by omega⟩
theorem stp_first {r : List Int} (h : 0 < r.getD 0 0) (hl : 1 < r.length) (h2 : lt2 r) : 0 < (stpR r).getD 0 0 := by
  unfold stpR
  rw [mkL_getD _ _ (by omega)]
  unfold lt2 at h2
  simp only [Nat.sub_zero]
  have h3 : (r.getD (r.length - 1) 0) * (r.getD (r.length - 1) 0) < r.getD 0 0 * r.getD 0 0 := by
    have e1 : (((r.getD (r.length - 1) 0).natAbs * (r.getD (r.length - 1) 0).natAbs : Nat) : Int) = r.getD (r.length - 1) 0 * r.getD (r.length - 1) 0 := Int.natAbs_mul_self
    have e2 : (((r.getD 0 0).natAbs * (r.getD 0 0).natAbs : Nat) : Int) = r.getD 0 0 * r.getD 0 0 := Int.natAbs_mul_self
    have := Nat.mul_lt_mul_of_lt_of_lt h2 h2
    omega
  omega
theorem last_SS : ∀ (k : Nat) (r : List Int), 0 < r.getD 0 0 → 1 ≤ r.length → r.length ≤ k + 1 → (lastLen (r :: tabR k r) = 1 ↔ SS (r.length - 1) r)
  | 0, r, h0, h1, h2 => by
    have : r.length = 1 := by omega
    simp only [tabR, lastLen_one, this, Nat.sub_self, SS]
  | k + 1, r, h0, h1, h2 => by
    rw [last_rows]
    by_cases hg : goes r
    · rw [if_pos hg]
      obtain ⟨hl, hlt⟩ := (goes_lt h0).1 hg
      obtain ⟨m, hm⟩ : ∃ m, r.length - 1 = m + 1 := ⟨r.length - 2, by omega⟩
      rw [hm]
      simp only [SS]
      by_cases e2 : r.length = 2
      · have : m = 0 := by omega
        subst this
        rw [if_pos e2]
        simp [hlt, SS]
      · rw [if_neg e2]
        have hf := stp_first h0 hl hlt
        have hne : stpR r ≠ [] := fun e => by rw [e] at hf; simp at hf
        have hlen : (stpR r).length = m + 1 := by rw [stpR_len]; omega
        have ih := last_SS k (red (stpR r)) (red_first hne (by omega)) (by rw [red_len]; omega) (by rw [red_len]; omega)
        rw [ih, red_len, hlen]
        simp only [Nat.add_sub_cancel]
        rw [← SS_scl m (red (stpR r)) (sg_ne hne (by omega)), ← red_scl hne (by omega)]
        simp [hlt]
    · rw [if_neg hg]
      by_cases e1 : r.length = 1
      · rw [e1]; simp [SS]
      · obtain ⟨m, hm⟩ : ∃ m, r.length - 1 = m + 1 := ⟨r.length - 2, by omega⟩
        rw [hm]
        simp only [SS]
        have : ¬ lt2 r := fun h => hg ((goes_lt h0).2 ⟨by omega, h⟩)
        simp [this, e1]
/-- STABLE, by numbers alone -/
theorem stab_SS {p : List Int} (h : polyE p = 0) : stab p = true ↔ SS (p.length - 1) p := by
  obtain ⟨h1, h2, h3, h4⟩ := poly_ok h
  have hne : p ≠ [] := fun e => by rw [e] at h1; simp at h1
  unfold stab tab
  rw [decide_eq_true_iff, last_SS 3 (red p) (red_first hne h4) (by rw [red_len]; omega) (by rw [red_len]; omega), red_len]
  rw [← SS_scl (p.length - 1) (red p) (sg_ne hne h4), ← red_scl hne h4]

/-! ### short rows -/
theorem lt_sq {x y : Int} : x.natAbs < y.natAbs ↔ x * x < y * y := by
  have e1 : ((x.natAbs * x.natAbs : Nat) : Int) = x * x := Int.natAbs_mul_self
  have e2 : ((y.natAbs * y.natAbs : Nat) : Int) = y * y := Int.natAbs_mul_self
  constructor
  · intro h
    have := Nat.mul_lt_mul_of_lt_of_lt h h
    omega
  · intro h
    rcases Nat.lt_or_ge x.natAbs y.natAbs with h1 | h1
    · exact h1
    · have := Nat.mul_le_mul h1 h1; omega
theorem SS1 (a b : Int) : SS 1 [a, b] ↔ b.natAbs < a.natAbs := by simp [SS, lt2]
theorem stp3 (a b c : Int) : stpR [a, b, c] = [a * a - c * c, a * b - c * b] := rfl
theorem stp4 (a b c d : Int) : stpR [a, b, c, d] = [a * a - d * d, a * b - d * c, a * c - d * b] := rfl
theorem abs_mul_lt {k x y : Int} (hk : k ≠ 0) : (k * x).natAbs < (k * y).natAbs ↔ x.natAbs < y.natAbs := by
  rw [Int.natAbs_mul, Int.natAbs_mul]; exact Nat.mul_lt_mul_left (by omega)
theorem SS2 (a b c : Int) : SS 2 [a, b, c] ↔ c.natAbs < a.natAbs ∧ b.natAbs < (a + c).natAbs := by
  simp only [SS, stp3, and_true]
  simp only [lt2, List.length_cons, List.length_nil, Nat.zero_add, Nat.reduceAdd, Nat.add_one_sub_one, List.getD_cons_succ, List.getD_cons_zero]
  refine and_congr_right fun h => ?_
  have h0 : a - c ≠ 0 := by omega
  have e1 : a * b - c * b = (a - c) * b := by grind
  have e2 : a * a - c * c = (a - c) * (a + c) := by grind
  rw [e1, e2, abs_mul_lt h0]
theorem SS3 (a b c d : Int) : SS 3 [a, b, c, d] ↔ d.natAbs < a.natAbs ∧ (a * c - d * b).natAbs < (a * a - d * d).natAbs ∧ (a * b - d * c).natAbs < ((a * a - d * d) + (a * c - d * b)).natAbs := by
  rw [SS, stp4, SS2]
  simp [lt2]

/-- by signs -/
theorem sgn_pos {x y : Int} (h : 0 < x * y) (hx : 0 < x) : 0 < y := by
  rcases Int.lt_trichotomy y 0 with h1 | h1 | h1
  · have := Int.mul_neg_of_pos_of_neg hx h1; omega
  · subst h1; simp at h
  · exact h1
theorem K_pos {p q r f g : Int} (hp : 0 < p) (hf : 0 < f) (h1 : -(p + r) < q) (h2 : q < p + r) (h3 : -f < g) (h4 : g < f) (h5 : 0 < f * p - g * r) (h6 : 0 < f * p + g * r) : 0 < p * (f * f) - q * (f * g) + r * (g * g) := by
  rcases Int.le_total 0 g with hg | hg
  · have h7 : q * (f * g) ≤ (p + r) * (f * g) := Int.mul_le_mul_of_nonneg_right (by omega) (Int.mul_nonneg (by omega) hg)
    have h8 : 0 < (f - g) * (f * p - g * r) := Int.mul_pos (by omega) h5
    have e : (f - g) * (f * p - g * r) = p * (f * f) - (p + r) * (f * g) + r * (g * g) := by grind
    omega
  · have h7 : (p + r) * (f * g) ≤ -q * (f * g) := by
      have h9 : (-q) * (f * -g) ≤ (p + r) * (f * -g) := Int.mul_le_mul_of_nonneg_right (by omega) (Int.mul_nonneg (by omega) (by omega))
      have e1 : (-q) * (f * -g) = q * (f * g) := by grind
      have e2 : (p + r) * (f * -g) = -((p + r) * (f * g)) := by grind
      have e3 : -q * (f * g) = -(q * (f * g)) := by grind
      omega
    have h8 : 0 < (f + g) * (f * p + g * r) := Int.mul_pos (by omega) h6
    have e : (f + g) * (f * p + g * r) = p * (f * f) + (p + r) * (f * g) + r * (g * g) := by grind
    have e3 : -q * (f * g) = -(q * (f * g)) := by grind
    omega
theorem cubic_pos {p q r f g : Int} (hp : 0 < p) (hf : 0 < f) :
    SS 3 [f * p, f * q + g * p, f * r + g * q, g * r] ↔ (r.natAbs < p.natAbs ∧ q.natAbs < (p + r).natAbs) ∧ g.natAbs < f.natAbs := by
  rw [SS3]
  have hfp : 0 < f * p := Int.mul_pos hf hp
  have eA : (f * p) * (f * p) - (g * r) * (g * r) = (f * p - g * r) * (f * p + g * r) := by grind
  have eS : (f * p) * (f * p) - (g * r) * (g * r) + ((f * p) * (f * r + g * q) - (g * r) * (f * q + g * p)) + ((f * p) * (f * q + g * p) - (g * r) * (f * r + g * q)) = (f * p - g * r) * ((p + q + r) * (f + g)) := by grind
  have eD : (f * p) * (f * p) - (g * r) * (g * r) + ((f * p) * (f * r + g * q) - (g * r) * (f * q + g * p)) - ((f * p) * (f * q + g * p) - (g * r) * (f * r + g * q)) = (f * p + g * r) * ((p - q + r) * (f - g)) := by grind
  have eK : (f * p) * (f * p) - (g * r) * (g * r) - ((f * p) * (f * r + g * q) - (g * r) * (f * q + g * p)) = (p - r) * (p * (f * f) - q * (f * g) + r * (g * g)) := by grind
  generalize hA : (f * p) * (f * p) - (g * r) * (g * r) = A at *
  generalize hC : (f * p) * (f * r + g * q) - (g * r) * (f * q + g * p) = C at *
  generalize hB : (f * p) * (f * q + g * p) - (g * r) * (f * r + g * q) = B at *
  constructor
  · rintro ⟨h1, h2, h3⟩
    have a1 : 0 < f * p - g * r := by omega
    have a2 : 0 < f * p + g * r := by omega
    have a3 : 0 < A := by rw [eA]; exact Int.mul_pos a1 a2
    have b1 : 0 < (p + q + r) * (f + g) := sgn_pos (by rw [← eS]; omega) a1
    have b2 : 0 < (p - q + r) * (f - g) := sgn_pos (by rw [← eD]; omega) a2
    have b3 : 0 < (p - r) * (p * (f * f) - q * (f * g) + r * (g * g)) := by rw [← eK]; omega
    rcases Int.lt_trichotomy (f + g) 0 with c1 | c1 | c1
    · -- g < -f
      exfalso
      have d1 : p + q + r < 0 := by
        rcases Int.lt_or_le (p + q + r) 0 with h | h
        · exact h
        · have := Int.mul_nonpos_of_nonneg_of_nonpos h (show f + g ≤ 0 by omega); omega
      have d2 : 0 < p - q + r := by
        rcases Int.lt_or_le 0 (p - q + r) with h | h
        · exact h
        · have := Int.mul_nonpos_of_nonpos_of_nonneg h (show 0 ≤ f - g by omega); omega
      have d3 : r < p := by
        rcases Int.lt_or_le r p with h | h
        · exact h
        · have h9 : f * p ≤ -g * r := Int.mul_le_mul (by omega) h (by omega) (by omega)
          have e9 : -g * r = -(g * r) := by grind
          omega
      have d4 : 0 < p * (f * f) - q * (f * g) + r * (g * g) := sgn_pos b3 (by omega)
      have h7 : (p + r) * (f * -g) < (-q) * (f * -g) := Int.mul_lt_mul_of_pos_right (by omega) (Int.mul_pos hf (by omega))
      have h8 : (f + g) * (f * p + g * r) < 0 := Int.mul_neg_of_neg_of_pos c1 a2
      have e : (f + g) * (f * p + g * r) = p * (f * f) - (p + r) * (f * -g) + r * (g * g) := by grind
      have e2 : (-q) * (f * -g) = q * (f * g) := by grind
      omega
    · rw [c1] at b1; simp at b1
    · have d1 : 0 < p + q + r := sgn_pos (by rw [Int.mul_comm]; exact b1) c1
      rcases Int.lt_trichotomy (f - g) 0 with c2 | c2 | c2
      · exfalso
        have d2 : p - q + r < 0 := by
          rcases Int.lt_or_le (p - q + r) 0 with h | h
          · exact h
          · have := Int.mul_nonpos_of_nonneg_of_nonpos h (show f - g ≤ 0 by omega); omega
        have d3 : r < p := by
          rcases Int.lt_or_le r p with h | h
          · exact h
          · have h9 : f * p ≤ g * r := Int.mul_le_mul (by omega) h (by omega) (by omega)
            omega
        have d4 : 0 < p * (f * f) - q * (f * g) + r * (g * g) := sgn_pos b3 (by omega)
        have h7 : (p + r) * (f * g) < q * (f * g) := Int.mul_lt_mul_of_pos_right (by omega) (Int.mul_pos hf (by omega))
        have h8 : (f - g) * (f * p - g * r) < 0 := Int.mul_neg_of_neg_of_pos c2 a1
        have e : (f - g) * (f * p - g * r) = p * (f * f) - (p + r) * (f * g) + r * (g * g) := by grind
        omega
      · rw [c2] at b2; simp at b2
      · have d2 : 0 < p - q + r := sgn_pos (by rw [Int.mul_comm]; exact b2) c2
        have hK := K_pos hp hf (show -(p + r) < q by omega) (show q < p + r by omega) (by omega) (by omega) a1 a2
        have d3 : 0 < p - r := sgn_pos (by rw [Int.mul_comm]; exact b3) hK
        omega
  · rintro ⟨⟨h1, h2⟩, h3⟩
    have hgr : (g * r).natAbs < (f * p).natAbs := by
      rw [Int.natAbs_mul, Int.natAbs_mul]
      exact Nat.mul_lt_mul_of_lt_of_lt h3 h1
    have a1 : 0 < f * p - g * r := by omega
    have a2 : 0 < f * p + g * r := by omega
    have a3 : 0 < A := by rw [eA]; exact Int.mul_pos a1 a2
    have hK := K_pos hp hf (show -(p + r) < q by omega) (show q < p + r by omega) (by omega) (by omega) a1 a2
    have b1 := Int.mul_pos a1 (Int.mul_pos (show 0 < p + q + r by omega) (show 0 < f + g by omega))
    have b2 := Int.mul_pos a2 (Int.mul_pos (show 0 < p - q + r by omega) (show 0 < f - g by omega))
    have b3 := Int.mul_pos (show 0 < p - r by omega) hK
    rw [← eS] at b1
    rw [← eD] at b2
    rw [← eK] at b3
    exact ⟨hgr, by omega, by omega⟩
theorem SS_neg (k : Nat) (r : List Int) : SS k (r.map fun x => -x) ↔ SS k r := by
  have := SS_scl k r (show (-1 : Int) ≠ 0 by omega)
  unfold scl at this
  rw [← this]
  have e : (r.map fun x => -x) = r.map fun x => -1 * x := List.map_congr_left fun x _ => by omega
  rw [e]
theorem cubic {p q r f g : Int} (hp : p ≠ 0) (hf : f ≠ 0) :
    SS 3 [f * p, f * q + g * p, f * r + g * q, g * r] ↔ SS 2 [p, q, r] ∧ g.natAbs < f.natAbs := by
  rw [SS2]
  have main : ∀ {p q r f g : Int}, 0 < p → f ≠ 0 → (SS 3 [f * p, f * q + g * p, f * r + g * q, g * r] ↔ (r.natAbs < p.natAbs ∧ q.natAbs < (p + r).natAbs) ∧ g.natAbs < f.natAbs) := by
    intro p q r f g hp hf
    rcases Int.lt_trichotomy f 0 with h | h | h
    · have := cubic_pos (p := p) (q := q) (r := r) (f := -f) (g := -g) hp (by omega)
      rw [Int.natAbs_neg, Int.natAbs_neg] at this
      rw [← this, ← SS_neg]
      have e : List.map (fun x => -x) [f * p, f * q + g * p, f * r + g * q, g * r] = [-f * p, -f * q + -g * p, -f * r + -g * q, -g * r] := by
        simp only [List.map_cons, List.map_nil, List.cons.injEq, and_true]
        refine ⟨?_, ?_, ?_, ?_⟩ <;> grind
      rw [e]
    · exact absurd h hf
    · exact cubic_pos hp h
  rcases Int.lt_trichotomy p 0 with h | h | h
  · have := main (p := -p) (q := -q) (r := -r) (f := f) (g := g) (by omega) hf
    rw [Int.natAbs_neg, Int.natAbs_neg, Int.natAbs_neg] at this
    have e2 : (-p + -r).natAbs = (p + r).natAbs := by omega
    rw [e2] at this
    rw [← this, ← SS_neg]
    have e : List.map (fun x => -x) [f * p, f * q + g * p, f * r + g * q, g * r] = [f * -p, f * -q + g * -p, f * -r + g * -q, g * -r] := by
      simp only [List.map_cons, List.map_nil, List.cons.injEq, and_true]
      refine ⟨?_, ?_, ?_, ?_⟩ <;> grind
    rw [e]
  · exact absurd h hp
  · exact main h hf
theorem square {p q f g : Int} : SS 2 [f * p, f * q + g * p, g * q] ↔ SS 1 [p, q] ∧ g.natAbs < f.natAbs := by
  rw [SS2, SS1, lt_sq, lt_sq, lt_sq, lt_sq]
  have e1 : (f * p + g * q) * (f * p + g * q) - (f * q + g * p) * (f * q + g * p) = (p * p - q * q) * (f * f - g * g) := by grind
  have e2 : (g * q) * (g * q) = (g * g) * (q * q) := by grind
  have e3 : (f * p) * (f * p) = (f * f) * (p * p) := by grind
  have hP := sq_nonneg p
  have hQ := sq_nonneg q
  have hF := sq_nonneg f
  have hG := sq_nonneg g
  rw [e2, e3]
  generalize p * p = P at *
  generalize q * q = Q at *
  generalize f * f = F at *
  generalize g * g = G at *
  constructor
  · rintro ⟨h1, h2⟩
    have h3 : 0 < (P - Q) * (F - G) := by omega
    rcases Int.lt_or_le Q P with h | h
    · have := sgn_pos h3 (by omega)
      exact ⟨h, by omega⟩
    · exfalso
      rcases Int.lt_or_le F G with h4 | h4
      · have := Int.mul_le_mul (show F ≤ G by omega) h hP (by omega)
        omega
      · have := Int.mul_nonpos_of_nonpos_of_nonneg (show P - Q ≤ 0 by omega) (show 0 ≤ F - G by omega)
        omega
  · rintro ⟨h1, h2⟩
    have h3 : 0 < (P - Q) * (F - G) := Int.mul_pos (by omega) (by omega)
    refine ⟨?_, by omega⟩
    have h4 : G * Q ≤ G * P := Int.mul_le_mul_of_nonneg_left (by omega) hG
    have h5 : G * P < F * P := Int.mul_lt_mul_of_pos_right h2 (by omega)
    omega
theorem line {p f g : Int} (hp : p ≠ 0) : SS 1 [f * p, g * p] ↔ g.natAbs < f.natAbs := by
  rw [SS1, Int.mul_comm f, Int.mul_comm g, abs_mul_lt hp]
end Go.Proofs.Ytbcdgfgacigaoaa
end
section
/-
  STABLE IS INSIDE: the law of stable products.
-/
set_option linter.unusedVariables false
set_option linter.unusedSimpArgs false
namespace Go.Proofs.Ytbcdgfgacigaoaa
open Go Go.Ab Go.Tx

/-- a product, up to a number of rounds -/
def prodAt (p : List Int) (f g : Int) (n i : Nat) : List Int := mkL n fun k => (if k < i then f * p.getD k 0 else 0) + (if 1 ≤ k ∧ k ≤ i then g * p.getD (k - 1) 0 else 0)
theorem prodAt_len (p : List Int) (f g : Int) (n i : Nat) : (prodAt p f g n i).length = n := mkL_len _ _
theorem prodAt_get (p : List Int) (f g : Int) (n i k : Nat) (h : k < n) : (prodAt p f g n i).getD k 0 = (if k < i then f * p.getD k 0 else 0) + (if 1 ≤ k ∧ k ≤ i then g * p.getD (k - 1) 0 else 0) := mkL_getD _ _ h
theorem prodAt_zero (p : List Int) (f g : Int) (n : Nat) : prodAt p f g n 0 = List.replicate n 0 := by
  refine (mkL_of (f := fun k => (if k < 0 then f * p.getD k 0 else 0) + (if 1 ≤ k ∧ k ≤ 0 then g * p.getD (k - 1) 0 else 0)) (by simp) fun k hk => ?_).symm
  rw [List.getElem?_replicate, if_pos hk, if_neg (by omega), if_neg (by omega)]; rfl
theorem prodAt_next (p : List Int) (f g : Int) {n i : Nat} (h : i + 1 < n) :
    ((prodAt p f g n i).set i ((prodAt p f g n i).getD i 0 + f * p.getD i 0)).set (i + 1) ((prodAt p f g n i).getD (i + 1) 0 + g * p.getD i 0) = prodAt p f g n (i + 1) := by
  rw [prodAt_get _ _ _ _ _ _ (by omega), prodAt_get _ _ _ _ _ _ h]
  refine mkL_of (by simp [prodAt_len]) fun k hk => ?_
  rw [List.getElem?_set, List.getElem?_set]
  simp only [List.length_set, prodAt_len]
  by_cases h1 : i + 1 = k
  · subst h1
    have a1 : ¬ i + 1 < i := by omega
    have a2 : ¬ (1 ≤ i + 1 ∧ i + 1 ≤ i) := by omega
    have a3 : ¬ i + 1 < i + 1 := by omega
    have a4 : 1 ≤ i + 1 ∧ i + 1 ≤ i + 1 := by omega
    rw [if_pos rfl, if_pos hk, if_neg a1, if_neg a2, if_neg a3, if_pos a4]
    simp
  · rw [if_neg h1]
    by_cases h2 : i = k
    · subst h2
      have a1 : ¬ i < i := by omega
      have a3 : i < i + 1 := by omega
      rw [if_pos rfl, if_pos hk, if_neg a1, if_pos a3]
      congr 1
      by_cases h3 : 1 ≤ i
      · have a2 : 1 ≤ i ∧ i ≤ i := by omega
        have a4 : 1 ≤ i ∧ i ≤ i + 1 := by omega
        rw [if_pos a2, if_pos a4]; omega
      · have a2 : ¬ (1 ≤ i ∧ i ≤ i) := by omega
        have a4 : ¬ (1 ≤ i ∧ i ≤ i + 1) := by omega
        rw [if_neg a2, if_neg a4]; omega
    · rw [if_neg h2]
      unfold prodAt
      rw [mkL_get _ hk]
      congr 1
      congr 1
      · by_cases h3 : k < i
        · rw [if_pos h3, if_pos (by omega)]
        · rw [if_neg h3, if_neg (by omega)]
      · by_cases h3 : 1 ≤ k ∧ k ≤ i
        · rw [if_pos h3, if_pos (by omega)]
        · rw [if_neg h3, if_neg (by omega)]
theorem prod_poly {p : List Int} {f g : Int} (hE : polyE p = 0) (h3 : p.length ≤ 3) (hf : f ≠ 0) (hfb : -15 ≤ f ∧ f ≤ 15) (hgb : -15 ≤ g ∧ g ≤ 15) (hb : ∀ k, k < p.length → -30 ≤ p.getD k 0 ∧ p.getD k 0 ≤ 30) :
    polyE (prodAt p f g (p.length + 1) p.length) = 0 := by
  obtain ⟨h1, h2, _, h4⟩ := poly_ok hE
  have hall : ∀ x ∈ prodAt p f g (p.length + 1) p.length, -1000 ≤ x ∧ x ≤ 1000 := fun x hx => by
    obtain ⟨k, hk, rfl⟩ := mkL_mem hx
    have hm : ∀ (c : Int) j, -15 ≤ c ∧ c ≤ 15 → j < p.length → -450 ≤ c * p.getD j 0 ∧ c * p.getD j 0 ≤ 450 := fun c j hc hj => by
      have := abs_mul_le (A := 15) (B := 30) hc (hb j hj); omega
    have a1 : -450 ≤ (if k < p.length then f * p.getD k 0 else 0) ∧ (if k < p.length then f * p.getD k 0 else 0) ≤ 450 := by
      split
      · exact hm f k hfb (by assumption)
      · omega
    have a2 : -450 ≤ (if 1 ≤ k ∧ k ≤ p.length then g * p.getD (k - 1) 0 else 0) ∧ (if 1 ≤ k ∧ k ≤ p.length then g * p.getD (k - 1) 0 else 0) ≤ 450 := by
      split
      · exact hm g (k - 1) hgb (by omega)
      · omega
    omega
  have hany : (prodAt p f g (p.length + 1) p.length).any bad1000 = false := by
    rw [List.any_eq_false]
    intro x hx
    have := hall x hx
    simp [bad1000, this]
  unfold polyE
  have e0 : (prodAt p f g (p.length + 1) p.length).getD 0 0 = f * p.getD 0 0 := by
    rw [prodAt_get _ _ _ _ _ _ (by omega)]
    have a1 : 0 < p.length := h1
    have a2 : ¬ (1 ≤ 0 ∧ 0 ≤ p.length) := by omega
    rw [if_pos a1, if_neg a2]; omega
  rw [prodAt_len, if_neg (by omega), if_neg (by omega), hany, e0]
  simp only [Bool.false_eq_true, if_false]
  rw [if_neg]
  intro this
  rcases Int.mul_eq_zero.1 this with h | h
  · exact hf h
  · exact h4 h
theorem prod_stab {p : List Int} {f g : Int} (hE : polyE p = 0) (hE2 : polyE (prodAt p f g (p.length + 1) p.length) = 0) (h3 : p.length ≤ 3) (hf : f ≠ 0) :
    stab (prodAt p f g (p.length + 1) p.length) = true ↔ stab p = true ∧ g.natAbs < f.natAbs := by
  rw [stab_SS hE, stab_SS hE2, prodAt_len]
  obtain ⟨h1, _, _, h4⟩ := poly_ok hE
  match p, h1, h3, h4 with
  | [a], _, _, h4 =>
    have e : prodAt [a] f g 2 1 = [f * a, g * a] := by simp [prodAt, mkL, List.range_succ]
    simp only [List.length_cons, List.length_nil, Nat.zero_add, Nat.reduceAdd, Nat.add_one_sub_one, Nat.sub_self]
    rw [e, line (by simpa using h4)]
    simp [SS]
  | [a, b], _, _, h4 =>
    have e : prodAt [a, b] f g 3 2 = [f * a, f * b + g * a, g * b] := by simp [prodAt, mkL, List.range_succ]
    simp only [List.length_cons, List.length_nil, Nat.zero_add, Nat.reduceAdd, Nat.add_one_sub_one]
    rw [e, square]
  | [a, b, c], _, _, h4 =>
    have e : prodAt [a, b, c] f g 4 3 = [f * a, f * b + g * a, f * c + g * b, g * c] := by simp [prodAt, mkL, List.range_succ]
    simp only [List.length_cons, List.length_nil, Nat.zero_add, Nat.reduceAdd, Nat.add_one_sub_one]
    rw [e, cubic (by simpa using h4) hf]
theorem DriveStable_eq (p : List Int) (x : Int × Int × Unit) (hl : p.length ≤ 9223372036854775807) : law04_DriveStable p x = some true := by
  obtain ⟨f, g, _⟩ := x
  unfold law04_DriveStable
  rw [show law04_awake = some true from rfl, Option.bind_some, Bool.not_true, cond_false]
  refine Ok.eq ?_
  rw [ok_bind]
  -- the conditions
  have hcond : ∀ b : Bool, (b = false → polyE p = 0 ∧ p.length ≤ 3 ∧ f ≠ 0 ∧ (-15 ≤ f ∧ f ≤ 15) ∧ (-15 ≤ g ∧ g ≤ 15)) → Ok (bif b then some true else
      (mkS (0 : Int) (w64 ((p.length : Int) + 1))).bind fun x6 =>
      bif decide (w64 ((p.length : Int) + 1) = w64 ((p.length : Int) + 1)) then
        (loopO (fun (s8 : ((List Int) × Int)) =>
            bif decide (s8.2 < (p.length : Int)) then
              (idx p s8.2).bind fun x9 =>
              (base_Within x9 (-30 : Int) (30 : Int)).bind fun x10 =>
              bif !x10 then
                some (.inr (.inr true))
              else
                (idx s8.1 s8.2).bind fun x11 =>
                (idx p s8.2).bind fun x12 =>
                (idx s8.1 s8.2).bind fun x13 =>
                (idx s8.1 s8.2).bind fun x14 =>
                let l15 : (List Int) := List.set s8.1 s8.2.toNat (w64 (x11 + (w64 (f * x12))))
                (idx l15 (w64 (s8.2 + 1))).bind fun x16 =>
                (idx p s8.2).bind fun x17 =>
                (idx l15 (w64 (s8.2 + 1))).bind fun x18 =>
                (idx l15 (w64 (s8.2 + 1))).bind fun x19 =>
                let l20 : (List Int) := List.set l15 (w64 (s8.2 + 1)).toNat (w64 (x16 + (w64 (g * x17))))
                some (.inl (l20, w64 (s8.2 + 1)))
            else
              some (.inr (.inl s8.1))) (x6, 0)).bind (Sum.elim (fun (p21 : (List Int)) =>
        (base_CopyInts p).bind fun x22 =>
        (drive_IsStable x22).bind fun x23 =>
        (drive_IsStable p21).bind fun x24 =>
        (bif decide (x23.2 = 0) then
            bif decide (x24.2 = 0) then
              bif x23.1 then
                (base_Size g).bind fun x25 =>
                (base_Size f).bind fun x26 =>
                some (x24.1 == decide (x25 < x26))
              else
                some (x24.1 == false)
            else
              some false
          else
            some false).bind fun (p27 : Bool) =>
        some p27) some)
      else
        none) (fun r => r = true) := by
    intro b hb
    cases b with
    | true => simp only [cond_true]; exact ok_some.2 rfl
    | false =>
      obtain ⟨hE, h3, hf, hfb, hgb⟩ := hb rfl
      obtain ⟨hp1, _, _, hp4⟩ := poly_ok hE
      simp only [cond_false, decide_true, cond_true]
      rw [wid (by omega) (by omega), mkS_in (by omega), Option.bind_some, ok_elim]
      have e1 : ((p.length : Int) + 1).toNat = p.length + 1 := by omega
      rw [e1, ← prodAt_zero p f g]
      refine (loop_up p.length (fun i (s : List Int × Int) => s = (prodAt p f g (p.length + 1) i, (i : Int)) ∧ ∀ k, k < i → -30 ≤ p.getD k 0 ∧ p.getD k 0 ≤ 30)
        (fun r => r = .inr true ∨ (r = .inl (prodAt p f g (p.length + 1) p.length) ∧ ∀ k, k < p.length → -30 ≤ p.getD k 0 ∧ p.getD k 0 ≤ 30)) ⟨rfl, fun k hk => by omega⟩ ?_).mono ?_
      · rintro i s hi ⟨rfl, hI⟩
        by_cases hlt : i < p.length
        · have e0 : decide ((i : Int) < (p.length : Int)) = true := by simp; omega
          simp only [e0, cond_true]
          rw [idx_int (by omega) (by omega)]
          simp only [Option.bind_some, Int.toNat_natCast, Within_ok]
          by_cases c : -30 ≤ p.getD i 0 ∧ p.getD i 0 ≤ 30
          · have d : decide (-30 ≤ p.getD i 0 ∧ p.getD i 0 ≤ 30) = true := by simpa using c
            simp only [d, Bool.not_true, cond_false]
            have hm : ∀ (q : Int), -15 ≤ q ∧ q ≤ 15 → -450 ≤ q * p.getD i 0 ∧ q * p.getD i 0 ≤ 450 := fun q hq => by
              have := abs_mul_le (A := 15) (B := 30) hq c; omega
            have hbd : ∀ k, k < p.length + 1 → -2000 ≤ (prodAt p f g (p.length + 1) i).getD k 0 ∧ (prodAt p f g (p.length + 1) i).getD k 0 ≤ 2000 := fun k hk => by
              rw [prodAt_get _ _ _ _ _ _ hk]
              have a1 : -450 ≤ (if k < i then f * p.getD k 0 else 0) ∧ (if k < i then f * p.getD k 0 else 0) ≤ 450 := by
                split
                · have := abs_mul_le (A := 15) (B := 30) hfb (hI k (by assumption)); omega
                · omega
              have a2 : -450 ≤ (if 1 ≤ k ∧ k ≤ i then g * p.getD (k - 1) 0 else 0) ∧ (if 1 ≤ k ∧ k ≤ i then g * p.getD (k - 1) 0 else 0) ≤ 450 := by
                split
                · have := abs_mul_le (A := 15) (B := 30) hgb (hI (k - 1) (by omega)); omega
                · omega
              omega
            have m1 := hm f hfb
            have m2 := hm g hgb
            have b1 := hbd i (by omega)
            have b2 := hbd (i + 1) (by omega)
            rw [idx_int (l := prodAt p f g (p.length + 1) i) (by omega) (by rw [prodAt_len]; omega)]
            simp only [Option.bind_some, Int.toNat_natCast]
            rw [wid (n := f * p.getD i 0) (by omega) (by omega), wid (n := (prodAt p f g (p.length + 1) i).getD i 0 + f * p.getD i 0) (by omega) (by omega), wid (n := (i : Int) + 1) (by omega) (by omega)]
            rw [idx_int (n := (i : Int) + 1) (by omega) (by rw [List.length_set, prodAt_len]; omega)]
            simp only [Option.bind_some]
            have e2 : ((i : Int) + 1).toNat = i + 1 := by omega
            rw [e2]
            have e3 : ((prodAt p f g (p.length + 1) i).set i ((prodAt p f g (p.length + 1) i).getD i 0 + f * p.getD i 0)).getD (i + 1) 0 = (prodAt p f g (p.length + 1) i).getD (i + 1) 0 := by
              simp only [List.getD_eq_getElem?_getD]
              rw [List.getElem?_set_ne (by omega)]
            rw [e3, wid (n := g * p.getD i 0) (by omega) (by omega), wid (n := (prodAt p f g (p.length + 1) i).getD (i + 1) 0 + g * p.getD i 0) (by omega) (by omega), prodAt_next p f g (by omega), rnd_inl]
            refine ⟨hlt, by simp, fun k hk => ?_⟩
            by_cases hki : k < i
            · exact hI k hki
            · have : k = i := by omega
              subst this; exact c
          · have d : decide (-30 ≤ p.getD i 0 ∧ p.getD i 0 ≤ 30) = false := by simpa using c
            simp only [d, Bool.not_false, cond_true]
            rw [rnd_inr]; exact .inl rfl
        · have : i = p.length := by omega
          subst this
          have e0 : decide ((p.length : Int) < (p.length : Int)) = false := by simp
          simp only [e0, cond_false]
          rw [rnd_inr]; exact .inr ⟨rfl, hI⟩
      · rintro r (rfl | ⟨rfl, hb⟩)
        · rfl
        · simp only
          have hE2 := prod_poly hE h3 hf hfb hgb hb
          have hst := prod_stab hE hE2 h3 hf
          rw [CopyInts_ok (by omega)]
          simp only [Option.bind_some]
          rw [IsStable_ok (by omega), IsStable_ok (by rw [prodAt_len]; omega)]
          simp only [Option.bind_some, if_pos hE, if_pos hE2, hE, hE2, decide_true, cond_true]
          rw [Size_ok (by omega), Size_ok (by omega)]
          simp only [Option.bind_some]
          generalize hq : stab (prodAt p f g (p.length + 1) p.length) = q at *
          cases hs : stab p with
          | true =>
            rw [hs] at hst
            refine ok_some.2 ?_
            have hst2 : q = true ↔ g.natAbs < f.natAbs := by simpa using hst
            cases q with
            | true =>
              have := hst2.1 rfl
              have d : decide ((g.natAbs : Int) < (f.natAbs : Int)) = true := by simp; omega
              rw [d]; rfl
            | false =>
              have h9 : ¬ g.natAbs < f.natAbs := fun h => by have := hst2.2 h; cases this
              have d : decide ((g.natAbs : Int) < (f.natAbs : Int)) = false := by simp; omega
              rw [d]; rfl
          | false =>
            rw [hs] at hst
            refine ok_some.2 ?_
            cases q with
            | true => have := (hst.1 rfl).1; cases this
            | false => rfl
  refine Ok.mono (P := fun b : Bool => b = false → polyE p = 0 ∧ p.length ≤ 3 ∧ f ≠ 0 ∧ (-15 ≤ f ∧ f ≤ 15) ∧ (-15 ≤ g ∧ g ≤ 15)) ?_ hcond
  by_cases hlen : p.length ≤ 1000000000
  case neg =>
    -- much longer than any polynomial
    have hE : ref04_PolynomialErr p = some 8 := by
      unfold ref04_PolynomialErr
      have a1 : decide ((p.length : Int) = 0) = false := decide_eq_false (by omega)
      have a2 : decide ((p.length : Int) > 4) = true := decide_eq_true (by omega)
      simp only [a1, a2, cond_true, cond_false]
    rw [hE]
    simp only [Option.bind_some]
    exact ⟨true, by simp, by simp⟩
  rw [refPolynomialErr_ok hlen]
  simp only [Option.bind_some]
  by_cases hE : polyE p = 0
  case neg =>
    have d : decide (polyE p = 0) = false := by simpa using hE
    simp only [d, Bool.not_false, cond_true]
    exact ok_some.2 (by simp)
  have d : decide (polyE p = 0) = true := by simpa using hE
  simp only [d, Bool.not_true, cond_false]
  by_cases h3 : p.length ≤ 3
  case neg =>
    have d : decide ((p.length : Int) > 3) = true := by simp; omega
    simp only [d, cond_true]
    exact ok_some.2 (by simp)
  have d3 : decide ((p.length : Int) > 3) = false := by simp; omega
  simp only [d3, cond_false]
  by_cases hf : f = 0
  · simp only [hf, decide_true, cond_true]
    subst hf
    exact ok_some.2 (by simp)
  have df : decide (f = 0) = false := by simpa using hf
  simp only [df, cond_false, Within_ok, Option.bind_some]
  by_cases hfb : -15 ≤ f ∧ f ≤ 15
  case neg =>
    have d : decide (-15 ≤ f ∧ f ≤ 15) = false := by simpa using hfb
    simp only [d, Bool.not_false, cond_true]
    exact ok_some.2 (by simp)
  have dfb : decide (-15 ≤ f ∧ f ≤ 15) = true := by simpa using hfb
  simp only [dfb, Bool.not_true, cond_false]
  refine ok_some.2 fun hb => ?_
  simp only [Bool.not_eq_eq_eq_not, Bool.not_false, decide_eq_true_eq] at hb
  exact ⟨hE, h3, hf, hfb, hb⟩
theorem law04_DriveStable_true : ∀ x : denP ([Ty.sl I, Ty.pair I (Ty.pair I .unit)].map .ty), RngP maxLen [.sl I, .pair I (.pair I .unit)] x → e_law04_DriveStable.F x = some true := by
  rintro ⟨a0, a1⟩ ⟨h0, _⟩
  exact DriveStable_eq a0 a1 (Nat.le_trans h0.1 (by decide))
end Go.Proofs.Ytbcdgfgacigaoaa
end
section
/-
  THE LAW DriveStable.
-/
namespace Go.Proofs.Ytbcdgfgacigaoaa.driveStable
open Go Go.Ab Go.Tx Go.ChangeShapes Go.WideShapes Go.ChangeAt Go.RowKit
set_option linter.unusedVariables false
theorem hlib : ∀ g h args r, Lb g = some h → h args = some r → CallOk Try.prog g args [] r [] := fun g h args r hg hr => by
  unfold Lb at hg
  split at hg
  · rename_i e
    subst e
    cases hg
    cases args with
    | nil => cases hr; exact awake_ok
    | cons a l => cases hr
  · cases hg
set_option maxRecDepth 100000 in
theorem contract (H : Type) (enc : TypeId × Value → H) (W : World) (base : Nat) (args : Array Value) (ds gs : List (DataW H)) (before : List MemPlace)
    (hval : ∀ (j : Nat) t v, Try.f4.params[j]? = some t → args[j]? = some v → Value.okWide Try.prog W .any base t v)
    (hW : DataW.Whole enc Try.prog Try.f4.params.toList Rows.driveStableSpec.vars false W args.toList ds gs before) :
    Calls Try.prog 4 args W fun e W' => ∃ v, e = .returned v ∧ Rows.driveStableSpec.post enc Try.prog Try.f4 false true false false W args v W' :=
  law_contract (τs := [(.sl I), (.pair I (.pair I .unit))]) (ts := [22, 37]) (tb := 4) (F := e_law04_DriveStable.F) follows hname hlib laid_out Try.func4 (by kernel_rfl) (by kernel_rfl) (by kernel_rfl) (by kernel_rfl) (by kernel_rfl) (by kernel_rfl) Try.underlying4 o_law04_DriveStable law04_DriveStable_true rfl
    (fun H ds h => by
      match ds, h with
      | [d1, d2], _ => rfl) H enc W base args ds gs before hval hW
set_option maxRecDepth 100000 in
theorem lifted (os : Os) (started : os.Started) (H : Type) (enc : TypeId × Value → H) :
    ReturnsInHanded {} Try.checked os 4 .any (Rows.driveStableSpec.pre6 enc Try.prog Try.f4 Rows.driveStableRow.domain false) (Rows.driveStableSpec.post enc Try.prog Try.f4 false true false false) := by
  refine returnsInHanded_of_change (C := Try.checked) own started (by kernel_rfl) Try.func4
    (ChangeSpec.witness6 (enc := enc) (C := Try.checked) false ⟨#[], #[.slice none 0 0, .agg #[.int .i64 0, .int .i64 0]], []⟩ 8 (by kernel_rfl) (by kernel_rfl) (by kernel_rfl) (by kernel_rfl)) ?_
  intro W base args ds gs before hval hW _ _
  exact contract H enc W base args ds gs before hval hW
theorem proved : Rows.DriveStableSaid :=
  OpenClaim.holds_of_wide 4 Try.f4 rfl rfl rfl rfl rfl rfl rfl ⟨rfl, rfl, rfl, rfl, rfl⟩ rfl rfl rfl rfl rfl (by kernel_rfl) Try.func4 (by kernel_rfl)
    (of_decide_eq_true (by kernel_rfl)) (by unfold Func.isWrapper; first | (rw [if_pos (by decide +kernel)]; kernel_rfl) | (rw [if_neg (by decide +kernel)]; exact ⟨rfl, rfl⟩))
    (fun os started H enc _ => lifted os started H enc)
end Go.Proofs.Ytbcdgfgacigaoaa.driveStable
end
