/-
  THE LAW SensorShifts: the best shift.
-/
import Derived.Test.YtpiggpgocnlomaaPS1
set_option linter.unusedVariables false
set_option linter.unusedSimpArgs false
namespace Go.Proofs.Ytpiggpgocnlomaa
open Go Go.Ab Go.Tx
theorem Shift_eq {a0 a1 : List Int} (g0 : Good a0) (g1 : Good a1) {m : Int} (hm : 0 ≤ m ∧ m ≤ 20) : ∃ r, ref07_Shift a0 a1 m = some r ∧ Best (S a0 a1) m r := by
  have e0 : w64 (0 - m) = -m := by rw [show w64 (0 - m) = 0 - m from wrap_id (by omega) (by omega)]; omega
  unfold ref07_Shift
  obtain ⟨r, hr, hQ⟩ := loop_inv (f := fun (s2 : (Int × Int)) =>
      bif decide (s2.2 ≤ m) then
        (ref07_SumAt a0 a1 s2.2).bind fun x3 =>
        (ref07_SumAt a0 a1 s2.1).bind fun x4 =>
        (bif decide (x3 > x4) then
            some true
          else
            bif decide (x3 = x4) then
              (base_Size s2.2).bind fun x5 =>
              (base_Size s2.1).bind fun x6 =>
              bif decide (x5 < x6) then
                some true
              else
                (base_Size s2.2).bind fun x7 =>
                (base_Size s2.1).bind fun x8 =>
                bif decide (x7 = x8) then
                  some (decide (s2.2 < s2.1))
                else
                  some false
            else
              some false).bind fun (p9 : Bool) =>
        (bif p9 then
            some s2.2
          else
            some s2.1).bind fun (p10 : Int) =>
        some (.inl (p10, w64 (s2.2 + 1)))
      else
        some (.inr s2.1)) (2 * m + 1).toNat
    (fun k st => ∃ b : Int, st = (b, -m + k) ∧ -m ≤ b ∧ b ≤ m ∧ ∀ i, -m ≤ i → i < -m + k → bt (S a0 a1) b i) (fun r => Best (S a0 a1) m r)
    (by
      rintro k st hk ⟨b, rfl, hb1, hb2, hall⟩
      by_cases hlt : -m + (k : Int) ≤ m
      · left
        obtain ⟨i, hi⟩ : ∃ i : Int, -m + (k : Int) = i := ⟨_, rfl⟩
        rw [hi] at hlt hall ⊢
        have e1 : w64 (i + 1) = i + 1 := wrap_id (by omega) (by omega)
        simp only [hlt, decide_true, cond_true, SumAt_eq g0 g1 (d := i) (by omega), SumAt_eq g0 g1 (d := b) (by omega), Option.bind_some, Size_eq i (by omega), Size_eq b (by omega), e1]
        have fin : ∀ (p : Bool), (p = true ↔ ¬ bt (S a0 a1) b i) → ∃ s', ((bif p then some i else some b).bind fun (p10 : Int) => some (.inl (p10, i + 1))) = (some (.inl s') : Option ((Int × Int) ⊕ Int)) ∧ k < (2 * m + 1).toNat ∧ ∃ b' : Int, s' = (b', -m + ((k + 1 : Nat) : Int)) ∧ -m ≤ b' ∧ b' ≤ m ∧ ∀ j, -m ≤ j → j < -m + ((k + 1 : Nat) : Int) → bt (S a0 a1) b' j := by
          intro p hp
          cases p with
          | true =>
            have hn := hp.1 rfl
            refine ⟨(i, i + 1), rfl, by omega, i, by congr 1; omega, by omega, by omega, fun j hj1 hj2 => ?_⟩
            by_cases hji : j = i
            · subst hji; right; exact ⟨rfl, .inr ⟨rfl, Int.le_refl _⟩⟩
            · have := hall j hj1 (by omega)
              unfold bt at hn this ⊢
              omega
          | false =>
            have hn : bt (S a0 a1) b i := Classical.byContradiction fun h => by have := hp.2 h; cases this
            refine ⟨(b, i + 1), rfl, by omega, b, by congr 1; omega, by omega, by omega, fun j hj1 hj2 => ?_⟩
            by_cases hji : j = i
            · subst hji; exact hn
            · exact hall j hj1 (by omega)
        generalize S a0 a1 = F at *
        by_cases c1 : F i > F b
        · have := fin true (by simp only [true_iff]; unfold bt; omega)
          simpa [c1] using this
        · by_cases c2 : F i = F b
          · by_cases c3 : max i (-i) < max b (-b)
            · have := fin true (by simp only [true_iff]; unfold bt; omega)
              have c6 : ¬ F b > F b := by omega
              simp only [c6, c2, c3, decide_true, decide_false, cond_true, cond_false]
              exact this
            · by_cases c4 : max i (-i) = max b (-b)
              · have := fin (decide (i < b)) (by rw [decide_eq_true_eq]; unfold bt; omega)
                simp only [c1, c2, c3, c4, decide_true, decide_false, cond_true, cond_false]
                have c5 : ¬ max b (-b) < max b (-b) := by omega
                simp only [c5, decide_false, cond_false]
                have c6 : ¬ F b > F b := by omega
                simp only [c6, decide_false, cond_false]
                exact this
              · have := fin false (by simp only [Bool.false_eq_true, false_iff]; unfold bt; omega)
                have c6 : ¬ F b > F b := by omega
                simp only [c6, c2, c3, c4, decide_true, decide_false, cond_true, cond_false]
                exact this
          · have := fin false (by simp only [Bool.false_eq_true, false_iff]; unfold bt; omega)
            simp only [c1, c2, decide_true, decide_false, cond_true, cond_false]
            exact this
      · right
        simp only [hlt, decide_false, cond_false]
        exact ⟨b, rfl, hb1, hb2, fun i h1 h2 => hall i h1 (by omega)⟩)
    (s := (0, -m)) ⟨0, by simp, by omega, by omega, fun i h1 h2 => by omega⟩
  rw [e0, hr]
  exact ⟨r, rfl, hQ⟩
theorem ShiftLoop_eq {a0 a1 : List Int} (g0 : Good a0) (g1 : Good a1) {m : Int} (hm : 0 ≤ m ∧ m ≤ 20) : ∃ r,
    loopO (fun (s13 : (Int × Int × Int)) =>
        bif decide (s13.2.2 < m) then
          (loopO (fun s => sumBody a0 a1 (w64 ((w64 (0 - s13.2.2)) - 1)) s) (0, max (0 : Int) (w64 (0 - (w64 ((w64 (0 - s13.2.2)) - 1)))))).bind fun (p19 : Int) =>
          (bif decide (p19 > s13.2.1) then
              some (w64 ((w64 (0 - s13.2.2)) - 1), p19)
            else
              some (s13.1, s13.2.1)).bind fun (p20 : (Int × Int)) =>
          (loopO (fun s => sumBody a0 a1 (w64 (s13.2.2 + 1)) s) (0, max (0 : Int) (w64 (0 - (w64 (s13.2.2 + 1)))))).bind fun (p26 : Int) =>
          (bif decide (p26 > p20.2) then
              some (w64 (s13.2.2 + 1), p26)
            else
              some (p20.1, p20.2)).bind fun (p27 : (Int × Int)) =>
          some (.inl (p27.1, p27.2, w64 (s13.2.2 + 1)))
        else
          some (.inr s13.1)) (0, S a0 a1 0, 0) = some r ∧ Best (S a0 a1) m r := by
  apply loop_inv m.toNat (fun k st => ∃ b : Int, st = (b, S a0 a1 b, (k : Int)) ∧ -(k : Int) ≤ b ∧ b ≤ k ∧ ∀ i, -(k : Int) ≤ i → i ≤ k → bt (S a0 a1) b i) (fun r => Best (S a0 a1) m r)
  · rintro k st hk ⟨b, rfl, hb1, hb2, hall⟩
    by_cases hlt : (k : Int) < m
    · left
      have e1 : w64 (w64 (0 - (k : Int)) - 1) = -((k : Int) + 1) := by
        rw [show w64 (0 - (k : Int)) = 0 - (k : Int) from wrap_id (by omega) (by omega)]
        rw [show w64 (0 - (k : Int) - 1) = 0 - (k : Int) - 1 from wrap_id (by omega) (by omega)]; omega
      have e2 : w64 ((k : Int) + 1) = (k : Int) + 1 := wrap_id (by omega) (by omega)
      have e3 : max (0 : Int) (w64 (0 - -((k : Int) + 1))) = max 0 (- -((k : Int) + 1)) := by rw [show w64 (0 - -((k : Int) + 1)) = 0 - -((k : Int) + 1) from wrap_id (by omega) (by omega)]; omega
      have e4 : max (0 : Int) (w64 (0 - ((k : Int) + 1))) = max 0 (-((k : Int) + 1)) := by rw [show w64 (0 - ((k : Int) + 1)) = 0 - ((k : Int) + 1) from wrap_id (by omega) (by omega)]; omega
      have h1 := sumLoop g0 g1 (d := -((k : Int) + 1)) (by omega) (f := fun s => sumBody a0 a1 (-((k : Int) + 1)) s) (fun _ => rfl) e3
      have h2 := sumLoop g0 g1 (d := (k : Int) + 1) (by omega) (f := fun s => sumBody a0 a1 ((k : Int) + 1) s) (fun _ => rfl) e4
      simp only [hlt, decide_true, cond_true, e1, e2, h1, h2, Option.bind_some]
      generalize S a0 a1 = F at *
      by_cases c1 : F (-((k : Int) + 1)) > F b
      · simp only [c1, decide_true, cond_true, Option.bind_some]
        by_cases c2 : F ((k : Int) + 1) > F (-((k : Int) + 1))
        · simp only [c2, decide_true, cond_true, Option.bind_some]
          refine ⟨_, rfl, by omega, (k : Int) + 1, by simp, by omega, by omega, fun i h1 h2 => ?_⟩
          by_cases hi : i = (k : Int) + 1
          · subst hi; right; exact ⟨rfl, .inr ⟨rfl, Int.le_refl _⟩⟩
          · by_cases hi2 : i = -((k : Int) + 1)
            · subst hi2; exact .inl c2
            · have := hall i (by omega) (by omega)
              unfold bt at this ⊢
              omega
        · simp only [c2, decide_false, cond_false, Option.bind_some]
          refine ⟨_, rfl, by omega, -((k : Int) + 1), by simp, by omega, by omega, fun i h1 h2 => ?_⟩
          by_cases hi : i = (k : Int) + 1
          · subst hi; unfold bt; omega
          · by_cases hi2 : i = -((k : Int) + 1)
            · subst hi2; right; exact ⟨rfl, .inr ⟨rfl, Int.le_refl _⟩⟩
            · have := hall i (by omega) (by omega)
              unfold bt at this ⊢
              omega
      · simp only [c1, decide_false, cond_false, Option.bind_some]
        by_cases c2 : F ((k : Int) + 1) > F b
        · simp only [c2, decide_true, cond_true, Option.bind_some]
          refine ⟨_, rfl, by omega, (k : Int) + 1, by simp, by omega, by omega, fun i h1 h2 => ?_⟩
          by_cases hi : i = (k : Int) + 1
          · subst hi; right; exact ⟨rfl, .inr ⟨rfl, Int.le_refl _⟩⟩
          · by_cases hi2 : i = -((k : Int) + 1)
            · subst hi2; left; omega
            · have := hall i (by omega) (by omega)
              unfold bt at this ⊢
              omega
        · simp only [c2, decide_false, cond_false, Option.bind_some]
          refine ⟨_, rfl, by omega, b, by simp, by omega, by omega, fun i h1 h2 => ?_⟩
          by_cases hi : i = (k : Int) + 1
          · subst hi; unfold bt; omega
          · by_cases hi2 : i = -((k : Int) + 1)
            · subst hi2; unfold bt; omega
            · exact hall i (by omega) (by omega)
    · right
      simp only [hlt, decide_false, cond_false]
      exact ⟨b, rfl, by omega, by omega, fun i h1 h2 => hall i (by omega) (by omega)⟩
  · exact ⟨0, rfl, by omega, by omega, fun i h1 h2 => by
      have : i = 0 := by omega
      subst this
      right; exact ⟨rfl, .inr ⟨rfl, Int.le_refl _⟩⟩⟩
def shE (a0 a1 : List Int) (x m : Int) : Int := if rawE a0 = 0 then (if rawE a1 = 0 then (if a0.length = a1.length then (if 0 ≤ x ∧ x ≤ m then 0 else 2) else 13) else rawE a1) else rawE a0
theorem ShiftErr_eq (a0 a1 : List Int) (x m : Int) : ref07_ShiftErr a0 a1 x m = some (shE a0 a1 x m) := by
  unfold ref07_ShiftErr shE
  simp only [RawErr_eq, Within_eq, Option.bind_some]
  by_cases h0 : rawE a0 = 0
  · by_cases h1 : rawE a1 = 0
    · by_cases h2 : a0.length = a1.length
      · by_cases h3 : 0 ≤ x ∧ x ≤ m
        · simp [h0, h1, h2, h3]
        · simp only [h0, h1, h2, h3]; simp
      · have h2' : ¬ (a0.length : Int) = a1.length := by omega
        simp [h0, h1, h2, h2']
    · simp [h0, h1]
  · simp [h0]
theorem first4_eq (a0 a1 : List Int) (x m : Int) (l0 : a0.length ≤ big) (l1 : a1.length ≤ big) :
    firstE [rawE a0, rawE a1, if decide ((a0.length : Int) = a1.length) then 0 else 13, if decide (0 ≤ x ∧ x ≤ m) then 0 else 2] = shE a0 a1 x m := by
  unfold shE
  simp only [firstE]
  by_cases h0 : rawE a0 = 0
  · by_cases h1 : rawE a1 = 0
    · by_cases h2 : a0.length = a1.length
      · by_cases h3 : 0 ≤ x ∧ x ≤ m
        · simp [h0, h1, h2, h3]
        · simp only [h0, h1, h2, h3]; simp
      · have h2' : ¬ (a0.length : Int) = a1.length := by omega
        simp [h0, h1, h2, h2']
    · simp [h0, h1]
  · simp [h0]
theorem ShiftOf_bad (a0 a1 : List Int) (x : Int) (l0 : a0.length ≤ big) (l1 : a1.length ≤ big) (h : shE a0 a1 x 20 ≠ 0) : sensor_ShiftOf a0 a1 x = some (0, shE a0 a1 x 20) := by
  unfold sensor_ShiftOf
  simp only [rawErr_eq a0 l0, rawErr_eq a1 l1, unless_eq, within_eq, Option.bind_some]
  rw [first_of (by simp), first4_eq a0 a1 x 20 l0 l1]
  simp [h]
theorem shE_zero {a0 a1 : List Int} {x m : Int} (h : shE a0 a1 x m = 0) : rawE a0 = 0 ∧ rawE a1 = 0 ∧ a0.length = a1.length ∧ 0 ≤ x ∧ x ≤ m := by
  unfold shE at h
  split at h
  · split at h
    · split at h
      · split at h
        · rename_i h1 h2 h3 h4; exact ⟨h1, h2, h3, h4⟩
        · cases h
      · cases h
    · rename_i e; exact absurd h e
  · rename_i e; exact absurd h e
theorem ShiftOf_eq (a0 a1 : List Int) (x : Int) (l0 : a0.length ≤ big) (l1 : a1.length ≤ big) (h : shE a0 a1 x 20 = 0) : ∃ r, sensor_ShiftOf a0 a1 x = some (r, 0) ∧ Best (S a0 a1) x r := by
  obtain ⟨z0, z1, hl, hx⟩ := shE_zero h
  have g0 := good z0
  have g1 := good z1
  obtain ⟨r, hr, hb⟩ := ShiftLoop_eq g0 g1 hx
  refine ⟨r, ?_, hb⟩
  unfold sensor_ShiftOf
  simp only [rawErr_eq a0 l0, rawErr_eq a1 l1, unless_eq, within_eq, Option.bind_some]
  rw [first_of (by simp), first4_eq a0 a1 x 20 l0 l1]
  simp only [h, decide_true, Bool.not_true, cond_false, Option.bind_some]
  have h0 := sumLoop g0 g1 (d := 0) (by omega) (f := fun s => sumBody a0 a1 0 s) (fun _ => rfl) (lo := 0) (by omega)
  exact (congrArg (fun o => Option.bind o _) h0).trans (congrArg (fun o => Option.bind o _) hr)
end Go.Proofs.Ytpiggpgocnlomaa
