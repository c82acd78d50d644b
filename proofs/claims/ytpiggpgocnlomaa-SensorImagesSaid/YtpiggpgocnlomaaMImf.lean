/-
  ONE LAW OF A CHAPTER: its program side is run by an interpreter that is proved sound; what it computes is shown to be what the law says. No conditions. Part 6 of 6.
-/
import Derived.Test.YtpiggpgocnlomaaMIme
section
/-
  IMAGES: both checks of an image say the same; both centers and moves are the same quotients.
-/
set_option linter.unusedVariables false
set_option linter.unusedSimpArgs false
namespace Go.Proofs.Ytpiggpgocnlomaa
open Go Go.Ab Go.Tx Go.Wide

def Uneven (a : List (List Int)) : Prop := ∃ y, y < a.length ∧ (rw_ a y).length ≠ (rw_ a 0).length
def bad255 (n : Int) : Bool := !(decide (0 ≤ n ∧ n ≤ 255))
def OddP (a : List (List Int)) : Prop := ∃ y, y < a.length ∧ (rw_ a y).any bad255 = true
def Dark (a : List (List Int)) : Prop := ∀ y, y < a.length → (rw_ a y).any (fun n => !decide (n = 0)) = false
open Classical in
noncomputable def imgE (a : List (List Int)) : Int :=
  if a.length = 0 ∨ (rw_ a 0).length = 0 ∨ Uneven a then 10 else if 10 < a.length ∨ 10 < (rw_ a 0).length then 8 else if OddP a then 2 else if Dark a then 11 else 0

theorem rw_mem {a : List (List Int)} {r : List Int} (h : r ∈ a) : ∃ y, y < a.length ∧ rw_ a y = r := by
  obtain ⟨y, hy⟩ := List.mem_iff_getElem?.1 h
  exact ⟨y, len_lt hy, getD_at hy⟩
theorem mem_rw {a : List (List Int)} {y : Nat} (h : y < a.length) : rw_ a y ∈ a := List.mem_of_getElem? (rw_at h)
theorem unless_eq (b : Bool) (e : Int) : sensor_unless b e = some (if b then 0 else e) := by cases b <;> rfl
theorem first_eq (l : List Int) (h : l.length ≤ 1000000000) : sensor_first l = some (fst0 l) := by
  unfold sensor_first; exact for_first l h
theorem C2_all {r : List Int} (hl : r.length ≤ 1000000000) : slices_ContainsFunc_Lint_int_of_sensor_imageErr_2 r = some (r.any bad255) := by
  unfold slices_ContainsFunc_Lint_int_of_sensor_imageErr_2 slices_IndexFunc_Lint_int_of_sensor_imageErr_2
  refine for_any r sensor_imageErr_2 bad255 (fun x _ => ?_) hl
  unfold sensor_imageErr_2
  rw [within_eq]; rfl
theorem C3_all {r : List Int} (hl : r.length ≤ 1000000000) : slices_ContainsFunc_Lint_int_of_sensor_imageErr_3 r = some (r.any fun n => !decide (n = 0)) := by
  unfold slices_ContainsFunc_Lint_int_of_sensor_imageErr_3 slices_IndexFunc_Lint_int_of_sensor_imageErr_3
  exact for_any r sensor_imageErr_3 _ (fun x _ => rfl) hl
theorem samplesOf_all (a : List (List Int)) : sensor_samplesOf a = some ((rw_ a 0).length : Int) := by
  unfold sensor_samplesOf
  by_cases h : a.length = 0
  · have : a = [] := List.eq_nil_of_length_eq_zero h
    subst this; rfl
  · have h' : ¬ ((a.length : Int) = 0) := by omega
    simp only [h', decide_false, cond_false]
    rw [idx_zero, rw_at (by omega)]; rfl

theorem imageErr_all {a : List (List Int)} (h1 : a.length ≤ 1000) (h2 : ∀ y, y < a.length → (rw_ a y).length ≤ 1000) : sensor_imageErr a = some (imgE a) := by
  unfold sensor_imageErr
  rw [samplesOf_all]
  simp only [Option.bind_some]
  refine Ok.eq ?_
  rw [ok_bind]
  refine (for_idx a (fun x => !(decide ((x.length : Int) = ((rw_ a 0).length : Int)))) (by omega)).mono ?_
  intro p6 h6
  have hU : decide (p6 ≥ 0) = true ↔ Uneven a := by
    rw [h6, List.any_eq_true]
    constructor
    · rintro ⟨x, hx, hp⟩
      obtain ⟨y, hy, rfl⟩ := rw_mem hx
      exact ⟨y, hy, fun e => by simp [e] at hp⟩
    · rintro ⟨y, hy, hp⟩
      exact ⟨_, mem_rw hy, by simp; omega⟩
  rw [ok_bind]
  refine (loop_up a.length (fun i (s : Bool × Bool × Int) => s.2.2 = (i : Int) ∧ (s.1 = true ↔ ∃ y, y < i ∧ (rw_ a y).any bad255 = true) ∧ (s.2.1 = true ↔ ∀ y, y < i → (rw_ a y).any (fun n => !decide (n = 0)) = false))
    (fun r : Bool × Bool => (r.1 = true ↔ OddP a) ∧ (r.2 = true ↔ Dark a)) ⟨rfl, by simp, by simp⟩ ?_).mono ?_
  · rintro i ⟨o, d, s⟩ hi ⟨hs, ho, hd⟩
    simp only at hs ho hd
    subst hs
    by_cases hlt : i < a.length
    · have e0 : decide ((i : Int) < (a.length : Int)) = true := by simp; omega
      simp only [e0, cond_true]
      rw [idx_of (rw_at hlt)]
      simp only [Option.bind_some]
      have hl := h2 i hlt
      rw [C2_all (by omega), C3_all (by omega)]
      have e1 : ∀ c : Bool, (bif o then some true else (some c).bind fun x10 => some x10) = some (o || c) := fun c => by cases o <;> rfl
      have e2 : ∀ c : Bool, (bif d then (some c).bind fun x12 => some (!x12) else some false) = some (d && !c) := fun c => by cases d <;> rfl
      rw [e1, e2]
      simp only [Option.bind_some]
      rw [wid (by omega) (by omega), rnd_inl]
      refine ⟨hlt, by simp, ?_, ?_⟩
      · simp only [Bool.or_eq_true]
        rw [ho]
        constructor
        · rintro (⟨y, hy, h⟩ | h)
          · exact ⟨y, by omega, h⟩
          · exact ⟨i, by omega, h⟩
        · rintro ⟨y, hy, h⟩
          by_cases hyi : y < i
          · exact .inl ⟨y, hyi, h⟩
          · have : y = i := by omega
            subst this; exact .inr h
      · simp only [Bool.and_eq_true, Bool.not_eq_true']
        rw [hd]
        constructor
        · rintro ⟨h, h'⟩ y hy
          by_cases hyi : y < i
          · exact h y hyi
          · have : y = i := by omega
            subst this; exact h'
        · intro h
          exact ⟨fun y hy => h y (by omega), h i (by omega)⟩
    · have : i = a.length := by omega
      subst this
      have e0 : decide ((a.length : Int) < (a.length : Int)) = false := by simp
      simp only [e0, cond_false]
      rw [rnd_inr]
      exact ⟨ho, hd⟩
  · rintro ⟨o, d⟩ ⟨ho, hd⟩
    simp only at ho hd
    simp only [unless_eq, Option.bind_some]
    rw [first_eq _ (by simp), first_eq _ (by simp), first_eq _ (by simp), first_eq _ (by simp)]
    simp only [Option.bind_some]
    by_cases cw : (rw_ a 0).length = 0
    · simp [cw, imgE, fst0, ok_some]
    have c0 : a.length ≠ 0 := fun h => cw (by rw [List.eq_nil_of_length_eq_zero h]; rfl)
    have cw' : ((rw_ a 0).length : Int) > 0 := by omega
    by_cases hu : Uneven a
    · have hp := hU.2 hu
      by_cases c10 : ((rw_ a 0).length : Int) ≤ 10 <;> simp [cw', hp, c10, fst0, imgE, hu, ok_some]
    have hp : decide (p6 ≥ 0) = false := Bool.eq_false_iff.2 fun h => hu (hU.1 h)
    have n0 : ¬ (a.length = 0 ∨ (rw_ a 0).length = 0 ∨ Uneven a) := by simp [c0, cw, hu]
    unfold imgE
    rw [if_neg n0]
    by_cases c10 : ((rw_ a 0).length : Int) ≤ 10
    · by_cases l10 : (a.length : Int) ≤ 10
      · rw [if_neg (show ¬ (10 < a.length ∨ 10 < (rw_ a 0).length) by omega)]
        by_cases hO : OddP a
        · rw [if_pos hO]
          have := ho.2 hO
          subst this
          simp only [cw', c10, l10, hp, decide_true, cond_true, Bool.not_false, Bool.not_true, if_true, Bool.false_eq_true, if_false, fst0, Option.bind_some, ok_some]
          rfl
        · rw [if_neg hO]
          have : o = false := Bool.eq_false_iff.2 fun h => hO (ho.1 h)
          subst this
          by_cases hD : Dark a
          · rw [if_pos hD]
            have := hd.2 hD
            subst this
            simp only [cw', c10, l10, hp, decide_true, cond_true, Bool.not_false, Bool.not_true, if_true, Bool.false_eq_true, if_false, fst0, Option.bind_some, ok_some]
            rfl
          · rw [if_neg hD]
            have : d = false := Bool.eq_false_iff.2 fun h => hD (hd.1 h)
            subst this
            simp only [cw', c10, l10, hp, decide_true, cond_true, Bool.not_false, Bool.not_true, if_true, Bool.false_eq_true, if_false, fst0, Option.bind_some, ok_some]
      · rw [if_pos (show (10 < a.length ∨ 10 < (rw_ a 0).length) by omega)]
        simp only [cw', c10, l10, hp, decide_true, decide_false, cond_true, Bool.not_false, Bool.not_true, if_true, Bool.false_eq_true, if_false, fst0, Option.bind_some, ok_some]
        rfl
    · rw [if_pos (show (10 < a.length ∨ 10 < (rw_ a 0).length) by omega)]
      simp only [cw', c10, hp, decide_true, decide_false, cond_true, cond_false, Bool.not_false, Bool.not_true, if_true, Bool.false_eq_true, if_false, fst0, Option.bind_some, ok_some]
      rfl

/-! ### the reference's check -/
theorem bad_iff {n : Int} : bad255 n = true ↔ ¬ (0 ≤ n ∧ n ≤ 255) := by simp only [bad255, Bool.not_eq_true', decide_eq_false_iff_not]
theorem any_bad {r : List Int} : r.any bad255 = true ↔ ∃ j, j < r.length ∧ ¬ (0 ≤ r.getD j 0 ∧ r.getD j 0 ≤ 255) := by
  rw [List.any_eq_true]
  constructor
  · rintro ⟨x, hx, hb⟩
    obtain ⟨j, hj⟩ := List.mem_iff_getElem?.1 hx
    exact ⟨j, len_lt hj, by rw [getD_at hj]; exact bad_iff.1 hb⟩
  · rintro ⟨j, hj, hb⟩
    exact ⟨_, List.mem_of_getElem? (px_at hj), bad_iff.2 hb⟩
theorem pM_all0 {r : List Int} (h : ok255 r) : ∀ {j}, pM r j = 0 → ∀ k, k < j → r.getD k 0 = 0
  | 0, _, k, hk => by omega
  | j + 1, hs, k, hk => by
    have h1 := pM_bd h j
    have h2 := h j
    simp only [pM] at hs
    by_cases hkj : k < j
    · exact pM_all0 h (by omega) k hkj
    · have : k = j := by omega
      subst this; omega
theorem FM_all0 {R : Nat → List Int} : ∀ {i}, i ≤ 10 → (∀ y, y < i → ok255 (R y) ∧ (R y).length ≤ 10) → FM R i = 0 → ∀ y, y < i → pM (R y) (R y).length = 0
  | 0, _, _, _, y, hy => by omega
  | i + 1, hi, h, hs, y, hy => by
    have h1 := FM_bd (R := R) i (by omega) fun y hy => h y (by omega)
    have h2 := pM_bd (h i (by omega)).1 (R i).length
    simp only [FM] at hs
    by_cases hyi : y < i
    · exact FM_all0 (by omega) (fun y hy => h y (by omega)) (by omega) y hyi
    · have : y = i := by omega
      subst this; omega
theorem refImageErr_all {a : List (List Int)} (h1 : a.length ≤ 12) (h2 : ∀ y, y < a.length → (rw_ a y).length ≤ 12) : ref07_ImageErr a = some (imgE a) := by
  unfold ref07_ImageErr
  by_cases h0 : a.length = 0
  · simp [h0, imgE]
  have hr0 : idx a 0 = some (rw_ a 0) := by rw [idx_zero, rw_at (by omega)]
  have hl0 : ¬ ((a.length : Int) = 0) := by omega
  simp only [hl0, decide_false, cond_false]
  rw [hr0]
  simp only [Option.bind_some]
  by_cases hw0 : (rw_ a 0).length = 0
  · simp [hw0, imgE]
  have hw0' : ¬ (((rw_ a 0).length : Int) = 0) := by omega
  simp only [hw0', decide_false, cond_false]
  refine Ok.eq ?_
  rw [ok_elim]
  refine (loop_up a.length (fun i (s : Int) => s = (i : Int) ∧ ∀ y, y < i → (rw_ a y).length = (rw_ a 0).length)
    (fun r => (r = Sum.inr (10 : Int) ∧ Uneven a) ∨ (r = Sum.inl () ∧ ∀ y, y < a.length → (rw_ a y).length = (rw_ a 0).length)) ⟨rfl, by simp⟩ ?_).mono ?_
  · rintro i s hi ⟨rfl, hI⟩
    by_cases hlt : i < a.length
    · have e0 : decide ((i : Int) < (a.length : Int)) = true := by simp; omega
      simp only [e0, cond_true]
      rw [idx_of (rw_at hlt)]
      simp only [Option.bind_some]
      by_cases he : (rw_ a i).length = (rw_ a 0).length
      · have e1 : decide (((rw_ a i).length : Int) = ((rw_ a 0).length : Int)) = true := by simp [he]
        simp only [e1, Bool.not_true, cond_false]
        rw [wid (by omega) (by omega), rnd_inl]
        refine ⟨hlt, by simp, fun y hy => ?_⟩
        by_cases hyi : y < i
        · exact hI y hyi
        · have : y = i := by omega
          subst this; exact he
      · have e1 : decide (((rw_ a i).length : Int) = ((rw_ a 0).length : Int)) = false := by simp; omega
        simp only [e1, Bool.not_false, cond_true]
        rw [rnd_inr]
        exact .inl ⟨rfl, i, hlt, he⟩
    · have : i = a.length := by omega
      subst this
      have e0 : decide ((a.length : Int) < (a.length : Int)) = false := by simp
      simp only [e0, cond_false]
      rw [rnd_inr]
      exact .inr ⟨rfl, hI⟩
  rintro r (⟨rfl, hu⟩ | ⟨rfl, hrows⟩)
  · simp [imgE, hu]
  have hu : ¬ Uneven a := fun ⟨y, hy, h⟩ => h (hrows y hy)
  have n0 : ¬ (a.length = 0 ∨ (rw_ a 0).length = 0 ∨ Uneven a) := by simp [h0, hw0, hu]
  unfold imgE
  rw [if_neg n0]
  simp only
  by_cases hl10 : (a.length : Int) > 10
  · rw [if_pos (show (10 < a.length ∨ 10 < (rw_ a 0).length) by omega)]
    simp [hl10, ok_some]
  by_cases hw10 : ((rw_ a 0).length : Int) > 10
  · rw [if_pos (show (10 < a.length ∨ 10 < (rw_ a 0).length) by omega)]
    simp [hl10, hw10, ok_some]
  rw [if_neg (show ¬ (10 < a.length ∨ 10 < (rw_ a 0).length) by omega)]
  simp only [hl10, hw10, decide_false, cond_false, Option.bind_some]
  rw [ok_elim]
  refine (loop_up a.length (fun i (s : Int × Int) => s = (FM (rw_ a) i, (i : Int)) ∧ ∀ y, y < i → ok255 (rw_ a y))
    (fun r => (r = Sum.inr (2 : Int) ∧ OddP a) ∨ (r = Sum.inl (FM (rw_ a) a.length) ∧ ∀ y, y < a.length → ok255 (rw_ a y))) ⟨rfl, by simp⟩ ?_).mono ?_
  · rintro i s hi ⟨rfl, hI⟩
    by_cases hlt : i < a.length
    · have hM := FM_bd (R := rw_ a) i (by omega) fun y hy => ⟨hI y hy, by rw [hrows y (by omega)]; omega⟩
      have e0 : decide ((i : Int) < (a.length : Int)) = true := by simp; omega
      have hri := hrows i hlt
      simp only [e0, cond_true]
      rw [rnd_elim]
      refine (loop_up (rw_ a i).length (fun j (s : Int × Int) => s = (FM (rw_ a) i + pM (rw_ a i) j, (j : Int)) ∧ ∀ k, k < j → 0 ≤ (rw_ a i).getD k 0 ∧ (rw_ a i).getD k 0 ≤ 255)
        (fun r : Int ⊕ ((Int × Int) ⊕ (Int ⊕ Int)) => (r = Sum.inr (Sum.inr (Sum.inr (2 : Int))) ∧ OddP a) ∨ (r = Sum.inl (FM (rw_ a) i + pM (rw_ a i) (rw_ a i).length) ∧ ∀ k, k < (rw_ a i).length → 0 ≤ (rw_ a i).getD k 0 ∧ (rw_ a i).getD k 0 ≤ 255)) ⟨by simp [pM], by simp⟩ ?_).mono ?_
      · rintro j s hj ⟨rfl, hJ⟩
        simp only
        rw [idx_of (rw_at hlt)]
        simp only [Option.bind_some]
        by_cases hjl : j < (rw_ a i).length
        · have e1 : decide ((j : Int) < ((rw_ a i).length : Int)) = true := by simp; omega
          simp only [e1, cond_true]
          rw [idx_of (px_at hjl)]
          simp only [Option.bind_some]
          rw [Within_eq]
          simp only [Option.bind_some]
          by_cases hp : 0 ≤ (rw_ a i).getD j 0 ∧ (rw_ a i).getD j 0 ≤ 255
          · have hb : 0 ≤ pM (rw_ a i) j ∧ pM (rw_ a i) j ≤ 255 * j := by
              clear hp
              have : ∀ k, k ≤ j → 0 ≤ pM (rw_ a i) k ∧ pM (rw_ a i) k ≤ 255 * k := by
                intro k
                induction k with
                | zero => simp [pM]
                | succ k ih => intro hk; have h1 := ih (by omega); have h2 := hJ k (by omega); simp only [pM]; omega
              exact this j (Nat.le_refl _)
            have e2 : decide (0 ≤ (rw_ a i).getD j 0 ∧ (rw_ a i).getD j 0 ≤ 255) = true := decide_eq_true hp
            simp only [e2, Bool.not_true, cond_false]
            rw [wid (by omega) (by omega), wid (by omega) (by omega), rnd_inl]
            refine ⟨hjl, by simp [pM, Int.add_assoc], fun k hk => ?_⟩
            by_cases hkj : k < j
            · exact hJ k hkj
            · have : k = j := by omega
              subst this; exact hp
          · have e2 : decide (0 ≤ (rw_ a i).getD j 0 ∧ (rw_ a i).getD j 0 ≤ 255) = false := decide_eq_false hp
            simp only [e2, Bool.not_false, cond_true]
            rw [rnd_inr]
            exact .inl ⟨rfl, i, hlt, any_bad.2 ⟨j, hjl, hp⟩⟩
        · have : j = (rw_ a i).length := by omega
          subst this
          have e1 : decide (((rw_ a i).length : Int) < ((rw_ a i).length : Int)) = false := by simp
          simp only [e1, cond_false]
          rw [rnd_inr]
          exact .inr ⟨rfl, hJ⟩
      · rintro r (⟨rfl, ho⟩ | ⟨rfl, hr⟩)
        · exact .inl ⟨rfl, ho⟩
        · have hok := ok_at hr
          have hb := pM_bd hok (rw_ a i).length
          simp only
          rw [wid (by omega) (by omega), rnd_inl]
          refine ⟨hlt, by simp [FM], fun y hy => ?_⟩
          by_cases hyi : y < i
          · exact hI y hyi
          · have : y = i := by omega
            subst this; exact hok
    · have : i = a.length := by omega
      subst this
      have e0 : decide ((a.length : Int) < (a.length : Int)) = false := by simp
      simp only [e0, cond_false]
      rw [rnd_inr]
      exact .inr ⟨rfl, hI⟩
  rintro r (⟨rfl, ho⟩ | ⟨rfl, hpx⟩)
  · rw [if_pos ho]
  have ho : ¬ OddP a := fun ⟨y, hy, h⟩ => by
    obtain ⟨j, hj, hb⟩ := any_bad.1 h
    exact hb (hpx y hy j)
  rw [if_neg ho]
  simp only
  by_cases hs : FM (rw_ a) a.length = 0
  · have hD : Dark a := fun y hy => by
      rw [List.any_eq_false]
      intro x hx
      obtain ⟨j, hj⟩ := List.mem_iff_getElem?.1 hx
      have h3 := FM_all0 (by omega) (fun y hy => ⟨hpx y hy, by rw [hrows y hy]; omega⟩) hs y hy
      have h4 := pM_all0 (hpx y hy) h3 j (len_lt hj)
      rw [getD_at hj] at h4
      simp [h4]
    rw [if_pos hD]
    simp [hs, ok_some]
  · have hD : ¬ Dark a := fun hD => hs (FM_zero a.length fun y hy j => by
      by_cases hj : j < (rw_ a y).length
      · have h5 := hD y hy
        rw [List.any_eq_false] at h5
        have := h5 _ (List.mem_of_getElem? (px_at hj))
        simpa using this
      · simp; rw [List.getElem?_eq_none (by omega)]; rfl)
    rw [if_neg hD]
    simp [hs, ok_some]
theorem imgE_ok {a : List (List Int)} (h1 : a.length ≤ 12) (h2 : ∀ y, y < a.length → (rw_ a y).length ≤ 12) (h : imgE a = 0) : ∃ w, ImgOk a w := by
  obtain ⟨e, he, h3⟩ := ImageErr_eq h1 h2
  rw [refImageErr_all h1 h2] at he
  cases he
  exact h3 h
end Go.Proofs.Ytpiggpgocnlomaa
end
section
/-
  IMAGES: how far a center may move; the law of images.
-/
set_option linter.unusedVariables false
set_option linter.unusedSimpArgs false
namespace Go.Proofs.Ytpiggpgocnlomaa
open Go Go.Ab Go.Tx Go.Wide

/-! ### sums -/
def sm (f : Nat → Int) : Nat → Int
  | 0 => 0
  | i + 1 => sm f i + f i
def sx (f : Nat → Int) : Nat → Int
  | 0 => 0
  | i + 1 => sx f i + i * f i
theorem pM_sm (r : List Int) : ∀ j, pM r j = sm (fun k => r.getD k 0) j
  | 0 => rfl
  | j + 1 => by simp only [pM, sm, pM_sm r j]
theorem pX_sx (r : List Int) : ∀ j, pX r j = sx (fun k => r.getD k 0) j
  | 0 => rfl
  | j + 1 => by simp only [pX, sx, pX_sx r j]
theorem FM_sm (R : Nat → List Int) : ∀ i, FM R i = sm (fun y => pM (R y) (R y).length) i
  | 0 => rfl
  | i + 1 => by simp only [FM, sm, FM_sm R i]
theorem FX_sm (R : Nat → List Int) : ∀ i, FX R i = sm (fun y => pX (R y) (R y).length) i
  | 0 => rfl
  | i + 1 => by simp only [FX, sm, FX_sm R i]
theorem FY_sx (R : Nat → List Int) : ∀ i, FY R i = sx (fun y => pM (R y) (R y).length) i
  | 0 => rfl
  | i + 1 => by simp only [FY, sx, FY_sx R i]
theorem sm_bd {f : Nat → Int} {K : Int} : ∀ i, (∀ y, y < i → 0 ≤ f y ∧ f y ≤ K) → 0 ≤ sm f i ∧ sm f i ≤ K * i
  | 0, _ => by simp [sm]
  | i + 1, h => by
    have h1 := sm_bd (f := f) (K := K) i fun y hy => h y (by omega)
    have h2 := h i (by omega)
    have e : K * ((i + 1 : Nat) : Int) = K * i + K := by rw [Int.natCast_add]; simp [Int.mul_add]
    simp only [sm]; omega
theorem sq_lo {f : Nat → Int} {K : Int} : ∀ i, (∀ y, y < i → 0 ≤ f y ∧ f y ≤ K) → sm f i * sm f i ≤ K * (2 * sx f i + sm f i)
  | 0, _ => by simp [sm, sx]
  | i + 1, h => by
    have h1 := sq_lo (f := f) (K := K) i fun y hy => h y (by omega)
    have h2 := h i (by omega)
    have h3 := sm_bd (f := f) (K := K) i fun y hy => h y (by omega)
    have a1 := Int.mul_le_mul_of_nonneg_right h3.2 h2.1
    have a2 := Int.mul_le_mul_of_nonneg_right h2.2 h2.1
    simp only [sm, sx]
    generalize sm f i = M at *
    generalize sx f i = X at *
    generalize f i = x at *
    have e1 : (M + x) * (M + x) = M * M + 2 * (M * x) + x * x := by grind
    have e2 : K * (2 * (X + i * x) + (M + x)) = K * (2 * X + M) + 2 * (K * i * x) + K * x := by grind
    rw [e1, e2]; omega
theorem sq_hi {f : Nat → Int} {K : Int} : ∀ i, (∀ y, y < i → 0 ≤ f y ∧ f y ≤ K) → sm f i * sm f i ≤ K * (2 * (((i : Int) - 1) * sm f i - sx f i) + sm f i)
  | 0, _ => by simp [sm, sx]
  | i + 1, h => by
    have h1 := sq_hi (f := f) (K := K) i fun y hy => h y (by omega)
    have h2 := h i (by omega)
    have h3 := sm_bd (f := f) (K := K) i fun y hy => h y (by omega)
    have a1 := Int.mul_le_mul_of_nonneg_left h2.2 h3.1
    have a2 := Int.mul_le_mul_of_nonneg_right h2.2 h2.1
    simp only [sm, sx]
    generalize sm f i = M at *
    generalize sx f i = X at *
    generalize f i = x at *
    have e1 : (M + x) * (M + x) = M * M + 2 * (M * x) + x * x := by grind
    have e2 : K * (2 * ((((i + 1 : Nat) : Int) - 1) * (M + x) - (X + i * x)) + (M + x)) = K * (2 * (((i : Int) - 1) * M - X) + M) + 2 * (M * K) + K * x := by
      have : ((i + 1 : Nat) : Int) - 1 = i := by omega
      rw [this]; grind
    rw [e1, e2]; omega
theorem cauchy {m t : Nat → Int} : ∀ i, (∀ y, y < i → m y * m y ≤ t y) → sm m i * sm m i ≤ i * sm t i
  | 0, _ => by simp [sm]
  | i + 1, h => by
    have h1 := cauchy (m := m) (t := t) i fun y hy => h y (by omega)
    have h2 := h i (by omega)
    by_cases hi : i = 0
    · subst hi; simpa [sm] using h2
    simp only [sm]
    generalize sm m i = A at *
    generalize sm t i = u at *
    generalize m i = x at *
    generalize t i = v at *
    have e1 : (A + x) * (A + x) = A * A + 2 * (A * x) + x * x := by grind
    have e2 : ((i + 1 : Nat) : Int) * (u + v) = i * u + (u + i * v) + v := by
      have : ((i + 1 : Nat) : Int) = (i : Int) + 1 := by omega
      rw [this]; grind
    rw [e1, e2]
    have key : 2 * (A * x) ≤ u + i * v := by
      have hip : (0 : Int) < i := by omega
      have s1 := sq_nonneg (A - i * x)
      have s2 : (A - i * x) * (A - i * x) = A * A - i * (2 * (A * x)) + i * (i * (x * x)) := by grind
      have s3 := Int.mul_le_mul_of_nonneg_left h2 (Int.le_of_lt hip)
      have s4 := Int.mul_le_mul_of_nonneg_left s3 (Int.le_of_lt hip)
      refine Int.le_of_mul_le_mul_left (a := (i : Int)) ?_ hip
      have s5 : (i : Int) * (u + i * v) = i * u + i * (i * v) := by grind
      rw [s5]; omega
    omega

theorem spread {A B X Y : Int} (a0 : 0 ≤ A) (a1 : A ≤ 25500) (b0 : 0 ≤ B) (b1 : B ≤ 25500) (hA : A * A ≤ 2550 * (2 * X + A)) (hB : B * B ≤ 2550 * (2 * (9 * B - Y) + B)) : Y * A - X * B ≤ 1000000000 := by
  have h1 := Int.mul_le_mul_of_nonneg_right hA b0
  have h2 := Int.mul_le_mul_of_nonneg_right hB a0
  have h3 : A * B * (A + B) ≤ 2550 * (2 * (X * B) - 2 * (Y * A) + 20 * (A * B)) := by
    have e1 : A * B * (A + B) = A * A * B + B * B * A := by grind
    have e2 : 2550 * (2 * X + A) * B = 2550 * (2 * (X * B)) + 2550 * (A * B) := by grind
    have e3 : 2550 * (2 * (9 * B - Y) + B) * A = 2550 * (19 * (A * B)) - 2550 * (2 * (Y * A)) := by grind
    rw [e1]; rw [e2] at h1; rw [e3] at h2; omega
  obtain ⟨T, hT⟩ : ∃ T, T = A + B := ⟨_, rfl⟩
  have hT0 : 0 ≤ T := by omega
  have hT1 : T ≤ 51000 := by omega
  have h4 : 4 * (A * B) ≤ T * T := by
    have := sq_nonneg (A - B)
    have e : T * T = (A - B) * (A - B) + 4 * (A * B) := by rw [hT]; grind
    omega
  have h5 : 4 * (A * B) * (51000 - T) ≤ T * T * (51000 - T) := Int.mul_le_mul_of_nonneg_right h4 (by omega)
  have h6 : T * T * (51000 - T) ≤ 19652000000000 := by
    have h7 := Int.mul_nonneg (sq_nonneg (T - 34000)) (show 0 ≤ T + 17000 by omega)
    have e : (T - 34000) * (T - 34000) * (T + 17000) = 19652000000000 - T * T * (51000 - T) := by grind
    omega
  have h8 : A * B * (51000 - T) = 51000 * (A * B) - A * B * (A + B) := by rw [hT]; grind
  have h9 : 4 * (A * B) * (51000 - T) = 4 * (A * B * (51000 - T)) := by grind
  omega

section
variable {a b : List (List Int)} {w : Nat}
theorem pix_bd (h : ImgOk a w) {y : Nat} (hy : y < a.length) : ∀ k, k < (rw_ a y).length → 0 ≤ (rw_ a y).getD k 0 ∧ (rw_ a y).getD k 0 ≤ 255 := fun k _ => h.px y hy k
theorem row_bd (h : ImgOk a w) : ∀ y, y < a.length → 0 ≤ pM (rw_ a y) (rw_ a y).length ∧ pM (rw_ a y) (rw_ a y).length ≤ 2550 := fun y hy => by
  have h1 := pM_bd (h.px y hy) (rw_ a y).length
  have h2 := h.rows y hy
  have h3 := h.w2
  rw [h2] at h1 ⊢
  omega
theorem Y_lo (h : ImgOk a w) : SM a * SM a ≤ 2550 * (2 * SY a + SM a) := by
  unfold SM SY
  rw [FM_sm, FY_sx]
  exact sq_lo _ (row_bd h)
theorem Y_hi (h : ImgOk a w) : SM a * SM a ≤ 2550 * (2 * (9 * SM a - SY a) + SM a) := by
  have h1 := sq_hi (K := 2550) a.length (row_bd h)
  rw [← FM_sm, ← FY_sx] at h1
  have hb := h.bd.1.1
  have hl := h.len2
  have h2 : ((a.length : Int) - 1) * SM a ≤ 9 * SM a := Int.mul_le_mul_of_nonneg_right (by omega) (by omega)
  unfold SM SY at *
  omega
theorem X_lo (h : ImgOk a w) : SM a * SM a ≤ 2550 * (2 * SX a + SM a) := by
  have h1 := cauchy (m := fun y => pM (rw_ a y) (rw_ a y).length) (t := fun y => 255 * (2 * pX (rw_ a y) (rw_ a y).length + pM (rw_ a y) (rw_ a y).length)) a.length fun y hy => by
    rw [pM_sm, pX_sx]
    exact sq_lo _ (pix_bd h hy)
  have e : ∀ i, sm (fun y => 255 * (2 * pX (rw_ a y) (rw_ a y).length + pM (rw_ a y) (rw_ a y).length)) i = 255 * (2 * sm (fun y => pX (rw_ a y) (rw_ a y).length) i + sm (fun y => pM (rw_ a y) (rw_ a y).length) i) := by
    intro i
    induction i with
    | zero => rfl
    | succ i ih => simp only [sm, ih]; omega
  rw [e, ← FM_sm, ← FX_sm] at h1
  have hb := h.bd
  have hl := h.len2
  unfold SM SX at *
  have h2 : (a.length : Int) * (255 * (2 * FX (rw_ a) a.length + FM (rw_ a) a.length)) ≤ 10 * (255 * (2 * FX (rw_ a) a.length + FM (rw_ a) a.length)) := Int.mul_le_mul_of_nonneg_right (by omega) (by omega)
  omega
theorem X_hi (h : ImgOk a w) : SM a * SM a ≤ 2550 * (2 * (9 * SM a - SX a) + SM a) := by
  have hw2 := h.w2
  have h1 := cauchy (m := fun y => pM (rw_ a y) (rw_ a y).length) (t := fun y => 255 * (2 * (9 * pM (rw_ a y) (rw_ a y).length - pX (rw_ a y) (rw_ a y).length) + pM (rw_ a y) (rw_ a y).length)) a.length fun y hy => by
    have h1 := sq_hi (K := 255) (rw_ a y).length (pix_bd h hy)
    rw [← pM_sm, ← pX_sx] at h1
    have hb := row_bd h y hy
    have hr := h.rows y hy
    have h2 : (((rw_ a y).length : Int) - 1) * pM (rw_ a y) (rw_ a y).length ≤ 9 * pM (rw_ a y) (rw_ a y).length := Int.mul_le_mul_of_nonneg_right (by omega) hb.1
    omega
  have e : ∀ i, sm (fun y => 255 * (2 * (9 * pM (rw_ a y) (rw_ a y).length - pX (rw_ a y) (rw_ a y).length) + pM (rw_ a y) (rw_ a y).length)) i = 255 * (2 * (9 * sm (fun y => pM (rw_ a y) (rw_ a y).length) i - sm (fun y => pX (rw_ a y) (rw_ a y).length) i) + sm (fun y => pM (rw_ a y) (rw_ a y).length) i) := by
    intro i
    induction i with
    | zero => rfl
    | succ i ih => simp only [sm, ih]; omega
  rw [e, ← FM_sm, ← FX_sm] at h1
  have hb := h.bd
  have hl := h.len2
  have hpos : ∀ i, i ≤ a.length → 0 ≤ 9 * FM (rw_ a) i - FX (rw_ a) i := by
    intro i
    induction i with
    | zero => intro _; simp [FM, FX]
    | succ i ih =>
      intro hi
      have h3 := ih (by omega)
      have h4 := pX_le (h.px i (by omega)) h.w1 (rw_ a i).length (by rw [h.rows i (by omega)]; exact Nat.le_refl _)
      have h5 := row_bd h i (by omega)
      have h6 : ((w : Int) - 1) * pM (rw_ a i) (rw_ a i).length ≤ 9 * pM (rw_ a i) (rw_ a i).length := Int.mul_le_mul_of_nonneg_right (by omega) h5.1
      simp only [FM, FX]; omega
  have hp := hpos a.length (Nat.le_refl _)
  unfold SM SX at *
  have h2 : (a.length : Int) * (255 * (2 * (9 * FM (rw_ a) a.length - FX (rw_ a) a.length) + FM (rw_ a) a.length)) ≤ 10 * (255 * (2 * (9 * FM (rw_ a) a.length - FX (rw_ a) a.length) + FM (rw_ a) a.length)) := Int.mul_le_mul_of_nonneg_right (by omega) (by omega)
  omega
theorem move_bd (ha : ImgOk a w) (hb : ImgOk b w) : (SX b * SM a - SX a * SM b).natAbs ≤ 1000000000 ∧ (SY b * SM a - SY a * SM b).natAbs ≤ 1000000000 := by
  have a1 := ha.bd.1
  have b1 := hb.bd.1
  have h1 := spread (by omega) a1.2 (by omega) b1.2 (X_lo ha) (X_hi hb)
  have h2 := spread (by omega) b1.2 (by omega) a1.2 (X_lo hb) (X_hi ha)
  have h3 := spread (by omega) a1.2 (by omega) b1.2 (Y_lo ha) (Y_hi hb)
  have h4 := spread (by omega) b1.2 (by omega) a1.2 (Y_lo hb) (Y_hi ha)
  omega
end

/-! ### the reference's center -/
theorem fr_rn {n d : Int} : fr n d = (rn n d, rd_ n d) := by
  unfold fr rn rd_
  rw [Int.tdiv_eq_ediv_of_dvd (Int.gcd_dvd_left ..), Int.tdiv_eq_ediv_of_dvd (Int.gcd_dvd_right ..)]
/-- two quotients -/
def RQ2 (n d m k : Int) : Int × List Int × Int × List Int × Int × List Int × Int × List Int × Unit :=
  ((RQ n d).1, (RQ n d).2.1, (RQ n d).2.2.1, (RQ n d).2.2.2.1, (RQ m k).1, (RQ m k).2.1, (RQ m k).2.2.1, (RQ m k).2.2.2.1, ())
theorem Center_eq {a : List (List Int)} {w : Nat} (h : ImgOk a w) : ref07_Center a = some (RQ2 (SX a) (SM a) (SY a) (SM a)) := by
  obtain ⟨d1, d2, d3⟩ := h.bd
  have hl := h.len2
  have hr := h.rowsOk
  unfold ref07_Center
  refine Ok.eq ?_
  rw [ok_bind]
  refine (loop_up a.length (fun i (s : Int × Int × Int × Int) => s = (FX (rw_ a) i, FY (rw_ a) i, FM (rw_ a) i, (i : Int)))
    (fun r => r = (SX a, SY a, SM a)) rfl ?_).mono ?_
  · rintro i s hi rfl
    have hX := FX_bd (R := rw_ a) i (by omega) fun y hy => hr y (by omega)
    have hY := FY_bd (R := rw_ a) i (by omega) fun y hy => hr y (by omega)
    have hM := FM_bd (R := rw_ a) i (by omega) fun y hy => hr y (by omega)
    by_cases hlt : i < a.length
    · have e0 : decide ((i : Int) < (a.length : Int)) = true := by simp; omega
      simp only [e0, cond_true]
      rw [rnd_bind]
      obtain ⟨h255, h10⟩ := hr i hlt
      have hrow := rw_at hlt
      generalize hrr : rw_ a i = r at h255 h10 hrow
      refine (loop_up r.length (fun j (s : Int × Int × Int × Int) => s = (FX (rw_ a) i + pX r j, FY (rw_ a) i + i * pM r j, FM (rw_ a) i + pM r j, (j : Int)))
        (fun q => q = (FX (rw_ a) i + pX r r.length, FY (rw_ a) i + i * pM r r.length, FM (rw_ a) i + pM r r.length)) (by simp [pX, pM]) ?_).mono ?_
      · rintro j s hj rfl
        have b1 := pX_bd h255 j (by omega)
        have b2 := pM_bd h255 j
        have b3 := mul_bd (a := (i : Int)) (A := 10) (b := pM r j) (B := 2550) (by omega) (by omega) b2.1 (by omega)
        simp only
        rw [idx_of hrow]
        simp only [Option.bind_some]
        by_cases hjl : j < r.length
        · have e1 : decide ((j : Int) < (r.length : Int)) = true := by simp; omega
          have b4 := h255 j
          have b5 := mul_bd (a := (i : Int)) (A := 10) (by omega) (by omega) b4.1 b4.2
          have b6 := mul_bd (a := (j : Int)) (A := 10) (by omega) (by omega) b4.1 b4.2
          simp only [e1, cond_true]
          rw [idx_of (px_at hjl)]
          simp only [Option.bind_some]
          rw [w64_id (n := (j : Int) + 1) (by omega) (by omega), w64_id (n := (j : Int) * r.getD j 0) (by omega) (by omega), w64_id (n := (i : Int) * r.getD j 0) (by omega) (by omega),
            w64_id (n := FX (rw_ a) i + pX r j + (j : Int) * r.getD j 0) (by omega) (by omega), w64_id (n := FY (rw_ a) i + i * pM r j + (i : Int) * r.getD j 0) (by omega) (by omega), w64_id (n := FM (rw_ a) i + pM r j + r.getD j 0) (by omega) (by omega), rnd_inl]
          exact ⟨hjl, by simp only [pX, pM, Int.mul_add, Int.add_assoc]; rfl⟩
        · have : j = r.length := by omega
          subst this
          have e1 : decide ((r.length : Int) < (r.length : Int)) = false := by simp
          simp only [e1, cond_false]
          rw [rnd_inr]
      · rintro q rfl
        simp only
        rw [w64_id (by omega) (by omega), rnd_inl]
        exact ⟨hlt, by simp only [FX, FY, FM, hrr]; rfl⟩
    · have : i = a.length := by omega
      subst this
      have e0 : decide ((a.length : Int) < (a.length : Int)) = false := by simp
      simp only [e0, cond_false]
      rw [rnd_inr]
      rfl
  · rintro _ rfl
    simp only
    rw [RatioOf_ok d1.1 (by omega) (by omega), RatioOf_ok d1.1 (by omega) (by omega)]
    simp only [Option.bind_some, ok_some]
    rfl
theorem Fractions_eq {n d m k : Int} (hd : 0 < d) (hk : 0 < k) (h1 : n.natAbs ≤ 1000000000) (h2 : d ≤ 1000000000) (h3 : m.natAbs ≤ 1000000000) (h4 : k ≤ 1000000000) :
    ref07_Fractions (RQ2 n d m k) = some ((fr n d).1, (fr n d).2, (fr m k).1, (fr m k).2, ()) := by
  unfold ref07_Fractions
  have c1 := rn_le (n := n) hd
  have c2 := rd_le (n := n) hd
  have c3 := rn_le (n := m) hk
  have c4 := rd_le (n := m) hk
  have p1 := rd_pos (n := n) hd
  have p2 := rd_pos (n := m) hk
  have e1 : base_RatioFrac ((RQ2 n d m k).1, (RQ2 n d m k).2.1, (RQ2 n d m k).2.2.1, (RQ2 n d m k).2.2.2.1, ()) = some ((rn n d, rd_ n d, ()), true) := RatioFrac_ok hd (by omega) (by omega)
  have e2 : base_RatioFrac ((RQ2 n d m k).2.2.2.2.1, (RQ2 n d m k).2.2.2.2.2.1, (RQ2 n d m k).2.2.2.2.2.2.1, (RQ2 n d m k).2.2.2.2.2.2.2.1, ()) = some ((rn m k, rd_ m k, ()), true) := RatioFrac_ok hk (by omega) (by omega)
  rw [e1, e2, fr_rn, fr_rn]
  rfl
theorem Moved_eq {a b : List (List Int)} {w : Nat} (ha : ImgOk a w) (hb : ImgOk b w) :
    ref07_Moved a b = some ((fr (SX b * SM a - SX a * SM b) (SM a * SM b)).1, (fr (SX b * SM a - SX a * SM b) (SM a * SM b)).2, (fr (SY b * SM a - SY a * SM b) (SM a * SM b)).1, (fr (SY b * SM a - SY a * SM b) (SM a * SM b)).2, ()) := by
  obtain ⟨a1, a2, a3⟩ := ha.bd
  obtain ⟨b1, b2, b3⟩ := hb.bd
  have m5 := mul_bd (Int.le_of_lt b1.1) b1.2 (Int.le_of_lt a1.1) a1.2
  have m6 : 0 < SM b * SM a := Int.mul_pos b1.1 a1.1
  have hm := move_bd ha hb
  unfold ref07_Moved
  rw [Center_eq ha, Center_eq hb]
  simp only [Option.bind_some]
  have e1 : base_RatioSub ((RQ2 (SX b) (SM b) (SY b) (SM b)).1, (RQ2 (SX b) (SM b) (SY b) (SM b)).2.1, (RQ2 (SX b) (SM b) (SY b) (SM b)).2.2.1, (RQ2 (SX b) (SM b) (SY b) (SM b)).2.2.2.1, ())
      ((RQ2 (SX a) (SM a) (SY a) (SM a)).1, (RQ2 (SX a) (SM a) (SY a) (SM a)).2.1, (RQ2 (SX a) (SM a) (SY a) (SM a)).2.2.1, (RQ2 (SX a) (SM a) (SY a) (SM a)).2.2.2.1, ()) = some (RQ (SX b * SM a - SX a * SM b) (SM b * SM a)) :=
    RatioSub_ok b1.1 a1.1 (Nat.le_trans (wl_int (by omega)) (by omega)) (Nat.le_trans (wl_int (by omega)) (by omega)) (Nat.le_trans (wl_int (by omega)) (by omega)) (Nat.le_trans (wl_int (by omega)) (by omega))
  have e2 : base_RatioSub ((RQ2 (SX b) (SM b) (SY b) (SM b)).2.2.2.2.1, (RQ2 (SX b) (SM b) (SY b) (SM b)).2.2.2.2.2.1, (RQ2 (SX b) (SM b) (SY b) (SM b)).2.2.2.2.2.2.1, (RQ2 (SX b) (SM b) (SY b) (SM b)).2.2.2.2.2.2.2.1, ())
      ((RQ2 (SX a) (SM a) (SY a) (SM a)).2.2.2.2.1, (RQ2 (SX a) (SM a) (SY a) (SM a)).2.2.2.2.2.1, (RQ2 (SX a) (SM a) (SY a) (SM a)).2.2.2.2.2.2.1, (RQ2 (SX a) (SM a) (SY a) (SM a)).2.2.2.2.2.2.2.1, ()) = some (RQ (SY b * SM a - SY a * SM b) (SM b * SM a)) :=
    RatioSub_ok b1.1 a1.1 (Nat.le_trans (wl_int (by omega)) (by omega)) (Nat.le_trans (wl_int (by omega)) (by omega)) (Nat.le_trans (wl_int (by omega)) (by omega)) (Nat.le_trans (wl_int (by omega)) (by omega))
  rw [e1]
  simp only [Option.bind_some]
  rw [e2]
  simp only [Option.bind_some]
  rw [Int.mul_comm (SM b) (SM a)] at m5 m6 ⊢
  have e3 := Fractions_eq (n := SX b * SM a - SX a * SM b) (m := SY b * SM a - SY a * SM b) m6 m6 hm.1 (by omega) hm.2 (by omega)
  unfold RQ2 at e3
  rw [e3]
  rfl

/-! ### the law -/
theorem CenterOf_err {a : List (List Int)} (h1 : a.length ≤ 1000) (h2 : ∀ y, y < a.length → (rw_ a y).length ≤ 1000) (h : imgE a ≠ 0) : sensor_CenterOf a = some ((0, 0, 0, 0, ()), imgE a) := by
  unfold sensor_CenterOf
  rw [imageErr_all h1 h2]
  simp [h]
def clash (a b : List (List Int)) : Prop := a.length = b.length ∧ (rw_ a 0).length = (rw_ b 0).length
open Classical in
noncomputable def movE (a b : List (List Int)) : Int := if imgE a ≠ 0 then imgE a else if imgE b ≠ 0 then imgE b else if clash a b then 0 else 13
theorem MovedBy_err {a b : List (List Int)} (h1 : a.length ≤ 1000) (h2 : ∀ y, y < a.length → (rw_ a y).length ≤ 1000) (h3 : b.length ≤ 1000) (h4 : ∀ y, y < b.length → (rw_ b y).length ≤ 1000) (h : movE a b ≠ 0) :
    sensor_MovedBy a b = some ((0, 0, 0, 0, ()), movE a b) := by
  unfold sensor_MovedBy
  rw [imageErr_all h1 h2, imageErr_all h3 h4, samplesOf_all, samplesOf_all]
  have e1 : (bif decide ((a.length : Int) = (b.length : Int)) then (some ((rw_ a 0).length : Int)).bind fun x1 => (some ((rw_ b 0).length : Int)).bind fun x2 => some (decide (x1 = x2)) else some false) = some (open Classical in decide (clash a b)) := by
    unfold clash
    by_cases c1 : a.length = b.length
    · by_cases c2 : (rw_ a 0).length = (rw_ b 0).length
      · simp [c1, c2]
      · have : ¬ (((rw_ a 0).length : Int) = ((rw_ b 0).length : Int)) := by omega
        simp [c1, c2, this]
    · have : ¬ ((a.length : Int) = (b.length : Int)) := by omega
      simp [c1, this]
  rw [e1]
  simp only [Option.bind_some, unless_eq]
  rw [first_eq _ (by simp)]
  simp only [Option.bind_some]
  have e2 : fst0 [imgE a, imgE b, if (open Classical in decide (clash a b)) = true then 0 else 13] = movE a b := by
    unfold movE
    simp only [fst0]
    by_cases c1 : imgE a = 0
    · by_cases c2 : imgE b = 0
      · by_cases c3 : clash a b <;> simp [c1, c2, c3]
      · simp [c1, c2]
    · simp [c1]
  rw [e2]
  simp [h]
theorem refMovedErr {a b : List (List Int)} (h1 : a.length ≤ 12) (h2 : ∀ y, y < a.length → (rw_ a y).length ≤ 12) (h3 : b.length ≤ 12) (h4 : ∀ y, y < b.length → (rw_ b y).length ≤ 12) : ref07_MovedErr a b = some (movE a b) := by
  unfold ref07_MovedErr movE
  rw [refImageErr_all h1 h2]
  simp only [Option.bind_some]
  by_cases c1 : imgE a = 0
  · rw [if_neg (by simp [c1])]
    simp only [c1, decide_true, Bool.not_true, cond_false]
    rw [refImageErr_all h3 h4]
    simp only [Option.bind_some]
    by_cases c2 : imgE b = 0
    · rw [if_neg (by simp [c2])]
      simp only [c2, decide_true, Bool.not_true, cond_false]
      obtain ⟨w, ha⟩ := imgE_ok h1 h2 c1
      obtain ⟨v, hb⟩ := imgE_ok h3 h4 c2
      have la := ha.len1
      have lb := hb.len1
      rw [idx_zero, idx_zero, rw_at (by omega), rw_at (by omega)]
      unfold clash
      by_cases d1 : a.length = b.length
      · by_cases d2 : (rw_ a 0).length = (rw_ b 0).length
        · simp [d1, d2]
        · have : ¬ (((rw_ a 0).length : Int) = ((rw_ b 0).length : Int)) := by omega
          simp [d1, d2, this]
      · have : ¬ ((a.length : Int) = (b.length : Int)) := by omega
        simp [d1, this]
    · rw [if_pos c2]
      simp [c2]
  · rw [if_pos c1]
    simp [c1]
theorem SensorImages_eq (a b : List (List Int)) (ha : a.length ≤ 9223372036854775807) (hb : b.length ≤ 9223372036854775807) : law07_SensorImages a b = some true := by
  unfold law07_SensorImages
  obtain ⟨ia, hia, fa⟩ := images_eq ha
  obtain ⟨ib, hib, fb⟩ := images_eq hb
  have aw : law07_awake = some true := rfl
  rw [aw, hia, hib]
  simp only [Option.bind_some, Bool.not_true, cond_false]
  cases ia with
  | false => rfl
  | true =>
  cases ib with
  | false => rfl
  | true =>
  obtain ⟨h1, h2⟩ := fa rfl
  obtain ⟨h3, h4⟩ := fb rfl
  have h2' : ∀ y, y < a.length → (rw_ a y).length ≤ 1000 := fun y hy => Nat.le_trans (h2 y hy) (by omega)
  have h4' : ∀ y, y < b.length → (rw_ b y).length ≤ 1000 := fun y hy => Nat.le_trans (h4 y hy) (by omega)
  simp only [Bool.not_true, cond_false, Option.bind_some]
  rw [CopyLists_eq (by omega) h2', CopyLists_eq (by omega) h4', refImageErr_all h1 h2, refMovedErr h1 h2 h3 h4]
  simp only [Option.bind_some]
  by_cases c1 : imgE a = 0
  · obtain ⟨w, hoa⟩ := imgE_ok h1 h2 c1
    have ba := hoa.bd
    rw [CenterOf_eq hoa, Center_eq hoa]
    simp only [Option.bind_some]
    rw [Fractions_eq ba.1.1 ba.1.1 (by omega) (by omega) (by omega) (by omega)]
    simp only [Option.bind_some, c1, decide_true, Bool.not_true, cond_false, cond_true]
    by_cases c2 : movE a b = 0
    · have c3 : imgE b = 0 := by
        unfold movE at c2
        rw [if_neg (by simp [c1])] at c2
        by_cases c : imgE b = 0
        · exact c
        · rw [if_pos c] at c2; exact absurd c2 c
      have c4 : clash a b := by
        unfold movE at c2
        rw [if_neg (by simp [c1]), if_neg (by simp [c3])] at c2
        by_cases c : clash a b
        · exact c
        · rw [if_neg c] at c2; exact absurd c2 (by omega)
      obtain ⟨v, hob⟩ := imgE_ok h3 h4 c3
      have hv : v = w := by
        have h5 := hoa.rows 0 (by have := hoa.len1; omega)
        have h6 := hob.rows 0 (by have := hob.len1; omega)
        have := c4.2
        omega
      subst hv
      rw [MovedBy_eq hoa hob c4.1, Moved_eq hoa hob, c2]
      simp
    · rw [MovedBy_err (by omega) h2' (by omega) h4' c2]
      simp [c2]
  · rw [CenterOf_err (by omega) h2' c1]
    have c2 : movE a b ≠ 0 := by unfold movE; rw [if_pos c1]; exact c1
    rw [MovedBy_err (by omega) h2' (by omega) h4' c2]
    simp [c1, c2]
theorem law07_SensorImages_true : ∀ x : denP ([Ty.sl (.sl I), .sl (.sl I)].map .ty), RngP maxLen [.sl (.sl I), .sl (.sl I)] x → e_law07_SensorImages.F x = some true := by
  rintro ⟨a0, a1⟩ ⟨⟨h0, _⟩, ⟨h1, _⟩⟩
  exact SensorImages_eq a0 a1 (Nat.le_trans h0 (by decide)) (Nat.le_trans h1 (by decide))
end Go.Proofs.Ytpiggpgocnlomaa
end
section
/-
  THE LAW SensorImages.
-/
namespace Go.Proofs.Ytpiggpgocnlomaa.sensorImages
open Go Go.Ab Go.Tx Go.ChangeShapes Go.WideShapes Go.ChangeAt Go.RowKit
set_option linter.unusedVariables false
theorem hlib : ∀ g h args r, Lb g = some h → h args = some r → CallOk Try.prog g args [] r [] := fun g h args r hg hr => by
  unfold Lb at hg
  split at hg
  · rename_i e
    subst e
    cases hg
    cases args with
    | nil => cases hr; exact awake_ok
    | cons a l => cases hr
  · cases hg
set_option maxRecDepth 100000 in
theorem contract (H : Type) (enc : TypeId × Value → H) (W : World) (base : Nat) (args : Array Value) (ds gs : List (DataW H)) (before : List MemPlace)
    (hval : ∀ (j : Nat) t v, Try.f4.params[j]? = some t → args[j]? = some v → Value.okWide Try.prog W .any base t v)
    (hW : DataW.Whole enc Try.prog Try.f4.params.toList Rows.sensorImagesSpec.vars false W args.toList ds gs before) :
    Calls Try.prog 4 args W fun e W' => ∃ v, e = .returned v ∧ Rows.sensorImagesSpec.post enc Try.prog Try.f4 false true false false W args v W' :=
  law_contract (τs := [.sl (.sl I), .sl (.sl I)]) (ts := [22, 22]) (tb := 4) (F := e_law07_SensorImages.F) follows hname hlib laid_out Try.func4 (by kernel_rfl) (by kernel_rfl) (by kernel_rfl) (by kernel_rfl) (by kernel_rfl) (by kernel_rfl) Try.underlying4 o_law07_SensorImages law07_SensorImages_true rfl
    (fun H ds h => by
      match ds, h with
      | [d1, d2], _ => rfl) H enc W base args ds gs before hval hW
set_option maxRecDepth 100000 in
theorem lifted (os : Os) (started : os.Started) (H : Type) (enc : TypeId × Value → H) :
    ReturnsInHanded {} Try.checked os 4 .any (Rows.sensorImagesSpec.pre6 enc Try.prog Try.f4 Rows.sensorImagesRow.domain false) (Rows.sensorImagesSpec.post enc Try.prog Try.f4 false true false false) := by
  refine returnsInHanded_of_change (C := Try.checked) own started (by kernel_rfl) Try.func4
    (ChangeSpec.witness6 (enc := enc) (C := Try.checked) false ⟨#[], #[.slice none 0 0, .slice none 0 0], []⟩ 8 (by kernel_rfl) (by kernel_rfl) (by kernel_rfl) (by kernel_rfl)) ?_
  intro W base args ds gs before hval hW _ _
  exact contract H enc W base args ds gs before hval hW
theorem proved : Rows.SensorImagesSaid :=
  OpenClaim.holds_of_wide 4 Try.f4 rfl rfl rfl rfl rfl rfl rfl ⟨rfl, rfl, rfl, rfl, rfl⟩ rfl rfl rfl rfl rfl (by kernel_rfl) Try.func4 (by kernel_rfl)
    (of_decide_eq_true (by kernel_rfl)) (by unfold Func.isWrapper; first | (rw [if_pos (by decide +kernel)]; kernel_rfl) | (rw [if_neg (by decide +kernel)]; exact ⟨rfl, rfl⟩))
    (fun os started H enc _ => lifted os started H enc)
end Go.Proofs.Ytpiggpgocnlomaa.sensorImages
end
