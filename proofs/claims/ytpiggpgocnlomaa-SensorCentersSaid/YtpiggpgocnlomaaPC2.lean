/-
  IMAGES: what is checked of them; centers, moves.
-/
import Derived.Test.YtpiggpgocnlomaaPC1
set_option linter.unusedVariables false
set_option linter.unusedSimpArgs false
namespace Go.Proofs.Ytpiggpgocnlomaa
open Go Go.Ab Go.Tx

theorem images_eq {a : List (List Int)} (h : a.length ≤ 9223372036854775807) : ∃ b, law07_images a = some b ∧ (b = true → a.length ≤ 12 ∧ ∀ y, y < a.length → (rw_ a y).length ≤ 12) := by
  unfold law07_images
  refine (loop_bind (P := fun o => ∃ b : Bool, o = some b ∧ (b = true → a.length ≤ 12 ∧ ∀ y, y < a.length → (rw_ a y).length ≤ 12)) a.length (fun i s => s = (i : Int) ∧ ∀ y, y < i → (rw_ a y).length ≤ 12)
    (fun r => r = Sum.inr false ∨ (r = Sum.inl () ∧ ∀ y, y < a.length → (rw_ a y).length ≤ 12)) ⟨rfl, by simp⟩ ?_ ?_ : (fun o => ∃ b : Bool, o = some b ∧ (b = true → a.length ≤ 12 ∧ ∀ y, y < a.length → (rw_ a y).length ≤ 12)) _)
  · rintro i s hi ⟨rfl, hI⟩
    by_cases hlt : i < a.length
    · simp only [show (i : Int) < (a.length : Int) by omega, decide_true, cond_true]
      rw [idx_of (rw_at hlt)]
      simp only [Option.bind_some]
      by_cases h12 : ((rw_ a i).length : Int) > 12
      · right
        exact ⟨_, by simp only [h12, decide_true, cond_true], .inl rfl⟩
      · left
        refine ⟨((i + 1 : Nat) : Int), ?_, hlt, rfl, fun y hy => ?_⟩
        · simp only [h12, decide_false, cond_false]; rw [w64_id (by omega) (by omega)]; rfl
        · by_cases hyi : y < i
          · exact hI y hyi
          · have : y = i := by omega
            subst this; omega
    · right
      have : i = a.length := by omega
      subst this
      exact ⟨_, by simp, .inr ⟨rfl, hI⟩⟩
  · rintro r (rfl | ⟨rfl, hr⟩)
    · exact ⟨false, rfl, by simp⟩
    · exact ⟨decide ((a.length : Int) ≤ 12), rfl, fun hb => ⟨by simp at hb; omega, hr⟩⟩

theorem ok_at {r : List Int} (h : ∀ j, j < r.length → 0 ≤ r.getD j 0 ∧ r.getD j 0 ≤ 255) : ok255 r := fun j => by
  by_cases hj : j < r.length
  · exact h j hj
  · have : r.getD j 0 = 0 := by simp; rw [List.getElem?_eq_none (by omega)]; rfl
    rw [this]; omega

theorem ImageErr_eq {a : List (List Int)} (h1 : a.length ≤ 12) (h2 : ∀ y, y < a.length → (rw_ a y).length ≤ 12) : ∃ e, ref07_ImageErr a = some e ∧ (e = 0 → ∃ w, ImgOk a w) := by
  unfold ref07_ImageErr
  by_cases h0 : a.length = 0
  · exact ⟨10, by simp [h0], by omega⟩
  have hr0 : a[0]? = some (rw_ a 0) := rw_at (by omega)
  have hl0 : ¬ ((a.length : Int) = 0) := by omega
  simp only [hl0, decide_false, cond_false]
  rw [idx_zero, hr0]
  simp only [Option.bind_some]
  by_cases hw0 : ((rw_ a 0).length : Int) = 0
  · exact ⟨10, by simp [hw0], by omega⟩
  simp only [hw0, decide_false, cond_false]
  generalize hw : (rw_ a 0).length = w at hw0
  refine (loop_bind (P := fun o => ∃ e : Int, o = some e ∧ (e = 0 → ∃ w, ImgOk a w)) a.length (fun i s => s = (i : Int) ∧ ∀ y, y < i → (rw_ a y).length = w)
    (fun r => r = Sum.inr (10 : Int) ∨ (r = Sum.inl () ∧ ∀ y, y < a.length → (rw_ a y).length = w)) ⟨rfl, by simp⟩ ?_ ?_ : (fun o => ∃ e : Int, o = some e ∧ (e = 0 → ∃ w, ImgOk a w)) _)
  · rintro i s hi ⟨rfl, hI⟩
    by_cases hlt : i < a.length
    · simp only [show (i : Int) < (a.length : Int) by omega, decide_true, cond_true]
      rw [idx_of (rw_at hlt)]
      simp only [Option.bind_some, hw]
      by_cases he : ((rw_ a i).length : Int) = (w : Int)
      · left
        refine ⟨((i + 1 : Nat) : Int), ?_, hlt, rfl, fun y hy => ?_⟩
        · simp only [he, decide_true, Bool.not_true, cond_false]; rw [w64_id (by omega) (by omega)]; rfl
        · by_cases hyi : y < i
          · exact hI y hyi
          · have : y = i := by omega
            subst this; omega
      · right
        exact ⟨_, by simp only [he, decide_false, Bool.not_false, cond_true], .inl rfl⟩
    · right
      have : i = a.length := by omega
      subst this
      exact ⟨_, by simp, .inr ⟨rfl, hI⟩⟩
  rintro r (rfl | ⟨rfl, hrows⟩)
  · exact ⟨10, rfl, by omega⟩
  simp only [Sum.elim_inl]
  by_cases hl10 : (a.length : Int) > 10
  · exact ⟨8, by simp [hl10], by omega⟩
  simp only [hl10, decide_false, cond_false, Option.bind_some, hw]
  by_cases hw10 : (w : Int) > 10
  · exact ⟨8, by simp [hw10], by omega⟩
  simp only [hw10, decide_false, cond_false]
  refine (loop_bind (P := fun o => ∃ e : Int, o = some e ∧ (e = 0 → ∃ w, ImgOk a w)) a.length (fun i s => s = (FM (rw_ a) i, (i : Int)) ∧ ∀ y, y < i → ok255 (rw_ a y))
    (fun r => r = Sum.inr (2 : Int) ∨ (r = Sum.inl (FM (rw_ a) a.length) ∧ ∀ y, y < a.length → ok255 (rw_ a y))) ⟨rfl, by simp⟩ ?_ ?_ : (fun o => ∃ e : Int, o = some e ∧ (e = 0 → ∃ w, ImgOk a w)) _)
  · rintro i s hi ⟨rfl, hI⟩
    by_cases hlt : i < a.length
    · have hM := FM_bd (R := rw_ a) i (by omega) fun y hy => ⟨hI y hy, by rw [hrows y (by omega)]; omega⟩
      simp only [show (i : Int) < (a.length : Int) by omega, decide_true, cond_true]
      refine (loop_bind (P := fun o => (∃ s', o = some (Sum.inl s') ∧ i < a.length ∧ (s' = (FM (rw_ a) (i + 1), ((i + 1 : Nat) : Int)) ∧ ∀ y, y < i + 1 → ok255 (rw_ a y))) ∨ ∃ r, o = some (Sum.inr r) ∧ (r = Sum.inr (2 : Int) ∨ (r = Sum.inl (FM (rw_ a) a.length) ∧ ∀ y, y < a.length → ok255 (rw_ a y))))
        w (fun j s => s = (FM (rw_ a) i + pM (rw_ a i) j, (j : Int)) ∧ ∀ k, k < j → 0 ≤ (rw_ a i).getD k 0 ∧ (rw_ a i).getD k 0 ≤ 255)
        (fun r => r = Sum.inr (Sum.inr (Sum.inr (2 : Int))) ∨ (r = Sum.inl (FM (rw_ a) i + pM (rw_ a i) w) ∧ ∀ k, k < w → 0 ≤ (rw_ a i).getD k 0 ∧ (rw_ a i).getD k 0 ≤ 255)) ?_ ?_ ?_ : (fun o => (∃ s', o = some (Sum.inl s') ∧ i < a.length ∧ (s' = (FM (rw_ a) (i + 1), ((i + 1 : Nat) : Int)) ∧ ∀ y, y < i + 1 → ok255 (rw_ a y))) ∨ ∃ r, o = some (Sum.inr r) ∧ (r = Sum.inr (2 : Int) ∨ (r = Sum.inl (FM (rw_ a) a.length) ∧ ∀ y, y < a.length → ok255 (rw_ a y)))) _)
      · exact ⟨by simp [pM], by simp⟩
      · rintro j s hj ⟨rfl, hJ⟩
        have hri := hrows i hlt
        simp only
        rw [idx_of (rw_at hlt)]
        simp only [Option.bind_some, hri]
        by_cases hjl : j < w
        · simp only [show (j : Int) < (w : Int) by omega, decide_true, cond_true]
          rw [idx_of (px_at (r := rw_ a i) (by omega))]
          simp only [Option.bind_some]
          rw [Within_eq]
          simp only [Option.bind_some]
          by_cases hp : 0 ≤ (rw_ a i).getD j 0 ∧ (rw_ a i).getD j 0 ≤ 255
          · left
            have hb : 0 ≤ pM (rw_ a i) j ∧ pM (rw_ a i) j ≤ 255 * j := by
              clear hp
              have : ∀ k, k ≤ j → 0 ≤ pM (rw_ a i) k ∧ pM (rw_ a i) k ≤ 255 * k := by
                intro k
                induction k with
                | zero => simp [pM]
                | succ k ih => intro hk; have h1 := ih (by omega); have h2 := hJ k (by omega); simp only [pM]; omega
              exact this j (Nat.le_refl _)
            refine ⟨(FM (rw_ a) i + pM (rw_ a i) (j + 1), ((j + 1 : Nat) : Int)), ?_, hjl, rfl, fun k hk => ?_⟩
            · simp only [hp, and_self, decide_true, Bool.not_true, cond_false]
              rw [w64_id (by omega) (by omega), w64_id (by omega) (by omega)]
              simp only [pM, Int.add_assoc]; rfl
            · by_cases hkj : k < j
              · exact hJ k hkj
              · have : k = j := by omega
                subst this; exact hp
          · right
            exact ⟨_, by simp only [hp, decide_false, Bool.not_false, cond_true], .inl rfl⟩
        · right
          have : j = w := by omega
          subst this
          exact ⟨_, by simp, .inr ⟨rfl, hJ⟩⟩
      · rintro r (rfl | ⟨rfl, hr⟩)
        · exact .inr ⟨_, rfl, .inl rfl⟩
        · left
          refine ⟨(FM (rw_ a) (i + 1), ((i + 1 : Nat) : Int)), ?_, hlt, rfl, fun y hy => ?_⟩
          · simp only [Sum.elim_inl]
            rw [w64_id (by omega) (by omega)]
            simp only [FM, hrows i hlt]; rfl
          · by_cases hyi : y < i
            · exact hI y hyi
            · have : y = i := by omega
              subst this
              exact ok_at fun k hk => hr k (by rw [hrows y hlt] at hk; exact hk)
    · right
      have : i = a.length := by omega
      subst this
      exact ⟨_, by simp, .inr ⟨rfl, hI⟩⟩
  rintro r (rfl | ⟨rfl, hpx⟩)
  · exact ⟨2, rfl, by omega⟩
  simp only [Sum.elim_inl]
  by_cases hs : FM (rw_ a) a.length = 0
  · exact ⟨11, by simp [hs], by omega⟩
  · exact ⟨0, by simp [hs], fun _ => ⟨w, by omega, by omega, by omega, by omega, hrows, hpx, hs⟩⟩

/-! ### the program's own check -/
theorem C2_eq {r : List Int} (h : ok255 r) (hl : r.length ≤ 100) : slices_ContainsFunc_Lint_int_of_sensor_imageErr_2 r = some false := by
  unfold slices_ContainsFunc_Lint_int_of_sensor_imageErr_2 slices_IndexFunc_Lint_int_of_sensor_imageErr_2
  rw [Option.bind_assoc]
  refine loop_bind (P := fun o => o = some false) r.length (fun i s => s = (i : Int)) (fun q => q = Sum.inl ()) rfl ?_ (fun q hq => by subst hq; rfl)
  rintro i s hi rfl
  by_cases hlt : i < r.length
  · left
    refine ⟨((i + 1 : Nat) : Int), ?_, hlt, rfl⟩
    simp only [show (i : Int) < (r.length : Int) by omega, decide_true, cond_true]
    rw [idx_of (px_at hlt)]
    have := h i
    unfold sensor_imageErr_2
    simp only [Option.bind_some, within_eq, this, and_self, decide_true, Bool.not_true, cond_false]
    rw [w64_id (by omega) (by omega)]; rfl
  · right
    have : i = r.length := by omega
    subst this
    exact ⟨_, by simp, rfl⟩
theorem C3_eq {r : List Int} (hl : r.length ≤ 100) : ∃ b, slices_ContainsFunc_Lint_int_of_sensor_imageErr_3 r = some b ∧ (b = false → ∀ j, r.getD j 0 = 0) := by
  unfold slices_ContainsFunc_Lint_int_of_sensor_imageErr_3 slices_IndexFunc_Lint_int_of_sensor_imageErr_3
  rw [Option.bind_assoc]
  refine (loop_bind (P := fun o => ∃ b : Bool, o = some b ∧ (b = false → ∀ j, r.getD j 0 = 0)) r.length (fun i s => s = (i : Int) ∧ ∀ j, j < i → r.getD j 0 = 0) (fun q => (∃ n : Nat, q = Sum.inr (n : Int)) ∨ (q = Sum.inl () ∧ ∀ j, j < r.length → r.getD j 0 = 0)) ⟨rfl, by simp⟩ ?_ ?_ : (fun o => ∃ b : Bool, o = some b ∧ (b = false → ∀ j, r.getD j 0 = 0)) _)
  · rintro i s hi ⟨rfl, hI⟩
    by_cases hlt : i < r.length
    · simp only [show (i : Int) < (r.length : Int) by omega, decide_true, cond_true]
      rw [idx_of (px_at hlt)]
      unfold sensor_imageErr_3
      simp only [Option.bind_some]
      by_cases h0 : r.getD i 0 = 0
      · left
        refine ⟨((i + 1 : Nat) : Int), ?_, hlt, rfl, fun j hj => ?_⟩
        · simp only [h0, decide_true, Bool.not_true, cond_false]; rw [w64_id (by omega) (by omega)]; rfl
        · by_cases hji : j < i
          · exact hI j hji
          · have : j = i := by omega
            subst this; exact h0
      · right
        exact ⟨_, by simp only [h0, decide_false, Bool.not_false, cond_true], .inl ⟨i, rfl⟩⟩
    · right
      have : i = r.length := by omega
      subst this
      exact ⟨_, by simp, .inr ⟨rfl, hI⟩⟩
  · rintro q (⟨n, rfl⟩ | ⟨rfl, hq⟩)
    · refine ⟨true, ?_, by simp⟩
      simp
    · refine ⟨false, by simp, fun _ j => ?_⟩
      by_cases hj : j < r.length
      · exact hq j hj
      · simp; rw [List.getElem?_eq_none (by omega)]; rfl
theorem first_zero {l : List Int} (h : ∀ x ∈ l, x = 0) (hl : l.length ≤ 100) : sensor_first l = some 0 := by
  unfold sensor_first
  refine loop_bind (P := fun o => o = some 0) l.length (fun i s => s = (i : Int)) (fun q => q = Sum.inl ()) rfl ?_ (fun q hq => by subst hq; rfl)
  rintro i s hi rfl
  by_cases hlt : i < l.length
  · left
    refine ⟨((i + 1 : Nat) : Int), ?_, hlt, rfl⟩
    have h0 : l[i]? = some 0 := by
      have := h l[i] (List.getElem_mem hlt)
      rw [List.getElem?_eq_getElem hlt, this]
    simp only [show (i : Int) < (l.length : Int) by omega, decide_true, cond_true]
    rw [idx_of h0]
    simp only [Option.bind_some, decide_true, Bool.not_true, cond_false]
    rw [w64_id (by omega) (by omega)]; rfl
  · right
    have : i = l.length := by omega
    subst this
    exact ⟨_, by simp, rfl⟩
theorem samplesOf_eq {a : List (List Int)} {w : Nat} (h : ImgOk a w) : sensor_samplesOf a = some (w : Int) := by
  unfold sensor_samplesOf
  have h1 := h.len1
  have : ¬ ((a.length : Int) = 0) := by omega
  simp only [this, decide_false, cond_false]
  rw [idx_zero, rw_at (by omega)]
  simp only [Option.bind_some, h.rows 0 (by omega)]
theorem pM_zero {r : List Int} (h : ∀ j, r.getD j 0 = 0) : ∀ j, pM r j = 0
  | 0 => rfl
  | j + 1 => by simp only [pM, pM_zero h j, h j]; rfl
theorem FM_zero {R : Nat → List Int} : ∀ i, (∀ y, y < i → ∀ j, (R y).getD j 0 = 0) → FM R i = 0
  | 0, _ => rfl
  | i + 1, h => by simp only [FM, FM_zero i (fun y hy => h y (by omega)), pM_zero (h i (by omega))]; rfl

theorem imageErr_eq {a : List (List Int)} {w : Nat} (h : ImgOk a w) : sensor_imageErr a = some 0 := by
  unfold sensor_imageErr
  rw [samplesOf_eq h]
  simp only [Option.bind_some]
  have hl1 := h.len1
  have hl2 := h.len2
  have hw1 := h.w1
  have hw2 := h.w2
  rw [Option.bind_assoc]
  refine loop_bind (P := fun o => o = some 0) a.length (fun i s => s = (i : Int)) (fun q => q = Sum.inl ()) rfl ?_ (fun q hq => ?_)
  · rintro i s hi rfl
    by_cases hlt : i < a.length
    · left
      refine ⟨((i + 1 : Nat) : Int), ?_, hlt, rfl⟩
      simp only [show (i : Int) < (a.length : Int) by omega, decide_true, cond_true]
      rw [idx_of (rw_at hlt)]
      simp only [Option.bind_some, h.rows i hlt, decide_true, Bool.not_true, cond_false]
      rw [w64_id (by omega) (by omega)]; rfl
    · right
      have : i = a.length := by omega
      subst this
      exact ⟨_, by simp, rfl⟩
  subst hq
  simp only [Sum.elim_inl, Option.bind_some]
  refine loop_bind (P := fun o => o = some 0) a.length (fun i s => s.1 = false ∧ s.2.2 = (i : Int) ∧ (s.2.1 = true → ∀ y, y < i → ∀ j, (rw_ a y).getD j 0 = 0)) (fun q => q = (false, false)) ⟨rfl, rfl, by simp⟩ ?_ (fun q hq => ?_)
  · rintro i ⟨s1, s2, s3⟩ hi ⟨h1, h2, h3⟩
    simp only at h1 h2 h3
    subst h1; subst h2
    by_cases hlt : i < a.length
    · left
      simp only [show (i : Int) < (a.length : Int) by omega, decide_true, cond_true]
      rw [idx_of (rw_at hlt)]
      have hrow := h.rows i hlt
      obtain ⟨b, hb, hbz⟩ := C3_eq (r := rw_ a i) (by omega)
      simp only [Option.bind_some, cond_false]
      rw [C2_eq (h.px i hlt) (by omega), hb]
      refine ⟨(false, (s2 && !b), ((i + 1 : Nat) : Int)), ?_, hlt, rfl, rfl, fun hs y hy => ?_⟩
      · rw [w64_id (by omega) (by omega)]
        cases s2 <;> simp
      · simp only [Bool.and_eq_true, Bool.not_eq_true'] at hs
        by_cases hyi : y < i
        · exact h3 hs.1 y hyi
        · have : y = i := by omega
          subst this; exact hbz hs.2
    · right
      have : i = a.length := by omega
      subst this
      have hs2 : s2 = false := by
        cases s2 with
        | false => rfl
        | true => exact absurd (FM_zero a.length (h3 rfl)) h.sum
      subst hs2
      exact ⟨_, by simp, rfl⟩
  subst hq
  have c1 : (w : Int) > 0 := by omega
  have c2 : (w : Int) ≤ 10 := by omega
  have c3 : (a.length : Int) ≤ 10 := by omega
  simp only [c1, c2, c3, decide_true, cond_true, sensor_unless, Bool.not_false, Option.bind_some, show decide ((-1 : Int) ≥ 0) = false from rfl]
  rw [first_zero (by simp) (by simp)]
  rfl

/-! ### centers and moves -/
def SM (a : List (List Int)) : Int := FM (rw_ a) a.length
def SX (a : List (List Int)) : Int := FX (rw_ a) a.length
def SY (a : List (List Int)) : Int := FY (rw_ a) a.length
theorem ImgOk.rowsOk {a : List (List Int)} {w : Nat} (h : ImgOk a w) : ∀ y, y < a.length → ok255 (rw_ a y) ∧ (rw_ a y).length ≤ 10 := fun y hy => ⟨h.px y hy, by rw [h.rows y hy]; exact h.w2⟩
theorem ImgOk.bd {a : List (List Int)} {w : Nat} (h : ImgOk a w) : (0 < SM a ∧ SM a ≤ 25500) ∧ (0 ≤ SX a ∧ SX a ≤ 255000) ∧ (0 ≤ SY a ∧ SY a ≤ 255000) := by
  have h1 := FM_bd (R := rw_ a) a.length h.len2 h.rowsOk
  have h2 := FX_bd (R := rw_ a) a.length h.len2 h.rowsOk
  have h3 := FY_bd (R := rw_ a) a.length h.len2 h.rowsOk
  have h4 := h.sum
  have h5 := h.len2
  unfold SM SX SY
  omega
def fr (n d : Int) : Int × Int := (n.tdiv (Int.gcd n d : Int), d.tdiv (Int.gcd n d : Int))
theorem frac_eq {n d : Int} (hn : n.natAbs ≤ 4611686018427387904) (hd : d ≤ 4611686018427387904) (h0 : 0 < d) : sensor_fraction n d = some ((fr n d).1, (fr n d).2, ()) := fraction_eq hn hd h0
theorem CenterOf_eq {a : List (List Int)} {w : Nat} (h : ImgOk a w) : sensor_CenterOf a = some (((fr (SX a) (SM a)).1, (fr (SX a) (SM a)).2, (fr (SY a) (SM a)).1, (fr (SY a) (SM a)).2, ()), 0) := by
  obtain ⟨b1, b2, b3⟩ := h.bd
  unfold sensor_CenterOf
  rw [imageErr_eq h]
  simp only [Option.bind_some, decide_true, Bool.not_true, cond_false]
  rw [weigh_eq h.len2 h.rowsOk]
  simp only [Option.bind_some]
  show (sensor_fraction (SX a) (SM a)).bind _ = _
  rw [frac_eq (by omega) (by omega) (by omega)]
  simp only [Option.bind_some]
  show (sensor_fraction (SY a) (SM a)).bind _ = _
  rw [frac_eq (by omega) (by omega) (by omega)]
  rfl
theorem MovedBy_eq {a b : List (List Int)} {w : Nat} (ha : ImgOk a w) (hb : ImgOk b w) (hl : a.length = b.length) :
    sensor_MovedBy a b = some (((fr (SX b * SM a - SX a * SM b) (SM a * SM b)).1, (fr (SX b * SM a - SX a * SM b) (SM a * SM b)).2, (fr (SY b * SM a - SY a * SM b) (SM a * SM b)).1, (fr (SY b * SM a - SY a * SM b) (SM a * SM b)).2, ()), 0) := by
  obtain ⟨a1, a2, a3⟩ := ha.bd
  obtain ⟨b1, b2, b3⟩ := hb.bd
  have m1 := mul_bd b2.1 b2.2 (Int.le_of_lt a1.1) a1.2
  have m2 := mul_bd a2.1 a2.2 (Int.le_of_lt b1.1) b1.2
  have m3 := mul_bd b3.1 b3.2 (Int.le_of_lt a1.1) a1.2
  have m4 := mul_bd a3.1 a3.2 (Int.le_of_lt b1.1) b1.2
  have m5 := mul_bd (Int.le_of_lt a1.1) a1.2 (Int.le_of_lt b1.1) b1.2
  have m6 : 0 < SM a * SM b := Int.mul_pos a1.1 b1.1
  unfold sensor_MovedBy
  have hl' : (a.length : Int) = (b.length : Int) := by omega
  rw [samplesOf_eq ha, samplesOf_eq hb, imageErr_eq ha, imageErr_eq hb]
  simp only [hl', decide_true, cond_true, Option.bind_some, sensor_unless]
  rw [first_zero (by simp) (by simp)]
  simp only [Option.bind_some, decide_true, Bool.not_true, cond_false]
  rw [weigh_eq ha.len2 ha.rowsOk, weigh_eq hb.len2 hb.rowsOk]
  simp only [Option.bind_some]
  show (sensor_fraction (w64 (w64 (SX b * SM a) - w64 (SX a * SM b))) (w64 (SM a * SM b))).bind _ = _
  rw [w64_id (n := SX b * SM a) (by omega) (by omega), w64_id (n := SX a * SM b) (by omega) (by omega), w64_id (n := SX b * SM a - SX a * SM b) (by omega) (by omega), w64_id (n := SM a * SM b) (by omega) (by omega)]
  rw [frac_eq (by omega) (by omega) (by omega)]
  simp only [Option.bind_some]
  show (sensor_fraction (w64 (w64 (SY b * SM a) - w64 (SY a * SM b))) (w64 (SM a * SM b))).bind _ = _
  rw [w64_id (n := SY b * SM a) (by omega) (by omega), w64_id (n := SY a * SM b) (by omega) (by omega), w64_id (n := SY b * SM a - SY a * SM b) (by omega) (by omega), w64_id (n := SM a * SM b) (by omega) (by omega)]
  rw [frac_eq (by omega) (by omega) (by omega)]
  rfl
theorem fr_zero {d : Int} (h : 0 < d) : fr 0 d = (0, 1) := by
  unfold fr
  have : ((Int.gcd 0 d : Nat) : Int) = d := by simp; omega
  rw [this]
  rw [Int.tdiv_self (by omega)]; simp
theorem fr_self {d : Int} (h : 0 < d) : fr d d = (1, 1) := by
  unfold fr
  have : ((Int.gcd d d : Nat) : Int) = d := by simp; omega
  rw [this, Int.tdiv_self (by omega)]
theorem fr_neg (n d : Int) : fr (-n) d = (-(fr n d).1, (fr n d).2) := by
  unfold fr
  rw [Int.neg_gcd, Int.neg_tdiv]
theorem fr_den {n d : Int} (h : 0 < d) : 0 < (fr n d).2 ∧ ∃ g : Int, 0 < g ∧ g * (fr n d).1 = n ∧ g * (fr n d).2 = d := by
  have hg : 0 < Int.gcd n d := Nat.pos_of_ne_zero fun h => by rw [Int.gcd_eq_zero_iff] at h; omega
  have e1 : ((Int.gcd n d : Nat) : Int) * (n.tdiv (Int.gcd n d : Int)) = n := Int.mul_tdiv_cancel' (Int.gcd_dvd_left n d)
  have e2 : ((Int.gcd n d : Nat) : Int) * (d.tdiv (Int.gcd n d : Int)) = d := Int.mul_tdiv_cancel' (Int.gcd_dvd_right n d)
  refine ⟨?_, (Int.gcd n d : Nat), by omega, e1, e2⟩
  show 0 < d.tdiv (Int.gcd n d : Int)
  rcases Int.lt_trichotomy (d.tdiv (Int.gcd n d : Int)) 0 with h1 | h1 | h1
  · have := Int.mul_neg_of_pos_of_neg (a := ((Int.gcd n d : Nat) : Int)) (by omega) h1
    omega
  · rw [h1] at e2; simp at e2; omega
  · exact h1
end Go.Proofs.Ytpiggpgocnlomaa
