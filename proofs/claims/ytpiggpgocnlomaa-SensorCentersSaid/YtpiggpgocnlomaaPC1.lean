/-
  IMAGES: plain lemmas about the typed functions of centers.
-/
import Derived.Test.YtpiggpgocnlomaaPuA
import Derived.Test.YtpiggpgocnlomaaFI
set_option linter.unusedVariables false
set_option linter.unusedSimpArgs false
namespace Go.Proofs.Ytpiggpgocnlomaa
open Go Go.Ab Go.Tx

theorem loop_bind {σ ρ τ : Type} {f : σ → Option (σ ⊕ ρ)} {s : σ} {k : ρ → Option τ} {P : Option τ → Prop} (n : Nat) (I : Nat → σ → Prop) (Q : ρ → Prop)
    (h0 : I 0 s) (hs : ∀ i s, i ≤ n → I i s → (∃ s', f s = some (.inl s') ∧ i < n ∧ I (i + 1) s') ∨ (∃ r, f s = some (.inr r) ∧ Q r)) (hk : ∀ r, Q r → P (k r)) : P ((loopO f s).bind k) := by
  obtain ⟨r, hr, hq⟩ := loop_inv n I Q hs h0
  rw [hr]; exact hk r hq
theorem w64_id {n : Int} (h1 : -9223372036854775808 ≤ n) (h2 : n ≤ 9223372036854775807) : w64 n = n := wrap_id h1 h2
theorem idx_at {α : Type} {l : List α} {n : Int} {i : Nat} {a : α} (hn : n = i) (h : l[i]? = some a) : idx l n = some a := by subst hn; exact idx_of h

theorem Within_eq (a b c : Int) : base_Within a b c = some (decide (b ≤ a ∧ a ≤ c)) := by
  unfold base_Within
  by_cases h1 : b ≤ a <;> by_cases h2 : a ≤ c <;> simp [h1, h2]
theorem within_eq (a b c : Int) : sensor_within a b c = some (decide (b ≤ a ∧ a ≤ c)) := by
  unfold sensor_within
  by_cases h1 : b ≤ a <;> by_cases h2 : a ≤ c <;> simp [h1, h2]

/-! ### sums over rows -/
def pM (r : List Int) : Nat → Int
  | 0 => 0
  | j + 1 => pM r j + r.getD j 0
def pX (r : List Int) : Nat → Int
  | 0 => 0
  | j + 1 => pX r j + j * r.getD j 0
def FM (R : Nat → List Int) : Nat → Int
  | 0 => 0
  | i + 1 => FM R i + pM (R i) (R i).length
def FX (R : Nat → List Int) : Nat → Int
  | 0 => 0
  | i + 1 => FX R i + pX (R i) (R i).length
def FY (R : Nat → List Int) : Nat → Int
  | 0 => 0
  | i + 1 => FY R i + i * pM (R i) (R i).length
def ok255 (r : List Int) : Prop := ∀ j, 0 ≤ r.getD j 0 ∧ r.getD j 0 ≤ 255
def rw_ (a : List (List Int)) (y : Nat) : List Int := a.getD y []
structure ImgOk (a : List (List Int)) (w : Nat) : Prop where
  len1 : 1 ≤ a.length
  len2 : a.length ≤ 10
  w1 : 1 ≤ w
  w2 : w ≤ 10
  rows : ∀ y, y < a.length → (rw_ a y).length = w
  px : ∀ y, y < a.length → ok255 (rw_ a y)
  sum : FM (rw_ a) a.length ≠ 0

theorem pM_bd {r : List Int} (h : ok255 r) : ∀ j, 0 ≤ pM r j ∧ pM r j ≤ 255 * j
  | 0 => by simp [pM]
  | j + 1 => by
    have h1 := pM_bd h j
    have h2 := h j
    simp only [pM]; omega
theorem mul_bd {a b A B : Int} (h1 : 0 ≤ a) (h2 : a ≤ A) (h3 : 0 ≤ b) (h4 : b ≤ B) : 0 ≤ a * b ∧ a * b ≤ A * B :=
  ⟨Int.mul_nonneg h1 h3, Int.mul_le_mul h2 h4 h3 (by omega)⟩
theorem pX_bd {r : List Int} (h : ok255 r) : ∀ j, j ≤ 10 → 0 ≤ pX r j ∧ pX r j ≤ 2550 * j
  | 0, _ => by simp [pX]
  | j + 1, hj => by
    have h1 := pX_bd h j (by omega)
    have h2 := h j
    have h3 := mul_bd (a := (j : Int)) (A := 10) (by omega) (by omega) h2.1 h2.2
    simp only [pX]; omega
theorem pX_le {r : List Int} (h : ok255 r) {w : Nat} (hw : 1 ≤ w) : ∀ j, j ≤ w → pX r j ≤ ((w : Int) - 1) * pM r j
  | 0, _ => by simp [pX, pM]
  | j + 1, hj => by
    have h1 := pX_le h hw j (by omega)
    have h2 := h j
    have h3 : (j : Int) * r.getD j 0 ≤ ((w : Int) - 1) * r.getD j 0 := Int.mul_le_mul_of_nonneg_right (by omega) h2.1
    simp only [pX, pM, Int.mul_add]; omega

theorem FM_bd {R : Nat → List Int} : ∀ i, i ≤ 10 → (∀ y, y < i → ok255 (R y) ∧ (R y).length ≤ 10) → 0 ≤ FM R i ∧ FM R i ≤ 2550 * i
  | 0, _, _ => by simp [FM]
  | i + 1, hi, h => by
    have h1 := FM_bd i (by omega) fun y hy => h y (by omega)
    have h2 := pM_bd (h i (by omega)).1 (R i).length
    have h3 := (h i (by omega)).2
    simp only [FM]; omega
theorem FX_bd {R : Nat → List Int} : ∀ i, i ≤ 10 → (∀ y, y < i → ok255 (R y) ∧ (R y).length ≤ 10) → 0 ≤ FX R i ∧ FX R i ≤ 25500 * i
  | 0, _, _ => by simp [FX]
  | i + 1, hi, h => by
    have h1 := FX_bd i (by omega) fun y hy => h y (by omega)
    have h3 := (h i (by omega)).2
    have h2 := pX_bd (h i (by omega)).1 (R i).length h3
    simp only [FX]; omega
theorem FY_bd {R : Nat → List Int} : ∀ i, i ≤ 10 → (∀ y, y < i → ok255 (R y) ∧ (R y).length ≤ 10) → 0 ≤ FY R i ∧ FY R i ≤ 25500 * i
  | 0, _, _ => by simp [FY]
  | i + 1, hi, h => by
    have h1 := FY_bd i (by omega) fun y hy => h y (by omega)
    have h3 := (h i (by omega)).2
    have h2 := pM_bd (h i (by omega)).1 (R i).length
    have h4 := mul_bd (a := (i : Int)) (A := 10) (b := pM (R i) (R i).length) (B := 2550) (by omega) (by omega) h2.1 (by omega)
    simp only [FY]; omega
theorem FX_le {R : Nat → List Int} {w : Nat} (hw : 1 ≤ w) : ∀ i, (∀ y, y < i → ok255 (R y) ∧ (R y).length ≤ w) → FX R i ≤ ((w : Int) - 1) * FM R i
  | 0, _ => by simp [FX, FM]
  | i + 1, h => by
    have h1 := FX_le hw i fun y hy => h y (by omega)
    have h2 := pX_le (h i (by omega)).1 hw (R i).length (h i (by omega)).2
    simp only [FX, FM, Int.mul_add]; omega
theorem FY_le {R : Nat → List Int} {n : Nat} (hn : 1 ≤ n) : ∀ i, i ≤ n → (∀ y, y < i → ok255 (R y)) → FY R i ≤ ((n : Int) - 1) * FM R i
  | 0, _, _ => by simp [FY, FM]
  | i + 1, hi, h => by
    have h1 := FY_le hn i (by omega) fun y hy => h y (by omega)
    have h2 := pM_bd (h i (by omega)) (R i).length
    have h3 : (i : Int) * pM (R i) (R i).length ≤ ((n : Int) - 1) * pM (R i) (R i).length := Int.mul_le_mul_of_nonneg_right (by omega) h2.1
    simp only [FY, FM, Int.mul_add]; omega

theorem getD_of {α : Type} {l : List α} {i : Nat} {a d : α} (h : l[i]? = some a) : l.getD i d = a := by simp [h]
theorem rw_at {a : List (List Int)} {y : Nat} (h : y < a.length) : a[y]? = some (rw_ a y) := by simp [rw_, h]
theorem px_at {r : List Int} {j : Nat} (h : j < r.length) : r[j]? = some (r.getD j 0) := by simp [h]

/-! ### copies -/
theorem CopyInts_eq {l : List Int} (h : l.length ≤ 1000) : base_CopyInts l = some l := by
  unfold base_CopyInts
  rw [app_of (by simp; omega)]; rfl
theorem CopyLists_eq {a : List (List Int)} (h : a.length ≤ 1000) (hr : ∀ y, y < a.length → (rw_ a y).length ≤ 1000) : base_CopyLists a = some a := by
  unfold base_CopyLists
  refine loop_bind (P := fun o => o = some a) a.length (fun i s => s = (a.take i, (i : Int))) (fun r => r = a) (by simp) ?_ (fun r hr => by rw [hr])
  rintro i s hi rfl
  by_cases hlt : i < a.length
  · left
    refine ⟨(a.take (i + 1), ((i + 1 : Nat) : Int)), ?_, hlt, rfl⟩
    simp only [show (i : Int) < (a.length : Int) by omega, decide_true, cond_true]
    rw [idx_of (rw_at hlt)]
    simp only [Option.bind_some]
    rw [CopyInts_eq (hr i hlt)]
    simp only [Option.bind_some]
    rw [app_of (by simp; omega)]
    simp only [Option.bind_some]
    rw [w64_id (by omega) (by omega)]
    have : a.take i ++ [rw_ a i] = a.take (i + 1) := by rw [List.take_add_one, rw_at hlt]; rfl
    rw [this]; simp
  · right
    have : i = a.length := by omega
    subst this
    exact ⟨a, by simp, rfl⟩

/-! ### the sums of an image -/
theorem weigh_eq {a : List (List Int)} (hl : a.length ≤ 10) (hr : ∀ y, y < a.length → ok255 (rw_ a y) ∧ (rw_ a y).length ≤ 10) :
    sensor_weigh a = some (FX (rw_ a) a.length, FY (rw_ a) a.length, FM (rw_ a) a.length, ()) := by
  unfold sensor_weigh
  refine loop_bind (P := fun o => o = some (FX (rw_ a) a.length, FY (rw_ a) a.length, FM (rw_ a) a.length, ())) a.length (fun i s => s = ((i : Int), FX (rw_ a) i, FY (rw_ a) i, FM (rw_ a) i))
    (fun r => r = (FX (rw_ a) a.length, FY (rw_ a) a.length, FM (rw_ a) a.length)) rfl ?_ (fun r hr => by rw [hr])
  rintro i s hi rfl
  have hX := FX_bd (R := rw_ a) i (by omega) fun y hy => hr y (by omega)
  have hY := FY_bd (R := rw_ a) i (by omega) fun y hy => hr y (by omega)
  have hM := FM_bd (R := rw_ a) i (by omega) fun y hy => hr y (by omega)
  by_cases hlt : i < a.length
  · left
    refine ⟨(((i + 1 : Nat) : Int), FX (rw_ a) (i + 1), FY (rw_ a) (i + 1), FM (rw_ a) (i + 1)), ?_, hlt, rfl⟩
    simp only [show (i : Int) < (a.length : Int) by omega, decide_true, cond_true]
    rw [idx_of (rw_at hlt)]
    simp only [Option.bind_some]
    obtain ⟨h255, h10⟩ := hr i hlt
    generalize hrr : rw_ a i = r at h255 h10
    refine loop_bind (P := fun o => o = some (Sum.inl (((i + 1 : Nat) : Int), FX (rw_ a) (i + 1), FY (rw_ a) (i + 1), FM (rw_ a) (i + 1)))) r.length (fun j s => s = ((j : Int), FX (rw_ a) i + pX r j, FY (rw_ a) i + i * pM r j, FM (rw_ a) i + pM r j))
      (fun q => q = (FX (rw_ a) i + pX r r.length, FY (rw_ a) i + i * pM r r.length, FM (rw_ a) i + pM r r.length)) (by simp [pX, pM]) ?_ (fun q hq => ?_)
    · rintro j s hj rfl
      have b1 := pX_bd h255 j (by omega)
      have b2 := pM_bd h255 j
      have b3 := mul_bd (a := (i : Int)) (A := 10) (b := pM r j) (B := 2550) (by omega) (by omega) b2.1 (by omega)
      by_cases hjl : j < r.length
      · left
        refine ⟨(((j + 1 : Nat) : Int), FX (rw_ a) i + pX r (j + 1), FY (rw_ a) i + i * pM r (j + 1), FM (rw_ a) i + pM r (j + 1)), ?_, hjl, rfl⟩
        have b4 := h255 j
        have b5 := mul_bd (a := (i : Int)) (A := 10) (by omega) (by omega) b4.1 b4.2
        have b6 := mul_bd (a := (j : Int)) (A := 10) (by omega) (by omega) b4.1 b4.2
        simp only [show (j : Int) < (r.length : Int) by omega, decide_true, cond_true]
        rw [idx_of (px_at hjl)]
        simp only [Option.bind_some]
        rw [w64_id (n := (j : Int) + 1) (by omega) (by omega), w64_id (n := (j : Int) * r.getD j 0) (by omega) (by omega), w64_id (n := (i : Int) * r.getD j 0) (by omega) (by omega),
          w64_id (n := FX (rw_ a) i + pX r j + (j : Int) * r.getD j 0) (by omega) (by omega), w64_id (n := FY (rw_ a) i + i * pM r j + (i : Int) * r.getD j 0) (by omega) (by omega), w64_id (n := FM (rw_ a) i + pM r j + r.getD j 0) (by omega) (by omega)]
        simp only [pX, pM, Int.mul_add, Int.add_assoc]
        rfl
      · right
        have : j = r.length := by omega
        subst this
        exact ⟨_, by simp, rfl⟩
    · subst hq
      simp only
      rw [w64_id (by omega) (by omega)]
      simp only [FX, FY, FM, hrr]
      rfl
  · right
    have : i = a.length := by omega
    subst this
    exact ⟨_, by simp, rfl⟩

/-! ### the greatest common divisor -/
theorem euclid {f : Int × Int → Option ((Int × Int) ⊕ Int)} (hf : ∀ s, f s = if s.2 = 0 then some (.inr s.1) else some (.inl (s.2, s.1.tmod s.2))) : ∀ (n : Nat) (a b : Int), b.natAbs ≤ n → ∃ r, loopO f (a, b) = some r ∧ r.natAbs = Int.gcd a b := by
  intro n
  induction n with
  | zero =>
    intro a b hb
    have : b = 0 := by omega
    subst this
    exact ⟨a, loopO_inr (by rw [hf]; simp), by simp⟩
  | succ n ih =>
    intro a b hb
    by_cases h0 : b = 0
    · subst h0
      exact ⟨a, loopO_inr (by rw [hf]; simp), by simp⟩
    · have hlt : (a.tmod b).natAbs < b.natAbs := by
        rw [Int.natAbs_tmod]; exact Nat.mod_lt _ (by omega)
      obtain ⟨r, h1, h2⟩ := ih b (a.tmod b) (by omega)
      refine ⟨r, by rw [loopO_inl (s' := (b, a.tmod b)) (by rw [hf]; simp [h0])]; exact h1, ?_⟩
      rw [h2]
      unfold Int.gcd
      rw [Int.natAbs_tmod, Nat.gcd_comm, ← Nat.gcd_rec, Nat.gcd_comm]
theorem divisor_eq {n d : Int} (hn : n.natAbs ≤ 4611686018427387904) (hd : d.natAbs ≤ 4611686018427387904) (h0 : d ≠ 0) : sensor_divisor [n, d] = some (Int.gcd n d : Int) := by
  unfold sensor_divisor
  have hg0 : Int.gcd n d ≤ d.natAbs := Nat.le_of_dvd (by omega) (Int.gcd_dvd_natAbs_right n d)
  refine loop_bind (P := fun o => o = some (Int.gcd n d : Int)) 2 (fun i s => s.2 = (i : Int) ∧ s.1.natAbs = (if i = 0 then 0 else if i = 1 then n.natAbs else Int.gcd n d)) (fun r => r.natAbs = Int.gcd n d) ⟨rfl, rfl⟩ ?_ (fun r hr => ?_)
  · rintro i ⟨g, s⟩ hi ⟨h1, h2⟩
    simp only at h1 h2
    subst h1
    have step : ∀ (x : Int) (i' : Nat), [n, d][i]? = some x → i < 2 → (∃ s', ((bif decide ((i : Int) < ([n, d].length : Int)) then
        (idx [n, d] (i : Int)).bind fun x3 => (loopO (fun (s5 : (Int × Int)) => bif !(decide (s5.2 = 0)) then bif decide (s5.2 = 0) then none else some (.inl (s5.2, s5.1.tmod s5.2)) else some (.inr s5.1)) (g, x3)).bind fun (p6 : Int) => some (.inl (p6, w64 ((i : Int) + 1)))
        else some (.inr g)) : Option ((Int × Int) ⊕ Int)) = some (.inl s') ∧ s'.2 = ((i + 1 : Nat) : Int) ∧ s'.1.natAbs = Int.gcd g x) := fun x i' hx hi2 => by
      obtain ⟨r, h3, h4⟩ := euclid (f := fun (s5 : (Int × Int)) => bif !(decide (s5.2 = 0)) then bif decide (s5.2 = 0) then none else some (.inl (s5.2, s5.1.tmod s5.2)) else some (.inr s5.1)) (fun s => by
        by_cases h : s.2 = 0 <;> simp [h]) x.natAbs g x (Nat.le_refl _)
      refine ⟨(r, ((i + 1 : Nat) : Int)), ?_, rfl, h4⟩
      have hl : (i : Int) < ([n, d].length : Int) := by simp; omega
      simp only [hl, decide_true, cond_true]
      rw [idx_of hx]
      simp only [Option.bind_some]
      rw [h3, w64_id (by omega) (by omega)]
      rfl
    match i, hi, h2 with
    | 0, _, h2 =>
      left
      obtain ⟨s', h5, h6, h7⟩ := step n 0 rfl (by omega)
      refine ⟨s', h5, by omega, h6, ?_⟩
      have : g = 0 := by simpa using h2
      rw [h7, this]; simp
    | 1, _, h2 =>
      left
      obtain ⟨s', h5, h6, h7⟩ := step d 0 rfl (by omega)
      refine ⟨s', h5, by omega, h6, ?_⟩
      simp at h2
      rw [h7]; unfold Int.gcd; rw [h2]; simp
    | 2, _, h2 =>
      right
      exact ⟨g, by simp, by simpa using h2⟩
  · rw [w64_id (by omega) (by omega)]
    congr 1
    omega
theorem fraction_eq {n d : Int} (hn : n.natAbs ≤ 4611686018427387904) (hd : d ≤ 4611686018427387904) (h0 : 0 < d) :
    sensor_fraction n d = some (n.tdiv (Int.gcd n d : Int), d.tdiv (Int.gcd n d : Int), ()) := by
  unfold sensor_fraction
  rw [divisor_eq hn (by omega) (by omega)]
  have hg : 0 < Int.gcd n d := Nat.pos_of_ne_zero fun h => by rw [Int.gcd_eq_zero_iff] at h; omega
  have hg' : ((Int.gcd n d : Nat) : Int) ≠ 0 := by omega
  simp only [Option.bind_some, hg', decide_false, cond_false]
  have b : ∀ x : Int, x.natAbs ≤ 4611686018427387904 → (x.tdiv (Int.gcd n d : Int)).natAbs ≤ 4611686018427387904 := fun x hx => by
    rw [Int.natAbs_tdiv]; exact Nat.le_trans (Nat.div_le_self _ _) hx
  have b1 := b n hn
  have b2 := b d (by omega)
  rw [w64_id (by omega) (by omega), w64_id (by omega) (by omega)]
end Go.Proofs.Ytpiggpgocnlomaa
