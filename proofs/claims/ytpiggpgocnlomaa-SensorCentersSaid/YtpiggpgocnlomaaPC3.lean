/-
  CENTERS: the padded images of the law, and the law.
-/
import Derived.Test.YtpiggpgocnlomaaPC2
set_option linter.unusedVariables false
set_option linter.unusedSimpArgs false
namespace Go.Proofs.Ytpiggpgocnlomaa
open Go Go.Ab Go.Tx

/-! ### lists by a rule -/
def mk {α : Type} (n : Nat) (f : Nat → α) : List α := (List.range n).map f
theorem mk_len {α : Type} (n : Nat) (f : Nat → α) : (mk n f).length = n := by simp [mk]
theorem mk_get {α : Type} {n : Nat} (f : Nat → α) {k : Nat} (h : k < n) : (mk n f)[k]? = some (f k) := by simp [mk, h]
theorem mk_getD {α : Type} {n : Nat} (f : Nat → α) {k : Nat} (d : α) (h : k < n) : (mk n f).getD k d = f k := getD_of (mk_get f h)
theorem mk_getD0 {n : Nat} (f : Nat → Int) (k : Nat) : (mk n f).getD k 0 = if k < n then f k else 0 := by
  by_cases h : k < n
  · rw [mk_getD f 0 h, if_pos h]
  · rw [if_neg h]; simp; rw [List.getElem?_eq_none (by rw [mk_len]; omega)]; rfl
theorem mk_congr {α : Type} {n : Nat} {f g : Nat → α} (h : ∀ k, k < n → f k = g k) : mk n f = mk n g := by
  unfold mk
  exact List.map_congr_left fun k hk => h k (by simpa using hk)
theorem mk_succ {α : Type} (n : Nat) (f : Nat → α) : mk n f ++ [f n] = mk (n + 1) f := by simp [mk, List.range_succ]
theorem mk_set {α : Type} {n i : Nat} {f g : Nat → α} {v : α} (hi : g i = v) (h : ∀ k, k < n → k ≠ i → f k = g k) : (mk n f).set i v = mk n g := by
  apply List.ext_getElem?
  intro k
  by_cases hk : k < n
  · rw [mk_get g hk]
    by_cases hki : i = k
    · subst hki; rw [List.getElem?_set_self (by rw [mk_len]; exact hk), hi]
    · rw [List.getElem?_set_ne hki, mk_get f hk, h k hk (fun e => hki e.symm)]
  · rw [List.getElem?_eq_none (by rw [List.length_set, mk_len]; omega), List.getElem?_eq_none (by rw [mk_len]; omega)]
theorem mkS_eq {n : Int} {k : Nat} (h : n = k) (hk : k ≤ 1000) : mkS (0 : Int) n = some (mk k fun _ => 0) := by
  subst h
  unfold mkS
  rw [if_pos (by omega)]
  congr 1
  rw [Int.toNat_natCast]
  apply List.ext_getElem?
  intro j
  by_cases hj : j < k
  · rw [mk_get _ hj]; simp [hj]
  · rw [List.getElem?_eq_none (by simp; omega), List.getElem?_eq_none (by rw [mk_len]; omega)]

/-! ### the images of the law -/
def gA (a : List (List Int)) (y x : Nat) : Int := (rw_ a y).getD x 0
def gB (down : Bool) (a : List (List Int)) (y x : Nat) : Int :=
  if down then (if 0 < y then (rw_ a (y - 1)).getD x 0 else 0) else (if 0 < x then (rw_ a y).getD (x - 1) 0 else 0)
def img (g : Nat → Nat → Int) (h w : Nat) : List (List Int) := mk h fun y => mk w (g y)
theorem img_len (g : Nat → Nat → Int) (h w : Nat) : (img g h w).length = h := mk_len _ _
theorem rw_img {g : Nat → Nat → Int} {h w y : Nat} (hy : y < h) : rw_ (img g h w) y = mk w (g y) := mk_getD _ _ hy
theorem rw_out {a : List (List Int)} {y : Nat} (h : a.length ≤ y) : rw_ a y = [] := by
  unfold rw_; simp; rw [List.getElem?_eq_none h]; rfl
theorem pM_mk {w : Nat} {f : Nat → Int} {r : List Int} : ∀ j, j ≤ w → (∀ k, k < j → f k = r.getD k 0) → pM (mk w f) j = pM r j
  | 0, _, _ => rfl
  | j + 1, hj, h => by rw [pM, pM, pM_mk (r := r) j (by omega) (fun k hk => h k (by omega)), mk_getD0, if_pos (show j < w by omega), h j (by omega)]
theorem pX_mk {w : Nat} {f : Nat → Int} {r : List Int} : ∀ j, j ≤ w → (∀ k, k < j → f k = r.getD k 0) → pX (mk w f) j = pX r j
  | 0, _, _ => rfl
  | j + 1, hj, h => by rw [pX, pX, pX_mk (r := r) j (by omega) (fun k hk => h k (by omega)), mk_getD0, if_pos (show j < w by omega), h j (by omega)]
theorem pM_last {r : List Int} {j : Nat} (h : r.getD j 0 = 0) : pM r (j + 1) = pM r j := by simp only [pM, h]; omega
theorem pX_last {r : List Int} {j : Nat} (h : r.getD j 0 = 0) : pX r (j + 1) = pX r j := by simp only [pX, h]; omega
theorem pM_shift {w : Nat} {f : Nat → Int} {r : List Int} : ∀ j, j < w → f 0 = 0 → (∀ k, k < j → f (k + 1) = r.getD k 0) → pM (mk w f) (j + 1) = pM r j
  | 0, hj, h0, _ => by simp only [pM, mk_getD0, if_pos hj, h0]; rfl
  | j + 1, hj, h0, h => by
    rw [pM, pM_shift (r := r) j (by omega) h0 (fun k hk => h k (by omega))]
    simp only [pM, mk_getD0, if_pos hj, h j (by omega)]
theorem pX_shift {w : Nat} {f : Nat → Int} {r : List Int} : ∀ j, j < w → f 0 = 0 → (∀ k, k < j → f (k + 1) = r.getD k 0) → pX (mk w f) (j + 1) = pX r j + pM r j
  | 0, hj, h0, _ => by simp only [pX, pM, mk_getD0, if_pos hj, h0]; rfl
  | j + 1, hj, h0, h => by
    rw [pX, pX_shift (r := r) j (by omega) h0 (fun k hk => h k (by omega))]
    simp only [pX, pM, mk_getD0, if_pos hj, h j (by omega)]
    rw [show ((j + 1 : Nat) : Int) = (j : Int) + 1 by omega, Int.add_mul]; omega

/-- the rows of an image, and what is added -/
theorem FM_cong {R S : Nat → List Int} : ∀ i, (∀ y, y < i → pM (R y) (R y).length = pM (S y) (S y).length) → FM R i = FM S i
  | 0, _ => rfl
  | i + 1, h => by rw [FM, FM, FM_cong (S := S) i (fun y hy => h y (by omega)), h i (by omega)]
theorem FX_cong {R S : Nat → List Int} : ∀ i, (∀ y, y < i → pX (R y) (R y).length = pX (S y) (S y).length) → FX R i = FX S i
  | 0, _ => rfl
  | i + 1, h => by rw [FX, FX, FX_cong (S := S) i (fun y hy => h y (by omega)), h i (by omega)]
theorem FX_add {R S : Nat → List Int} : ∀ i, (∀ y, y < i → pX (R y) (R y).length = pX (S y) (S y).length + pM (S y) (S y).length) → FX R i = FX S i + FM S i
  | 0, _ => rfl
  | i + 1, h => by rw [FX, FX, FM, FX_add (S := S) i (fun y hy => h y (by omega)), h i (by omega)]; omega
theorem FY_cong {R S : Nat → List Int} : ∀ i, (∀ y, y < i → pM (R y) (R y).length = pM (S y) (S y).length) → FY R i = FY S i
  | 0, _ => rfl
  | i + 1, h => by rw [FY, FY, FY_cong (S := S) i (fun y hy => h y (by omega)), h i (by omega)]
theorem FM_down {R S : Nat → List Int} (h0 : pM (R 0) (R 0).length = 0) : ∀ i, (∀ y, y < i → pM (R (y + 1)) (R (y + 1)).length = pM (S y) (S y).length) → FM R (i + 1) = FM S i
  | 0, _ => by simp only [FM, h0]; rfl
  | i + 1, h => by rw [FM, FM_down (S := S) h0 i (fun y hy => h y (by omega)), h i (by omega)]; rfl
theorem FX_down {R S : Nat → List Int} (h0 : pX (R 0) (R 0).length = 0) : ∀ i, (∀ y, y < i → pX (R (y + 1)) (R (y + 1)).length = pX (S y) (S y).length) → FX R (i + 1) = FX S i
  | 0, _ => by simp only [FX, h0]; rfl
  | i + 1, h => by rw [FX, FX_down (S := S) h0 i (fun y hy => h y (by omega)), h i (by omega)]; rfl
theorem FY_down {R S : Nat → List Int} (h0 : pM (R 0) (R 0).length = 0) : ∀ i, (∀ y, y < i → pM (R (y + 1)) (R (y + 1)).length = pM (S y) (S y).length) → FY R (i + 1) = FY S i + FM S i
  | 0, _ => by simp only [FY, FM, h0]; rfl
  | i + 1, h => by
    rw [FY, FY_down (S := S) h0 i (fun y hy => h y (by omega)), h i (by omega)]
    simp only [FY, FM]
    rw [show ((i + 1 : Nat) : Int) = (i : Int) + 1 by omega, Int.add_mul]; omega

section
variable {a : List (List Int)} {w : Nat}
theorem getD_over {r : List Int} {k : Nat} (h : r.length ≤ k) : r.getD k 0 = 0 := by simp; rw [List.getElem?_eq_none h]; rfl
theorem pix_ok (h : ImgOk a w) (y k : Nat) : 0 ≤ (rw_ a y).getD k 0 ∧ (rw_ a y).getD k 0 ≤ 255 := by
  by_cases hy : y < a.length
  · exact h.px y hy k
  · rw [rw_out (by omega)]; simp
theorem rowA (h : ImgOk a w) {y : Nat} (hy : y ≤ a.length) : pM (mk (w + 1) (gA a y)) (w + 1) = pM (rw_ a y) (rw_ a y).length ∧ pX (mk (w + 1) (gA a y)) (w + 1) = pX (rw_ a y) (rw_ a y).length := by
  have hz : ∀ y, (rw_ a y).getD w 0 = 0 := fun y => by
    by_cases hy : y < a.length
    · exact getD_over (by rw [h.rows y hy]; omega)
    · rw [rw_out (by omega)]; simp
  rw [pM_mk (f := gA a y) (r := rw_ a y) (w + 1) (by omega) (fun k _ => rfl), pX_mk (f := gA a y) (r := rw_ a y) (w + 1) (by omega) (fun k _ => rfl), pM_last (hz y), pX_last (hz y)]
  by_cases hlt : y < a.length
  · rw [h.rows y hlt]; exact ⟨rfl, rfl⟩
  · rw [rw_out (by omega)]
    have z1 : ∀ k, pM [] k = 0 := pM_zero (by simp)
    have z2 : ∀ k, pX [] k = 0 := fun k => by
      induction k with
      | zero => rfl
      | succ k ih => simp only [pX, ih]; simp
    rw [z1, z2]; exact ⟨rfl, rfl⟩
def imgA (a : List (List Int)) (w : Nat) : List (List Int) := img (gA a) (a.length + 1) (w + 1)
def imgB (down : Bool) (a : List (List Int)) (w : Nat) : List (List Int) := img (gB down a) (a.length + 1) (w + 1)
theorem rlen {g : Nat → Nat → Int} {h w y : Nat} (hy : y < h) : (rw_ (img g h w) y).length = w := by rw [rw_img hy, mk_len]
theorem FM_img (h : ImgOk a w) : SM (imgA a w) = SM a ∧ SX (imgA a w) = SX a ∧ SY (imgA a w) = SY a := by
  have r : ∀ y, y ≤ a.length → pM (rw_ (imgA a w) y) (rw_ (imgA a w) y).length = pM (rw_ a y) (rw_ a y).length ∧ pX (rw_ (imgA a w) y) (rw_ (imgA a w) y).length = pX (rw_ a y) (rw_ a y).length := fun y hy => by
    unfold imgA
    rw [rlen (by omega), rw_img (by omega)]; exact rowA h hy
  have z1 : pM (rw_ (imgA a w) a.length) (rw_ (imgA a w) a.length).length = 0 := by rw [(r _ (Nat.le_refl _)).1, rw_out (Nat.le_refl _)]; rfl
  have z2 : pX (rw_ (imgA a w) a.length) (rw_ (imgA a w) a.length).length = 0 := by rw [(r _ (Nat.le_refl _)).2, rw_out (Nat.le_refl _)]; rfl
  have hl : (imgA a w).length = a.length + 1 := img_len _ _ _
  unfold SM SX SY
  rw [hl, FM, FX, FY, FM_cong (S := rw_ a) a.length (fun y hy => (r y (by omega)).1), FX_cong (S := rw_ a) a.length (fun y hy => (r y (by omega)).2), FY_cong (S := rw_ a) a.length (fun y hy => (r y (by omega)).1), z1, z2]
  simp
theorem zM {w : Nat} {f : Nat → Int} (h : ∀ k, k < w → f k = 0) : pM (mk w f) w = 0 ∧ pX (mk w f) w = 0 := by
  have h1 := pM_mk (w := w) (f := f) (r := []) w (Nat.le_refl _) (fun k hk => by rw [h k hk]; rfl)
  have h2 := pX_mk (w := w) (f := f) (r := []) w (Nat.le_refl _) (fun k hk => by rw [h k hk]; rfl)
  have z2 : ∀ k, pX [] k = 0 := fun k => by
    induction k with
    | zero => rfl
    | succ k ih => simp only [pX, ih]; simp
  rw [h1, h2, z2, pM_zero (by simp)]; exact ⟨rfl, rfl⟩
theorem FM_imgB (h : ImgOk a w) (down : Bool) : SM (imgB down a w) = SM a ∧ SX (imgB down a w) = SX a + (if down then 0 else SM a) ∧ SY (imgB down a w) = SY a + (if down then SM a else 0) := by
  have hl : (imgB down a w).length = a.length + 1 := img_len _ _ _
  have e : ∀ y, y ≤ a.length → (rw_ (imgB down a w) y).length = w + 1 ∧ rw_ (imgB down a w) y = mk (w + 1) (gB down a y) := fun y hy => by
    unfold imgB
    exact ⟨rlen (by omega), rw_img (by omega)⟩
  cases down with
  | true =>
    have z : pM (rw_ (imgB true a w) 0) (rw_ (imgB true a w) 0).length = 0 ∧ pX (rw_ (imgB true a w) 0) (rw_ (imgB true a w) 0).length = 0 := by
      rw [(e 0 (by omega)).1, (e 0 (by omega)).2]
      exact zM fun k _ => by simp [gB]
    have r : ∀ y, y < a.length → pM (rw_ (imgB true a w) (y + 1)) (rw_ (imgB true a w) (y + 1)).length = pM (rw_ a y) (rw_ a y).length ∧ pX (rw_ (imgB true a w) (y + 1)) (rw_ (imgB true a w) (y + 1)).length = pX (rw_ a y) (rw_ a y).length := fun y hy => by
      rw [(e (y + 1) (by omega)).1, (e (y + 1) (by omega)).2]
      have : gB true a (y + 1) = gA a y := by funext k; simp [gB, gA]
      rw [this]
      exact rowA h (by omega)
    unfold SM SX SY
    rw [hl, FM_down (S := rw_ a) z.1 a.length (fun y hy => (r y hy).1), FX_down (S := rw_ a) z.2 a.length (fun y hy => (r y hy).2), FY_down (S := rw_ a) z.1 a.length (fun y hy => (r y hy).1)]
    simp
  | false =>
    have r : ∀ y, y < a.length → pM (rw_ (imgB false a w) y) (rw_ (imgB false a w) y).length = pM (rw_ a y) (rw_ a y).length ∧ pX (rw_ (imgB false a w) y) (rw_ (imgB false a w) y).length = pX (rw_ a y) (rw_ a y).length + pM (rw_ a y) (rw_ a y).length := fun y hy => by
      rw [(e y (by omega)).1, (e y (by omega)).2, h.rows y hy]
      exact ⟨pM_shift w (by omega) (by simp [gB]) (fun k _ => by simp [gB]), pX_shift w (by omega) (by simp [gB]) (fun k _ => by simp [gB])⟩
    have z : pM (rw_ (imgB false a w) a.length) (rw_ (imgB false a w) a.length).length = 0 ∧ pX (rw_ (imgB false a w) a.length) (rw_ (imgB false a w) a.length).length = 0 := by
      rw [(e a.length (by omega)).1, (e a.length (by omega)).2]
      exact zM fun k _ => by
        simp only [gB, rw_out (Nat.le_refl a.length)]; simp
    unfold SM SX SY
    rw [hl, FM, FX, FY, FM_cong (S := rw_ a) a.length (fun y hy => (r y hy).1), FX_add (S := rw_ a) a.length (fun y hy => (r y hy).2), FY_cong (S := rw_ a) a.length (fun y hy => (r y hy).1), z.1, z.2]
    simp
theorem img_ok {g : Nat → Nat → Int} {h w : Nat} (h1 : 1 ≤ h) (h2 : h ≤ 10) (w1 : 1 ≤ w) (w2 : w ≤ 10) (hg : ∀ y k, 0 ≤ g y k ∧ g y k ≤ 255) (hs : SM (img g h w) ≠ 0) : ImgOk (img g h w) w := by
  refine ⟨by rw [img_len]; exact h1, by rw [img_len]; exact h2, w1, w2, fun y hy => ?_, fun y hy => ?_, hs⟩
  · rw [img_len] at hy; exact rlen hy
  · rw [img_len] at hy
    rw [rw_img hy]
    intro j
    rw [mk_getD0]
    by_cases hj : j < w
    · rw [if_pos hj]; exact hg y j
    · rw [if_neg hj]; omega
theorem imgA_ok (h : ImgOk a w) (hl : a.length ≤ 9) (hw : w ≤ 9) : ImgOk (imgA a w) (w + 1) :=
  img_ok (by omega) (by omega) (by omega) (by omega) (fun y k => pix_ok h y k) (by rw [show SM (img (gA a) (a.length + 1) (w + 1)) = SM a from (FM_img h).1]; exact h.sum)
theorem imgB_ok (h : ImgOk a w) (hl : a.length ≤ 9) (hw : w ≤ 9) (down : Bool) : ImgOk (imgB down a w) (w + 1) :=
  img_ok (by omega) (by omega) (by omega) (by omega) (fun y k => by
    unfold gB
    cases down <;> simp only [if_true, if_false, Bool.false_eq_true]
    · by_cases hk : 0 < k
      · rw [if_pos hk]; exact pix_ok h y (k - 1)
      · rw [if_neg hk]; omega
    · by_cases hk : 0 < y
      · rw [if_pos hk]; exact pix_ok h (y - 1) k
      · rw [if_neg hk]; omega) (by rw [show SM (img (gB down a) (a.length + 1) (w + 1)) = SM a from (FM_imgB h down).1]; exact h.sum)
end

/-! ### comparing -/
theorem Cmp_whole {n d k : Int} (hn : n.natAbs ≤ 1000000000) (hd : d.natAbs ≤ 1000000000) (hk : k.natAbs ≤ 1000) :
    base_Cmp (n, d, ()) (k, 1, ()) = some (if n < k * d then -1 else if n > k * d then 1 else 0) := by
  have h1 : (k * d).natAbs ≤ 1000000000000 := by
    rw [Int.natAbs_mul]; exact Nat.le_trans (Nat.mul_le_mul hk hd) (by omega)
  unfold base_Cmp
  simp only [Int.mul_one]
  rw [w64_id (n := n) (by omega) (by omega), w64_id (n := k * d) (by omega) (by omega)]
  by_cases c1 : n < k * d
  · simp [c1]
  · by_cases c2 : n > k * d
    · simp [c1, c2]
    · simp [c1, c2]
theorem fr_small {n d : Int} {N D : Nat} (hn : n.natAbs ≤ N) (hd : d.natAbs ≤ D) : (fr n d).1.natAbs ≤ N ∧ (fr n d).2.natAbs ≤ D := by
  unfold fr
  simp only [Int.natAbs_tdiv]
  exact ⟨Nat.le_trans (Nat.div_le_self _ _) hn, Nat.le_trans (Nat.div_le_self _ _) hd⟩
theorem fr_le {n d k : Int} (hd : 0 < d) (h : n ≤ k * d) : (fr n d).1 ≤ k * (fr n d).2 := by
  obtain ⟨_, g, hg, e1, e2⟩ := fr_den (n := n) hd
  apply Int.le_of_mul_le_mul_left (a := g) _ hg
  rw [e1, Int.mul_left_comm, e2]; exact h
theorem fr_ge {n d : Int} (hd : 0 < d) (h : 0 ≤ n) : 0 ≤ (fr n d).1 := by
  obtain ⟨_, g, hg, e1, e2⟩ := fr_den (n := n) hd
  apply Int.le_of_mul_le_mul_left (a := g) _ hg
  rw [e1]; simpa using h

section
variable {a : List (List Int)} {w : Nat}
theorem gA_out (h : ImgOk a w) {y k : Nat} (hk : w ≤ k ∨ a.length ≤ y) : gA a y k = 0 := by
  unfold gA
  by_cases hy : y < a.length
  · exact getD_over (by rw [h.rows y hy]; omega)
  · rw [rw_out (by omega)]; simp
def pA (a : List (List Int)) (w y x : Nat) : List Int := mk (w + 1) fun k => if k < x then gA a y k else 0
def pB (down : Bool) (a : List (List Int)) (w y x : Nat) : List Int := mk (w + 1) fun k => if k < x + (if down then 0 else 1) then gB down a y k else 0
theorem pA_zero {y : Nat} : pA a w y 0 = mk (w + 1) fun _ => 0 := mk_congr fun k _ => by simp
theorem pB_zero {y : Nat} (down : Bool) : pB down a w y 0 = mk (w + 1) fun _ => 0 := mk_congr fun k hk => by
  cases down with
  | true => simp
  | false =>
    by_cases h0 : k = 0
    · subst h0; simp [gB]
    · simp [h0]
theorem pA_end {y : Nat} (h : ImgOk a w) : pA a w y w = mk (w + 1) (gA a y) := mk_congr fun k hk => by
  by_cases h1 : k < w
  · rw [if_pos h1]
  · rw [if_neg h1, gA_out h (.inl (by omega))]
theorem pB_end {y : Nat} (h : ImgOk a w) (down : Bool) : pB down a w y w = mk (w + 1) (gB down a y) := mk_congr fun k hk => by
  cases down with
  | false => simp only [Bool.false_eq_true, if_false]; rw [if_pos hk]
  | true =>
    simp only [if_true]
    by_cases h1 : k < w + 0
    · rw [if_pos h1]
    · rw [if_neg h1]
      simp only [gB, if_true]
      by_cases h2 : 0 < y
      · rw [if_pos h2]; exact (gA_out (y := y - 1) h (.inl (by omega))).symm
      · rw [if_neg h2]
theorem pA_set {y x : Nat} : (pA a w y x).set x (gA a y x) = pA a w y (x + 1) := mk_set (by simp) fun k _ hk => by
  by_cases h1 : k < x
  · rw [if_pos h1, if_pos (by omega)]
  · rw [if_neg h1, if_neg (by omega)]
theorem pA_keep (h : ImgOk a w) {y x : Nat} (hy : a.length ≤ y) : pA a w y x = pA a w y (x + 1) := mk_congr fun k hk => by
  rw [gA_out h (.inr hy)]; simp
theorem pB_down {y x : Nat} (hy : 0 < y) : (pB true a w y x).set x (gA a (y - 1) x) = pB true a w y (x + 1) := mk_set (by simp [gB, gA, hy]) fun k _ hk => by
  simp only [if_true, Nat.add_zero]
  by_cases h1 : k < x
  · rw [if_pos h1, if_pos (by omega)]
  · rw [if_neg h1, if_neg (by omega)]
theorem pB_down0 {x : Nat} : pB true a w 0 x = pB true a w 0 (x + 1) := mk_congr fun k hk => by simp [gB]
theorem pB_right {y x : Nat} : (pB false a w y x).set (x + 1) (gA a y x) = pB false a w y (x + 1) := mk_set (by simp [gB, gA]) fun k _ hk => by
  simp only [Bool.false_eq_true, if_false]
  by_cases h1 : k < x + 1
  · rw [if_pos h1, if_pos (by omega)]
  · rw [if_neg h1, if_neg (by omega)]
theorem pB_keep (h : ImgOk a w) {y x : Nat} (hy : a.length ≤ y) : pB false a w y x = pB false a w y (x + 1) := mk_congr fun k hk => by
  have : gB false a y k = 0 := by simp only [gB, Bool.false_eq_true, if_false, rw_out hy]; simp
  rw [this]; simp

/-- the loop that pads -/
theorem pad_eq (h : ImgOk a w) (hl : a.length ≤ 9) (hw : w ≤ 9) (down : Bool) {ρ : Type} {K : List (List Int) × List (List Int) → Option ρ} :
    ((loopO (fun (s9 : ((List (List Int)) × (List (List Int)) × Int)) =>
          bif decide (s9.2.2 ≤ (a.length : Int)) then
            (idx a 0).bind fun x10 =>
            (mkS (0 : Int) (w64 ((x10.length : Int) + 1))).bind fun x11 =>
            bif decide (w64 ((x10.length : Int) + 1) = w64 ((x10.length : Int) + 1)) then
              (idx a 0).bind fun x12 =>
              (mkS (0 : Int) (w64 ((x12.length : Int) + 1))).bind fun x13 =>
              bif decide (w64 ((x12.length : Int) + 1) = w64 ((x12.length : Int) + 1)) then
                (loopO (fun (s15 : ((List Int) × (List Int) × Int)) =>
                    (idx a 0).bind fun x16 =>
                    bif decide (s15.2.2 < (x16.length : Int)) then
                      (bif decide (s9.2.2 < (a.length : Int)) then
                          (idx a s9.2.2).bind fun x17 =>
                          (idx x17 s15.2.2).bind fun x18 =>
                          (idx s15.1 s15.2.2).bind fun x19 =>
                          (idx s15.1 s15.2.2).bind fun x20 =>
                          let l21 : (List Int) := List.set s15.1 s15.2.2.toNat x18
                          some l21
                        else
                          some s15.1).bind fun (p22 : (List Int)) =>
                      (bif down then
                          some (decide (s9.2.2 > 0))
                        else
                          some false).bind fun (p23 : Bool) =>
                      (bif p23 then
                          (idx a (w64 (s9.2.2 - 1))).bind fun x24 =>
                          (idx x24 s15.2.2).bind fun x25 =>
                          (idx s15.2.1 s15.2.2).bind fun x26 =>
                          (idx s15.2.1 s15.2.2).bind fun x27 =>
                          let l28 : (List Int) := List.set s15.2.1 s15.2.2.toNat x25
                          some l28
                        else
                          some s15.2.1).bind fun (p29 : (List Int)) =>
                      (bif !down then
                          some (decide (s9.2.2 < (a.length : Int)))
                        else
                          some false).bind fun (p30 : Bool) =>
                      (bif p30 then
                          (idx a s9.2.2).bind fun x31 =>
                          (idx x31 s15.2.2).bind fun x32 =>
                          (idx p29 (w64 (s15.2.2 + 1))).bind fun x33 =>
                          (idx p29 (w64 (s15.2.2 + 1))).bind fun x34 =>
                          let l35 : (List Int) := List.set p29 (w64 (s15.2.2 + 1)).toNat x32
                          some l35
                        else
                          some p29).bind fun (p36 : (List Int)) =>
                      some (.inl (p22, p36, w64 (s15.2.2 + 1)))
                    else
                      some (.inr (s15.1, s15.2.1))) (x11, x13, 0)).bind fun (p37 : ((List Int) × (List Int))) =>
                (app s9.1 ([p37.1])).bind fun x38 =>
                (app s9.2.1 ([p37.2])).bind fun x39 =>
                some (.inl (x38, x39, w64 (s9.2.2 + 1)))
              else
                none
            else
              none
          else
            some (.inr (s9.1, s9.2.1))) ([], [], 0)).bind K) = K (imgA a w, imgB down a w) := by
  have hw0 := h.rows 0 (by have := h.len1; omega)
  have h0 : idx a 0 = some (rw_ a 0) := by rw [idx_zero]; exact rw_at (by have := h.len1; omega)
  have hc : w64 ((w : Int) + 1) = ((w + 1 : Nat) : Int) := by rw [w64_id (by omega) (by omega)]; rfl
  have hms : mkS (0 : Int) ((w + 1 : Nat) : Int) = some (mk (w + 1) fun _ => 0) := mkS_eq rfl (by omega)
  refine loop_bind (P := fun o => o = K (imgA a w, imgB down a w)) (a.length + 1) (fun i s => s = (mk i (fun y => mk (w + 1) (gA a y)), mk i (fun y => mk (w + 1) (gB down a y)), (i : Int)))
    (fun q => q = (imgA a w, imgB down a w)) rfl ?_ (fun q hq => by rw [hq])
  rintro y s hy rfl
  by_cases hyl : y < a.length + 1
  case neg =>
    right
    have : y = a.length + 1 := by omega
    subst this
    refine ⟨(imgA a w, imgB down a w), ?_, rfl⟩
    have : ¬ (((a.length + 1 : Nat) : Int) ≤ (a.length : Int)) := by omega
    simp only [this, decide_false, cond_false]; rfl
  left
  refine ⟨(mk (y + 1) (fun y => mk (w + 1) (gA a y)), mk (y + 1) (fun y => mk (w + 1) (gB down a y)), ((y + 1 : Nat) : Int)), ?_, hyl, rfl⟩
  have hyc : (y : Int) ≤ (a.length : Int) := by omega
  simp only [hyc, h0, hw0, hc, hms, Option.bind_some, decide_true, cond_true]
  refine loop_bind (P := fun o => o = _) w (fun x s => s = (pA a w y x, pB down a w y x, (x : Int))) (fun q => q = (pA a w y w, pB down a w y w)) (by rw [pA_zero, pB_zero]; rfl) ?_ (fun q hq => ?_)
  · rintro x s hx rfl
    by_cases hxw : x < w
    case neg =>
      right
      have : x = w := by omega
      subst this
      have : ¬ ((x : Int) < (x : Int)) := by omega
      exact ⟨_, by simp only [this, decide_false, cond_false], rfl⟩
    left
    refine ⟨(pA a w y (x + 1), pB down a w y (x + 1), ((x + 1 : Nat) : Int)), ?_, hxw, rfl⟩
    have hxc : (x : Int) < (w : Int) := by omega
    have hw1 : w64 ((x : Int) + 1) = ((x + 1 : Nat) : Int) := by rw [w64_id (by omega) (by omega)]; rfl
    have iA : idx (pA a w y x) (x : Int) = some (if x < x then gA a y x else 0) := idx_of (mk_get _ (by omega))
    have iB : idx (pB down a w y x) (x : Int) = some (if x < x + (if down then 0 else 1) then gB down a y x else 0) := idx_of (mk_get _ (by omega))
    have iB1 : idx (pB down a w y x) ((x + 1 : Nat) : Int) = some (if x + 1 < x + (if down then 0 else 1) then gB down a y (x + 1) else 0) := idx_of (mk_get _ (by omega))
    have row : ∀ z, z < a.length → idx (rw_ a z) (x : Int) = some (gA a z x) := fun z hz => idx_of (px_at (by rw [h.rows z hz]; exact hxw))
    have tn : ((x : Int)).toNat = x := Int.toNat_natCast x
    have tn1 : (((x + 1 : Nat) : Int)).toNat = x + 1 := Int.toNat_natCast (x + 1)
    simp only [hxc, decide_true, cond_true, hw1]
    by_cases hyt : y < a.length
    · have iy : idx a (y : Int) = some (rw_ a y) := idx_of (rw_at hyt)
      have hyi : (y : Int) < (a.length : Int) := by omega
      simp only [hyi, decide_true, cond_true, iy, row y hyt, iA, Option.bind_some, tn, pA_set]
      cases down with
      | true =>
        by_cases hy0 : 0 < y
        · have hyg : (y : Int) > 0 := by omega
          have hm : w64 ((y : Int) - 1) = ((y - 1 : Nat) : Int) := by rw [w64_id (by omega) (by omega)]; omega
          have iy1 : idx a ((y - 1 : Nat) : Int) = some (rw_ a (y - 1)) := idx_of (rw_at (by omega))
          simp only [cond_true, hyg, decide_true, Option.bind_some, hm, iy1, row (y - 1) (by omega), iB, Bool.not_true, cond_false, pB_down hy0]
        · have : y = 0 := by omega
          subst this
          simp only [cond_true, show decide (((0 : Nat) : Int) > 0) = false from rfl, Option.bind_some, Bool.not_true, cond_false]
          rw [← pB_down0]
      | false =>
        simp only [cond_false, Option.bind_some, Bool.not_false, cond_true, iB1, tn1, pB_right]
    · have hyi : ¬ (y : Int) < (a.length : Int) := by omega
      simp only [hyi, decide_false, cond_false, Option.bind_some]
      rw [← pA_keep h (by omega)]
      cases down with
      | true =>
        have hy0 : 0 < y := by have := h.len1; omega
        have hyg : (y : Int) > 0 := by omega
        have hm : w64 ((y : Int) - 1) = ((y - 1 : Nat) : Int) := by rw [w64_id (by omega) (by omega)]; omega
        have iy1 : idx a ((y - 1 : Nat) : Int) = some (rw_ a (y - 1)) := idx_of (rw_at (by omega))
        simp only [cond_true, hyg, decide_true, Option.bind_some, hm, iy1, row (y - 1) (by omega), iB, Bool.not_true, cond_false, tn, pB_down hy0]
      | false =>
        simp only [cond_false, Option.bind_some, Bool.not_false, cond_true]
        rw [← pB_keep h (by omega)]
  · subst hq
    simp only
    rw [app_of (by simp [mk_len]; omega), Option.bind_some, app_of (by simp [mk_len]; omega), Option.bind_some, pA_end h, pB_end h, mk_succ, mk_succ, w64_id (by omega) (by omega)]
    rfl
end

theorem ImgOk.same {a : List (List Int)} {w : Nat} (h : ImgOk a w) : (rw_ a 0).length = w := h.rows 0 (by have := h.len1; omega)
theorem MovedErr_eq {a b : List (List Int)} {w : Nat} (h : ImgOk a w) (ha : ref07_ImageErr a = some 0) (h1 : b.length ≤ 12) (h2 : ∀ y, y < b.length → (rw_ b y).length ≤ 12) :
    ∃ e, ref07_MovedErr a b = some e ∧ (e = 0 → ImgOk b w ∧ a.length = b.length) := by
  unfold ref07_MovedErr
  obtain ⟨e, he, hw⟩ := ImageErr_eq h1 h2
  rw [ha, he]
  simp only [Option.bind_some, decide_true, Bool.not_true, cond_false]
  by_cases e0 : e = 0
  case neg => exact ⟨e, by simp only [e0, decide_false, Bool.not_false, cond_true], fun h => absurd h e0⟩
  subst e0
  obtain ⟨w', hb⟩ := hw rfl
  simp only [decide_true, Bool.not_true, cond_false]
  by_cases hl : (a.length : Int) = (b.length : Int)
  case neg => exact ⟨13, by simp [hl], by omega⟩
  have la := h.len1
  have lb := hb.len1
  simp only [hl, decide_true, Bool.not_true, cond_false]
  rw [idx_zero, idx_zero, rw_at (by omega), rw_at (by omega)]
  simp only [Option.bind_some, h.same, hb.same]
  by_cases hww : (w : Int) = (w' : Int)
  case neg => exact ⟨13, by simp [hww], by omega⟩
  have : w' = w := by omega
  subst this
  exact ⟨0, by simp, fun _ => ⟨hb, by omega⟩⟩

theorem SensorCenters_eq (a b : List (List Int)) (down : Bool) (ha : a.length ≤ 9223372036854775807) (hb : b.length ≤ 9223372036854775807) : law07_SensorCenters a b down = some true := by
  unfold law07_SensorCenters
  obtain ⟨i1, hi1, hI1⟩ := images_eq ha
  obtain ⟨i2, hi2, hI2⟩ := images_eq hb
  rw [show law07_awake = some true from rfl, hi1, hi2]
  simp only [Option.bind_some, Bool.not_true, cond_false]
  cases i1 with
  | false => simp
  | true =>
  cases i2 with
  | false => simp
  | true =>
  obtain ⟨a1, a2⟩ := hI1 rfl
  obtain ⟨b1, b2⟩ := hI2 rfl
  obtain ⟨e, he, hw⟩ := ImageErr_eq a1 a2
  rw [he]
  simp only [Option.bind_some, Bool.not_true, cond_false]
  by_cases e0 : e = 0
  case neg => simp [e0]
  subst e0
  obtain ⟨w, h⟩ := hw rfl
  simp only [decide_true, Bool.not_true, cond_false]
  by_cases hl9 : (a.length : Int) > 9
  · simp [hl9]
  have h0 : idx a 0 = some (rw_ a 0) := by rw [idx_zero]; exact rw_at (by have := h.len1; omega)
  rw [h0]
  simp only [hl9, decide_false, cond_false, Option.bind_some, h.same]
  by_cases hw9 : (w : Int) > 9
  · simp [hw9]
  simp only [hw9, decide_false, cond_false]
  have hw1 := h.w1
  have hl1 := h.len1
  have hA := imgA_ok h (by omega) (by omega)
  have hB := imgB_ok h (by omega) (by omega) down
  obtain ⟨sA1, sA2, sA3⟩ := FM_img h
  obtain ⟨sB1, sB2, sB3⟩ := FM_imgB h down
  obtain ⟨m1, m2, m3⟩ := h.bd
  have P := fun K => pad_eq (ρ := Bool) (K := K) h (by omega) (by omega) down
  simp only [decide_true, decide_false, cond_false, cond_true, Option.bind_some, h0, h.same] at P
  simp only [cond_true]
  rw [P]
  have cA : base_CopyLists (imgA a w) = some (imgA a w) := CopyLists_eq (by have := hA.len2; omega) fun y hy => by rw [hA.rows y hy]; omega
  have cB : base_CopyLists (imgB down a w) = some (imgB down a w) := CopyLists_eq (by have := hB.len2; omega) fun y hy => by rw [hB.rows y hy]; omega
  have hlAB : (imgA a w).length = (imgB down a w).length := by unfold imgA imgB; rw [img_len, img_len]
  have hMM : 0 < SM a * SM a := Int.mul_pos m1.1 m1.1
  rw [cA, cB]
  simp only [Option.bind_some]
  rw [CenterOf_eq hA]
  simp only [Option.bind_some]
  rw [MovedBy_eq hA hB hlAB]
  simp only [Option.bind_some]
  rw [MovedBy_eq hA hA rfl]
  simp only [Option.bind_some, sA1, sA2, sA3, sB1, sB2, sB3, Int.sub_self, fr_zero hMM]
  have x1 := fr_den (n := SX a) m1.1
  have x2 := fr_den (n := SY a) m1.1
  have f1 := fr_small (n := SX a) (d := SM a) (N := 255000) (D := 25500) (by omega) (by omega)
  have f2 := fr_small (n := SY a) (d := SM a) (N := 255000) (D := 25500) (by omega) (by omega)
  have g1 := fr_ge m1.1 m2.1
  have g2 := fr_ge m1.1 m3.1
  have l1 : (fr (SX a) (SM a)).1 ≤ ((w : Int) - 1) * (fr (SX a) (SM a)).2 := fr_le m1.1 (FX_le hw1 a.length fun y hy => ⟨h.px y hy, by rw [h.rows y hy]; omega⟩)
  have l2 : (fr (SY a) (SM a)).1 ≤ ((a.length : Int) - 1) * (fr (SY a) (SM a)).2 := fr_le m1.1 (FY_le hl1 a.length (Nat.le_refl _) fun y hy => h.px y hy)
  generalize fr (SX a) (SM a) = cx at x1 f1 g1 l1
  generalize fr (SY a) (SM a) = cy at x2 f2 g2 l2
  obtain ⟨cx1, cx2⟩ := cx
  obtain ⟨cy1, cy2⟩ := cy
  simp only at x1 x2 f1 f2 g1 g2 l1 l2
  have n1 : ¬ cx2 ≤ 0 := by omega
  have n2 : ¬ cy2 ≤ 0 := by omega
  have wh : ∀ k, base_Whole k = some (k, 1, ()) := fun k => rfl
  have q1 : w64 ((w : Int) - 1) = (w : Int) - 1 := w64_id (by omega) (by omega)
  have q2 : w64 ((a.length : Int) - 1) = (a.length : Int) - 1 := w64_id (by omega) (by omega)
  have t1 : base_Cmp (cx1, cx2, ()) (0, 1, ()) = some (if cx1 < 0 * cx2 then -1 else if cx1 > 0 * cx2 then 1 else 0) := Cmp_whole (by omega) (by omega) (by omega)
  have t2 : base_Cmp (cy1, cy2, ()) (0, 1, ()) = some (if cy1 < 0 * cy2 then -1 else if cy1 > 0 * cy2 then 1 else 0) := Cmp_whole (by omega) (by omega) (by omega)
  have t3 : base_Cmp (cx1, cx2, ()) ((w : Int) - 1, 1, ()) = some (if cx1 < ((w : Int) - 1) * cx2 then -1 else if cx1 > ((w : Int) - 1) * cx2 then 1 else 0) := Cmp_whole (by omega) (by omega) (by omega)
  have t4 : base_Cmp (cy1, cy2, ()) ((a.length : Int) - 1, 1, ()) = some (if cy1 < ((a.length : Int) - 1) * cy2 then -1 else if cy1 > ((a.length : Int) - 1) * cy2 then 1 else 0) := Cmp_whole (by omega) (by omega) (by omega)
  have u1 : ¬ (if cx1 < 0 * cx2 then (-1 : Int) else if cx1 > 0 * cx2 then 1 else 0) < 0 := by rw [Int.zero_mul]; split <;> (try split) <;> omega
  have u2 : ¬ (if cy1 < 0 * cy2 then (-1 : Int) else if cy1 > 0 * cy2 then 1 else 0) < 0 := by rw [Int.zero_mul]; split <;> (try split) <;> omega
  have u3 : ¬ (if cx1 < ((w : Int) - 1) * cx2 then (-1 : Int) else if cx1 > ((w : Int) - 1) * cx2 then 1 else 0) > 0 := by split <;> (try split) <;> omega
  have u4 : ¬ (if cy1 < ((a.length : Int) - 1) * cy2 then (-1 : Int) else if cy1 > ((a.length : Int) - 1) * cy2 then 1 else 0) > 0 := by split <;> (try split) <;> omega
  simp only [wh, t1, t2, t3, t4, u1, u2, u3, u4, n1, n2, q1, q2, decide_true, decide_false, Bool.not_true, cond_false, Option.bind_some]
  obtain ⟨er, her, hER⟩ := MovedErr_eq (b := b) h he b1 b2
  have tail : ∀ (p65 : Bool), p65 = false → ((bif p65 then some false else
          (ref07_MovedErr a b).bind fun x66 =>
          bif !(decide (x66 = 0)) then
            some true
          else
            (base_CopyLists a).bind fun x67 =>
            (base_CopyLists b).bind fun x68 =>
            (sensor_MovedBy x67 x68).bind fun x69 =>
            (base_CopyLists b).bind fun x70 =>
            (base_CopyLists a).bind fun x71 =>
            (sensor_MovedBy x70 x71).bind fun x72 =>
            (bif decide (x69.2 = 0) then
                bif decide (x72.2 = 0) then
                  bif decide (x69.1.1 = w64 (0 - x72.1.1)) then
                    bif decide (x69.1.2.1 = x72.1.2.1) then
                      bif decide (x69.1.2.2.1 = w64 (0 - x72.1.2.2.1)) then
                        some (decide (x69.1.2.2.2.1 = x72.1.2.2.2.1))
                      else
                        some false
                    else
                      some false
                  else
                    some false
                else
                  some false
              else
                some false).bind fun (p73 : Bool) =>
            some p73) : Option Bool) = some true := by
    rintro _ rfl
    simp only [cond_false]
    rw [her]
    simp only [Option.bind_some]
    by_cases er0 : er = 0
    case neg => simp [er0]
    obtain ⟨hb', hlb⟩ := hER er0
    subst er0
    obtain ⟨k1, k2, k3⟩ := hb'.bd
    have ca : base_CopyLists a = some a := CopyLists_eq (by omega) fun y hy => by rw [h.rows y hy]; omega
    have cb : base_CopyLists b = some b := CopyLists_eq (by omega) fun y hy => by rw [hb'.rows y hy]; omega
    simp only [decide_true, Bool.not_true, cond_false, ca, cb, Option.bind_some]
    rw [MovedBy_eq h hb' hlb]
    simp only [Option.bind_some]
    rw [MovedBy_eq hb' h hlb.symm]
    simp only [Option.bind_some]
    have e1 : SX a * SM b - SX b * SM a = -(SX b * SM a - SX a * SM b) := by omega
    have e2 : SY a * SM b - SY b * SM a = -(SY b * SM a - SY a * SM b) := by omega
    have e3 : SM b * SM a = SM a * SM b := Int.mul_comm _ _
    have y1 := mul_bd k2.1 k2.2 (Int.le_of_lt m1.1) m1.2
    have y2 := mul_bd m2.1 m2.2 (Int.le_of_lt k1.1) k1.2
    have y3 := mul_bd k3.1 k3.2 (Int.le_of_lt m1.1) m1.2
    have y4 := mul_bd m3.1 m3.2 (Int.le_of_lt k1.1) k1.2
    have y5 := mul_bd (Int.le_of_lt m1.1) m1.2 (Int.le_of_lt k1.1) k1.2
    rw [e1, e2, e3, fr_neg, fr_neg]
    have z1 := (fr_small (n := SX b * SM a - SX a * SM b) (d := SM a * SM b) (N := 100000000000) (D := 100000000000) (by omega) (by omega)).1
    have z2 := (fr_small (n := SY b * SM a - SY a * SM b) (d := SM a * SM b) (N := 100000000000) (D := 100000000000) (by omega) (by omega)).1
    generalize (fr (SX b * SM a - SX a * SM b) (SM a * SM b)).1 = r1 at z1
    generalize (fr (SY b * SM a - SY a * SM b) (SM a * SM b)).1 = r2 at z2
    rw [w64_id (n := 0 - -r1) (by omega) (by omega), w64_id (n := 0 - -r2) (by omega) (by omega)]
    simp
  cases down with
  | true =>
    have v1 : (SX a + (if true = true then 0 else SM a)) * SM a - SX a * SM a = 0 := by simp
    have v2 : (SY a + (if true = true then SM a else 0)) * SM a - SY a * SM a = SM a * SM a := by simp only [if_true, Int.add_mul]; omega
    rw [v1, v2, fr_zero hMM, fr_self hMM]
    simp only [decide_true, cond_true, Bool.not_true, cond_false, Option.bind_some]
    exact tail false rfl
  | false =>
    have v1 : (SX a + (if false = true then 0 else SM a)) * SM a - SX a * SM a = SM a * SM a := by simp only [Bool.false_eq_true, if_false, Int.add_mul]; omega
    have v2 : (SY a + (if false = true then SM a else 0)) * SM a - SY a * SM a = 0 := by simp
    rw [v1, v2, fr_zero hMM, fr_self hMM]
    simp only [decide_true, cond_true, Bool.not_true, cond_false, Bool.not_false, Option.bind_some]
    exact tail false rfl
theorem law07_SensorCenters_true : ∀ x : denP ([Ty.sl (.sl I), .sl (.sl I), .bool].map .ty), RngP maxLen [.sl (.sl I), .sl (.sl I), .bool] x → e_law07_SensorCenters.F x = some true := by
  rintro ⟨a0, a1, a2⟩ ⟨⟨h0, _⟩, ⟨h1, _⟩, _⟩
  exact SensorCenters_eq a0 a1 a2 (Nat.le_trans h0 (by decide)) (Nat.le_trans h1 (by decide))
end Go.Proofs.Ytpiggpgocnlomaa
