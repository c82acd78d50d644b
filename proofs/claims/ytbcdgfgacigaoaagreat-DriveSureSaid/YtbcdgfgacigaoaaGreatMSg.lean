/-
  ONE LAW OF A CHAPTER: its program side is run by an interpreter that is proved sound; what it computes is shown to be what the law says. No conditions. Part 7 of 7.
-/
import Derived.Test.YtbcdgfgacigaoaaGreatMSf
set_option linter.unusedSimpArgs false
set_option linter.unusedVariables false
set_option linter.unnecessarySimpa false
section
set_option linter.unusedVariables false
set_option linter.unusedSimpArgs false
namespace Go.Proofs.YtbcdgfgacigaoaaGreat.Mat
open Go Go.Ab Go.Tx Go.Proofs.YtbcdgfgacigaoaaGreat
theorem pos3 {p D : Int} (hp : 0 ≤ p) (h : 6 * p < D) : 0 < D * D * D - 3 * (p * (D * D)) - 12 * (p * p * D) - 24 * (p * p * p) := by
  obtain ⟨e, rfl⟩ : ∃ e, D = 6 * p + e := ⟨D - 6 * p, by omega⟩
  have he : 1 ≤ e := by omega
  have h0 := Int.mul_nonneg hp hp
  have e2 : 0 < e * e := Int.mul_pos (by omega) (by omega)
  have e3 : 0 < e * e * e := Int.mul_pos e2 (by omega)
  have a1 := Int.mul_nonneg h0 hp
  have a2 := Int.mul_nonneg h0 (show 0 ≤ e by omega)
  have a3 := Int.mul_nonneg hp (show 0 ≤ e * e by omega)
  have hx : (6 * p + e) * (6 * p + e) * (6 * p + e) - 3 * (p * ((6 * p + e) * (6 * p + e))) - 12 * (p * p * (6 * p + e)) - 24 * (p * p * p) = 12 * (p * p * p) + 60 * (p * p * e) + 15 * (p * (e * e)) + e * e * e := by grind
  rw [hx]; omega
theorem pos2 {p D : Int} (hp : 0 ≤ p) (h : 4 * p < D) : 0 < D * D - 2 * (p * D) - 4 * (p * p) := by
  obtain ⟨e, rfl⟩ : ∃ e, D = 4 * p + e := ⟨D - 4 * p, by omega⟩
  have he : 1 ≤ e := by omega
  have h0 := Int.mul_nonneg hp hp
  have e2 : 0 < e * e := Int.mul_pos (by omega) (by omega)
  have a2 := Int.mul_nonneg hp (show 0 ≤ e by omega)
  have hx : (4 * p + e) * (4 * p + e) - 2 * (p * (4 * p + e)) - 4 * (p * p) = 4 * (p * p) + 6 * (p * e) + e * e := by grind
  rw [hx]; omega
theorem mulge {p D x : Int} (hD : 0 ≤ D) (h : -p ≤ x) : -(p * D) ≤ x * D := by
  have := Int.mul_le_mul_of_nonneg_right h hD
  rw [Int.neg_mul] at this; exact this
theorem near_unit {n : Nat} (h1 : 1 ≤ n) (hn : n ≤ 3) {D p : Int} (hp : 0 ≤ p) (hD : 2 * (n : Int) * p < D) {P : Nat → Nat → G} (hP : BdF p n n P) : 0 < (detF n fun i k => gadd (diagF D i k) (P i k)).1 := by
  match n, h1, hn with
  | 1, _, _ =>
    rw [det1_eq]
    have h := (hP 0 0 (by omega) (by omega)).1
    show 0 < D + (P 0 0).1
    omega
  | 2, _, _ =>
    rw [det2_eq]
    have a := hP 0 0 (by omega) (by omega)
    have d := hP 1 1 (by omega) (by omega)
    have hm := ((a.mul d).sub ((hP 0 1 (by omega) (by omega)).mul (hP 1 0 (by omega) (by omega)))).1.1
    have e : (gsub (gmul (gadd (diagF D 0 0) (P 0 0)) (gadd (diagF D 1 1) (P 1 1))) (gmul (gadd (diagF D 0 1) (P 0 1)) (gadd (diagF D 1 0) (P 1 0)))).1
      = D * D + ((P 0 0).1 + (P 1 1).1) * D + (gsub (gmul (P 0 0) (P 1 1)) (gmul (P 0 1) (P 1 0))).1 := by
      have d0 : diagF D 0 0 = (D, 0, ()) := rfl
      have d1 : diagF D 1 1 = (D, 0, ()) := rfl
      have d2 : diagF D 0 1 = (0, 0, ()) := rfl
      have d3 : diagF D 1 0 = (0, 0, ()) := rfl
      rw [d0, d1, d2, d3]
      simp only [gadd, gsub, gmul]
      grind
    show 0 < (gsub (gmul (gadd (diagF D 0 0) (P 0 0)) (gadd (diagF D 1 1) (P 1 1))) (gmul (gadd (diagF D 0 1) (P 0 1)) (gadd (diagF D 1 0) (P 1 0)))).1
    rw [e]
    have h2 : 4 * p < D := by omega
    have hb := pos2 hp h2
    have hc := mulge (p := 2 * p) (D := D) (x := (P 0 0).1 + (P 1 1).1) (by omega) (by have := a.1; have := d.1; omega)
    have hx : 2 * p * D = 2 * (p * D) := by grind
    rw [hx] at hc
    generalize hh : p * p = pp at *
    omega
  | 3, _, _ =>
    rw [det3_eq]
    have a := hP 0 0 (by omega) (by omega)
    have b := hP 0 1 (by omega) (by omega)
    have c := hP 0 2 (by omega) (by omega)
    have d := hP 1 0 (by omega) (by omega)
    have e := hP 1 1 (by omega) (by omega)
    have f := hP 1 2 (by omega) (by omega)
    have g := hP 2 0 (by omega) (by omega)
    have h := hP 2 1 (by omega) (by omega)
    have i := hP 2 2 (by omega) (by omega)
    show 0 < (dd (gadd (diagF D 0 0) (P 0 0)) (gadd (diagF D 0 1) (P 0 1)) (gadd (diagF D 0 2) (P 0 2)) (gadd (diagF D 1 0) (P 1 0)) (gadd (diagF D 1 1) (P 1 1)) (gadd (diagF D 1 2) (P 1 2)) (gadd (diagF D 2 0) (P 2 0)) (gadd (diagF D 2 1) (P 2 1)) (gadd (diagF D 2 2) (P 2 2))).1
    have d0 : diagF D 0 0 = (D, 0, ()) := rfl
    have d1 : diagF D 1 1 = (D, 0, ()) := rfl
    have d2 : diagF D 2 2 = (D, 0, ()) := rfl
    have d3 : diagF D 0 1 = (0, 0, ()) := rfl
    have d4 : diagF D 0 2 = (0, 0, ()) := rfl
    have d5 : diagF D 1 0 = (0, 0, ()) := rfl
    have d6 : diagF D 1 2 = (0, 0, ()) := rfl
    have d7 : diagF D 2 0 = (0, 0, ()) := rfl
    have d8 : diagF D 2 1 = (0, 0, ()) := rfl
    rw [d0, d1, d2, d3, d4, d5, d6, d7, d8]
    generalize P 0 0 = A at *
    generalize P 0 1 = B at *
    generalize P 0 2 = C at *
    generalize P 1 0 = D' at *
    generalize P 1 1 = E at *
    generalize P 1 2 = F at *
    generalize P 2 0 = G' at *
    generalize P 2 1 = H at *
    generalize P 2 2 = I' at *
    have hm2 : Bd (3 * (2 * (p * p) + 2 * (p * p))) (gadd (gadd (gsub (gmul A E) (gmul B D')) (gsub (gmul A I') (gmul C G'))) (gsub (gmul E I') (gmul F H))) :=
      ((((a.mul e).sub (b.mul d)).add ((a.mul i).sub (c.mul g))).add ((e.mul i).sub (f.mul h))).mono (by omega)
    have hm3 : Bd (3 * (2 * (p * (2 * (p * p) + 2 * (p * p))))) (dd A B C D' E F G' H I') :=
      (((a.mul ((e.mul i).sub (f.mul h))).sub (b.mul ((d.mul i).sub (f.mul g)))).add (c.mul ((d.mul h).sub (e.mul g)))).mono (by omega)
    have ex : (dd (gadd (D, 0, ()) A) (gadd (0, 0, ()) B) (gadd (0, 0, ()) C) (gadd (0, 0, ()) D') (gadd (D, 0, ()) E) (gadd (0, 0, ()) F) (gadd (0, 0, ()) G') (gadd (0, 0, ()) H) (gadd (D, 0, ()) I')).1
      = D * D * D + (A.1 + E.1 + I'.1) * (D * D) + (gadd (gadd (gsub (gmul A E) (gmul B D')) (gsub (gmul A I') (gmul C G'))) (gsub (gmul E I') (gmul F H))).1 * D + (dd A B C D' E F G' H I').1 := by
      simp only [dd, gadd, gsub, gmul]
      grind (ringSteps := 1000000)
    rw [ex]
    have hDp : 0 ≤ D := by omega
    have h6 : 6 * p < D := by omega
    have hb := pos3 hp h6
    have c1 := mulge (p := 3 * p) (D := D * D) (x := A.1 + E.1 + I'.1) (Int.mul_nonneg hDp hDp) (by have := a.1; have := e.1; have := i.1; omega)
    have c2 := mulge (p := 3 * (2 * (p * p) + 2 * (p * p))) (D := D) hDp hm2.1.1
    have c3 := hm3.1.1
    have x1 : 3 * p * (D * D) = 3 * (p * (D * D)) := by grind
    have x2 : 3 * (2 * (p * p) + 2 * (p * p)) * D = 12 * (p * p * D) := by grind
    have x3 : 3 * (2 * (p * (2 * (p * p) + 2 * (p * p)))) = 24 * (p * p * p) := by grind
    rw [x1] at c1; rw [x2] at c2; rw [x3] at c3
    generalize (A.1 + E.1 + I'.1) * (D * D) = y1 at *
    generalize (gadd (gadd (gsub (gmul A E) (gmul B D')) (gsub (gmul A I') (gmul C G'))) (gsub (gmul E I') (gmul F H))).1 * D = y2 at *
    generalize (dd A B C D' E F G' H I').1 = y3 at *
    generalize D * D * D = z1 at *
    generalize p * (D * D) = z2 at *
    generalize p * p * D = z3 at *
    generalize p * p * p = z4 at *
    omega
theorem gmul_size {x e : G} {s : Int} (hs : 0 ≤ s) (he : Bd s e) : Bd (s * gsize x) (gmul x e) := by
  have h1 := (abs_mul_le (a := x.1) (b := e.1) (A := x.1.natAbs) (B := s) (by omega) he.1)
  have h2 := (abs_mul_le (a := x.2.1) (b := e.2.1) (A := x.2.1.natAbs) (B := s) (by omega) he.2)
  have h3 := (abs_mul_le (a := x.1) (b := e.2.1) (A := x.1.natAbs) (B := s) (by omega) he.2)
  have h4 := (abs_mul_le (a := x.2.1) (b := e.1) (A := x.2.1.natAbs) (B := s) (by omega) he.1)
  have h5 : s * gsize x = (x.1.natAbs : Int) * s + (x.2.1.natAbs : Int) * s := by unfold gsize; grind
  unfold Bd gmul
  simp only
  omega
theorem sum_size {n : Nat} {f : Nat → G} {q : Nat → Int} {s : Int} (h : ∀ k, k < n → Bd (s * q k) (f k)) : Bd (s * sumZ n q) (sumG n f) := by
  induction n with
  | zero => simp only [sumZ, sumG, Int.mul_zero]; exact bd_zero (by omega)
  | succ n ih =>
    simp only [sumZ, sumG]
    have h1 := ih fun k hk => h k (by omega)
    have h2 := h n (by omega)
    rw [Int.mul_add]
    exact h1.add h2
theorem le_maxZ {f : Nat → Int} {n k : Nat} (hk : k < n) : f k ≤ maxZ n f := by
  induction n with
  | zero => omega
  | succ n ih =>
    simp only [maxZ]
    by_cases hkn : k = n
    · subst hkn; omega
    · have := ih (by omega); omega
theorem prod_size {n : Nat} {X E : Nat → Nat → G} {s : Int} (hs : 0 ≤ s) (hE : BdF s n n E) : BdF (s * rsum n n X) n n (prodF n X E) := fun i k hi hk => by
  have h1 : Bd (s * sumZ n fun j => gsize (X i j)) (prodF n X E i k) := sum_size fun j hj => gmul_size hs (hE j k hj hk)
  have h2 : (sumZ n fun j => gsize (X i j)) ≤ rsum n n X := le_maxZ (f := fun i => sumZ n fun j => gsize (X i j)) hi
  exact h1.mono (Int.mul_le_mul_of_nonneg_left h2 hs)
theorem near_det {m : Mx} (h : invE m = 0) {E : Nat → Nat → G} {s : Int} (hs : 0 ≤ s) (hs2 : 2 * (m.length : Int) * rsum m.length m.length (invF m) * s < invD m) (hE : BdF s m.length m.length E) : detF m.length (fun i k => gadd (ent m i k) (E i k)) ≠ g0 := by
  intro h0
  obtain ⟨n1, n3, _, _⟩ := mat_ok (inv_ok h).1
  have h1 := det_mul n3 (invF m) (fun i k => gadd (ent m i k) (E i k))
  rw [h0, gmul_zero] at h1
  have h2 : detF m.length (prodF m.length (invF m) fun i k => gadd (ent m i k) (E i k)) = detF m.length fun i k => gadd (diagF (invD m) i k) (prodF m.length (invF m) E i k) := detF_congr _ fun i k hi hk => by
    rw [prodF_add]
    show _ = gadd (diagF (invD m) i k) (prodF m.length (invF m) E i k)
    rw [inv_left h hi hk]
  rw [h2] at h1
  have hr := rsum_pos h
  have h3 := near_unit n1 n3 (D := invD m) (p := s * rsum m.length m.length (invF m)) (Int.mul_nonneg hs (by omega)) (by
    have e : 2 * (m.length : Int) * (s * rsum m.length m.length (invF m)) = 2 * (m.length : Int) * rsum m.length m.length (invF m) * s := by grind
    rw [e]; exact hs2) (prod_size (X := invF m) hs hE)
  rw [h1] at h3
  exact absurd h3 (by decide)
theorem sure_bd {m : Mx} (h : invE m = 0) : 0 ≤ sureM m ∧ sureM m ≤ 10 ∧ 2 * (m.length : Int) * rsum m.length m.length (invF m) * sureM m < invD m := by
  obtain ⟨n1, n3, mR, mB⟩ := mat_ok (inv_ok h).1
  have hr := rsum_pos h
  have hD := invD_pos h
  have hA := bdM_ent mB mR
  have hden : 0 < 2 * (m.length : Int) * rsum m.length m.length (invF m) := Int.mul_pos (by omega) hr
  have h1 : sureM m = (invD m - 1) / (2 * (m.length : Int) * rsum m.length m.length (invF m)) := by
    unfold sureM
    exact Int.tdiv_eq_ediv_of_nonneg (by omega)
  have h2 : 2 * (m.length : Int) * rsum m.length m.length (invF m) * sureM m ≤ invD m - 1 := by
    rw [h1]; exact Int.mul_ediv_self_le (by omega)
  have h3 : 0 ≤ sureM m := by rw [h1]; exact Int.ediv_nonneg (by omega) (by omega)
  refine ⟨h3, ?_, by omega⟩
  -- the denominator is at most 20 times the row sum
  have h5 : Bd (20 * rsum m.length m.length (invF m)) (prodF m.length (invF m) (ent m) 0 0) := prod_size (X := invF m) (by omega) hA 0 0 (by omega) (by omega)
  rw [inv_left h (by omega) (by omega)] at h5
  have h6 : invD m ≤ 20 * rsum m.length m.length (invF m) := h5.1.2
  false_or_by_contra
  have h7 : 2 * (m.length : Int) * rsum m.length m.length (invF m) * 11 ≤ 2 * (m.length : Int) * rsum m.length m.length (invF m) * sureM m := Int.mul_le_mul_of_nonneg_left (by omega) (by omega)
  have h8 : 2 * 1 * rsum m.length m.length (invF m) ≤ 2 * (m.length : Int) * rsum m.length m.length (invF m) := Int.mul_le_mul_of_nonneg_right (by omega) (by omega)
  omega
def md (a k : Int) : Int := if a.tmod k < 0 then a.tmod k + k else a.tmod k
theorem md_bd {a k : Int} (h0 : 0 < k) : 0 ≤ md a k ∧ md a k < k := by
  have h1 : (a.tmod k).natAbs < k.natAbs := by rw [Int.natAbs_tmod]; exact Nat.mod_lt _ (by omega)
  unfold md
  split <;> omega
theorem Mod_md {a k : Int} (h0 : 0 < k) (hk : k ≤ 1000000000) : base_Mod a k = some (md a k) := by
  have h1 : (a.tmod k).natAbs < k.natAbs := by rw [Int.natAbs_tmod]; exact Nat.mod_lt _ (by omega)
  unfold base_Mod md
  rw [decide_eq_false (show ¬ k = 0 by omega), cond_false]
  by_cases h : a.tmod k < 0
  · rw [decide_eq_true h, cond_true, if_pos h, wid (by omega) (by omega)]; rfl
  · rw [decide_eq_false h, cond_false, if_neg h]; rfl
theorem DeterminantOf_ok {m : Mx} (h : m.length ≤ 1000000000) (hr : ∀ r ∈ m, r.length ≤ 1000000000) (hE : matE m = 0) : drive_DeterminantOf m = some (detM m, 0) := by
  unfold drive_DeterminantOf
  rw [matrixErr_ok h hr, Option.bind_some, decide_eq_true hE, Bool.not_true, cond_false, detM_ok hE]; rfl
theorem cell_lt {n i k : Nat} (hn : n = 1 ∨ n = 2 ∨ n = 3) (hi : i < n) (hk : k < n) : 2 * (i * n + k) + 1 < 2 * n * n ∧ 2 * n * n ≤ 18 := by
  rcases hn with rfl | rfl | rfl <;> omega
theorem cell_row (i n : Nat) : 2 * (i * n + n) = 2 * ((i + 1) * n + 0) := by rw [Nat.add_mul, Nat.one_mul, Nat.add_zero]
def errF (n : Nat) (l : List Int) (s : Int) (i k : Nat) : G := (md (l.getD (2 * (i * n + k)) 0) (2 * s + 1) - s, md (l.getD (2 * (i * n + k) + 1) 0) (2 * s + 1) - s, ())
theorem errF_bd {n : Nat} {l : List Int} {s : Int} (hs : 0 ≤ s) : BdF s n n (errF n l s) := fun i k hi hk => by
  have h1 := md_bd (a := l.getD (2 * (i * n + k)) 0) (k := 2 * s + 1) (by omega)
  have h2 := md_bd (a := l.getD (2 * (i * n + k) + 1) 0) (k := 2 * s + 1) (by omega)
  unfold Bd errF
  simp only
  omega
theorem err_loop {m : Mx} {l : List Int} {s : Int} (hE : matE m = 0) (hs : 0 ≤ s ∧ s ≤ 10) (hl : l.length = 2 * m.length * m.length) :
    loopO (fun (s28 : ((List (List (Int × Int × Unit))) × Int × Int)) =>
                      bif decide (s28.2.2 < (m.length : Int)) then
                        (loopO (fun (s30 : ((List (List (Int × Int × Unit))) × Int × Int)) =>
                            bif decide (s30.2.2 < (m.length : Int)) then
                              (idx l s30.2.1).bind fun x31 =>
                              (base_Mod x31 (w64 ((w64 (2 * s)) + 1))).bind fun x32 =>
                              (idx l (w64 (s30.2.1 + 1))).bind fun x33 =>
                              (base_Mod x33 (w64 ((w64 (2 * s)) + 1))).bind fun x34 =>
                              (idx s30.1 s28.2.2).bind fun x35 =>
                              (idx s30.1 s28.2.2).bind fun x36 =>
                              (idx x36 s30.2.2).bind fun x37 =>
                              (base_GAdd x37 (w64 (x32 - s), w64 (x34 - s), ())).bind fun x38 =>
                              (idx x35 s30.2.2).bind fun x39 =>
                              (idx s30.1 s28.2.2).bind fun x40 =>
                              (idx x40 s30.2.2).bind fun x41 =>
                              let l42 : (List (Int × Int × Unit)) := List.set x40 s30.2.2.toNat x38
                              let l43 : (List (List (Int × Int × Unit))) := List.set s30.1 s28.2.2.toNat l42
                              some (.inl (l43, w64 (s30.2.1 + 2), w64 (s30.2.2 + 1)))
                            else
                              some (.inr (s30.1, s30.2.1))) (s28.1, s28.2.1, 0)).bind fun (p44 : ((List (List (Int × Int × Unit))) × Int)) =>
                        some (.inl (p44.1, p44.2, w64 (s28.2.2 + 1)))
                      else
                        some (.inr s28.1)) (m, 0, 0) = some (mx m.length m.length fun i k => gadd (ent m i k) (errF m.length l s i k)) := by
  obtain ⟨n1, n3, mR, mB⟩ := mat_ok hE
  have hA := bdM_ent mB mR
  have hm := rect_mx mR
  have hEb := errF_bd (n := m.length) (l := l) hs.1
  generalize hf : ent m = f at *
  generalize m.length = n at *
  subst hm
  have hn : n = 1 ∨ n = 2 ∨ n = 3 := by omega
  generalize hnew : (fun i k => gadd (f i k) (errF n l s i k)) = new
  have hnw : ∀ i k, new i k = gadd (f i k) (errF n l s i k) := fun i k => by rw [← hnew]
  rw [wid (n := 2 * s) (by omega) (by omega), wid (n := 2 * s + 1) (by omega) (by omega)]
  refine Ok.eq (loop_up n (fun i (q : Mx × Int × Int) => q = (mx n n (mid new f i 0), ((2 * (i * n + 0) : Nat) : Int), (i : Int))) (fun q => q = mx n n new) ?_ ?_)
  · have e : mx n n (mid new f 0 0) = mx n n f := mx_congr fun a b _ _ => mid_zero _ _ a b
    rw [e]; simp
  · rintro i q hi rfl
    by_cases hlt : i < n
    · have e0 : decide ((i : Int) < (n : Int)) = true := decide_eq_true (by omega)
      simp only [e0, cond_true]
      rw [rnd_bind]
      refine (loop_up n (fun k (q : Mx × Int × Int) => q = (mx n n (mid new f i k), ((2 * (i * n + k) : Nat) : Int), (k : Int))) (fun q => q = (mx n n (mid new f (i + 1) 0), ((2 * ((i + 1) * n + 0) : Nat) : Int))) rfl ?_).mono ?_
      · rintro k q hk rfl
        by_cases hlt2 : k < n
        · have e1 : decide ((k : Int) < (n : Int)) = true := decide_eq_true (by omega)
          simp only [e1, cond_true]
          have hc := cell_lt hn hlt hlt2
          have hnx : 2 * (i * n + k) + 2 = 2 * (i * n + (k + 1)) := by omega
          generalize ht : 2 * (i * n + k) = t at *
          have i1 : idx l (t : Int) = some (l.getD t 0) := idx_of (at_getD 0 (by omega))
          have i2 : idx l ((t + 1 : Nat) : Int) = some (l.getD (t + 1) 0) := idx_of (at_getD 0 (by omega))
          have hrow : idx (mx n n (mid new f i k)) (i : Int) = some (mkL n fun b => mid new f i k i b) := idx_of (mx_at _ hlt)
          have hent : idx (mkL n fun b => mid new f i k i b) (k : Int) = some (f i k) := (idx_of (mkL_get _ hlt2)).trans (congrArg some (mid_here _ _ i k))
          have et : (t : Int) + 1 = ((t + 1 : Nat) : Int) := by omega
          rw [et, wid (n := ((t + 1 : Nat) : Int)) (by omega) (by omega)]
          simp only [i1, i2, hrow, hent, Option.bind_some]
          rw [Mod_md (by omega) (by omega)]
          simp only [Option.bind_some]
          rw [Mod_md (by omega) (by omega)]
          simp only [Option.bind_some]
          have b1 := md_bd (a := l.getD t 0) (k := 2 * s + 1) (by omega)
          have b2 := md_bd (a := l.getD (t + 1) 0) (k := 2 * s + 1) (by omega)
          rw [wid (n := md (l.getD t 0) (2 * s + 1) - s) (by omega) (by omega), wid (n := md (l.getD (t + 1) 0) (2 * s + 1) - s) (by omega) (by omega)]
          have hee : ((md (l.getD t 0) (2 * s + 1) - s, md (l.getD (t + 1) 0) (2 * s + 1) - s, ()) : G) = errF n l s i k := by unfold errF; rw [ht]
          rw [hee, GAdd_ok (hA i k hlt hlt2) (hEb i k hlt hlt2) (by omega)]
          simp only [Option.bind_some, Int.toNat_natCast]
          rw [mid_set new f hlt hlt2 (hnw i k).symm, wid (by omega) (by omega), wid (by omega) (by omega), rnd_inl]
          refine ⟨hlt2, ?_⟩
          rw [← hnx]
          rfl
        · have : k = n := by omega
          subst this
          have e1 : decide ((k : Int) < (k : Int)) = false := by simp
          simp only [e1, cond_false]
          rw [rnd_inr, cell_row]
          congr 1
          exact mx_congr fun a b ha hb => mid_row _ _ hb
      · rintro q rfl
        rw [wid (by omega) (by omega), rnd_inl]
        exact ⟨hlt, rfl⟩
    · have : i = n := by omega
      subst this
      have e0 : decide ((i : Int) < (i : Int)) = false := by simp
      simp only [e0, cond_false]
      rw [rnd_inr]
      exact mx_congr fun a b ha hb => mid_end _ _ ha
theorem dB40 : ∀ n, n ≤ 3 → dB 40 n ≤ 9000000000000000000 := fun n hn => by
  match n, hn with
  | 0, _ => decide
  | 1, _ => decide
  | 2, _ => decide
  | 3, _ => decide
theorem DriveSure_eq (m : Mx) (x : Qt) (l : List Int) : law04_DriveSure m x l = some true := by
  unfold law04_DriveSure
  rw [show law04_awake = some true from rfl, Option.bind_some, Bool.not_true, cond_false]
  refine Ok.eq ?_
  rw [ok_bind]
  refine Ok.mono (P := fun r : Bool => r = false → FewM m 5 ∧ FewM x.2.1 5 ∧ matE m = 0 ∧ ((l.length : Int) = w64 ((w64 (2 * (m.length : Int))) * (m.length : Int)))) ?_ fun r hr => ?_
  · refine Ok.bind (few_ok m) fun y hy => ?_
    cases y with
    | false => exact ok_some.2 (by simp)
    | true =>
      rw [Bool.not_true, cond_false]
      refine Ok.bind (few_ok x.2.1) fun z hz => ?_
      cases z with
      | false => exact ok_some.2 (by simp)
      | true =>
        rw [Bool.not_true, cond_false]
        have h1 := hy rfl
        rw [MatrixErr_ok (by have := h1.1; omega) (fun r h => by have := h1.2 r h; omega), Option.bind_some]
        by_cases hE : matE m = 0
        · rw [decide_eq_true hE, Bool.not_true, cond_false]
          refine ok_some.2 fun h => ⟨h1, hz rfl, hE, ?_⟩
          have h2 : (!decide ((l.length : Int) = w64 ((w64 (2 * (m.length : Int))) * (m.length : Int)))) = false := h
          simpa using h2
        · rw [decide_eq_false hE, Bool.not_false, cond_true]
          exact ok_some.2 (by simp)
  cases r with
  | true => exact ok_some.2 rfl
  | false =>
  obtain ⟨⟨ha5, har⟩, ⟨hb5, hbr⟩, hE, hl⟩ := hr rfl
  rw [cond_false]
  have ha : m.length ≤ 1000000000 := by omega
  have hb : x.2.1.length ≤ 1000000000 := by omega
  have har' : ∀ r ∈ m, r.length ≤ 1000000000 := fun r h => by have := har r h; omega
  have hbr' : ∀ r ∈ x.2.1, r.length ≤ 1000000000 := fun r h => by have := hbr r h; omega
  have hbr2 : ∀ r ∈ x.2.1, r.length ≤ 1000 := fun r h => by have := hbr r h; omega
  obtain ⟨n1, n3, mR, mB⟩ := mat_ok hE
  have hl2 : l.length = 2 * m.length * m.length := by
    have hn : m.length = 1 ∨ m.length = 2 ∨ m.length = 3 := by omega
    rcases hn with h | h | h <;> rw [h] at hl ⊢ <;> rw [wid (n := 2 * _) (by omega) (by omega), wid (by omega) (by omega)] at hl <;> omega
  rw [CopyMatrix_ok ha har', Option.bind_some, DeterminantOf_ok ha har' hE, Option.bind_some, Option.bind_some, InverseOf_ok ha har', Option.bind_some]
  have hgz : (bif decide ((detM m).1 = 0) then (bif decide ((detM m).2.1 = 0) then true else false) else false) = decide (detM m = g0) := geq_dec (detM m) g0
  have hinv : invE m = if detM m = g0 then 11 else 0 := by unfold invE; rw [if_neg (show ¬ (matE m ≠ 0) from fun hh => hh hE)]
  simp only [decide_true, Bool.not_true, cond_false]
  rw [hgz]
  by_cases hz : detM m = g0
  · rw [if_pos hz] at hinv
    rw [decide_eq_true hz, hinv]
    exact ok_some.2 rfl
  rw [if_neg hz] at hinv
  have e11 : decide (invE m = 11) = false := decide_eq_false (by omega)
  rw [decide_eq_false hz, e11]
  simp only [beq_self_eq_true, Bool.not_true, Option.bind_some, cond_false]
  rw [decide_eq_true hinv, Bool.not_true, cond_false]
  have es : (if invE m = 0 then invM m else noQ) = invM m := if_pos hinv
  rw [es]
  have hsh := inv_shape m
  have q1 : (invM m).2.1.length ≤ 1000000000 := by omega
  have q2 : ∀ r ∈ (invM m).2.1, r.length ≤ 1000000000 := fun r hr => by have := hsh.2 r hr; omega
  have q3 : (invM m).2.1.length ≤ 1000 := by omega
  have q4 : ∀ r ∈ (invM m).2.1, r.length ≤ 1000 := fun r hr => by have := hsh.2 r hr; omega
  rw [CopyQuotient_ok q1 q2, Option.bind_some, CheckInverse_ok ha har' q3 q4, Option.bind_some, chk_self hinv]
  simp only [decide_true, Bool.not_true, cond_false, Option.bind_some]
  rw [refCheckInverse_ok ha har' q3 q4, Option.bind_some, chk_self hinv]
  simp only [decide_true, Bool.not_true, cond_false, Option.bind_some]
  rw [CopyQuotient_ok hb hbr', Option.bind_some, CheckInverse_ok ha har' (by omega) hbr2, Option.bind_some, SameQuotient_ok hb hbr', Option.bind_some]
  have hiff : (!(decide ((chkInv m x).2 = 0) == decide (x = invM m))) = false := by
    by_cases hx : x = invM m
    · rw [decide_eq_true hx, hx, chk_self hinv]; rfl
    · rw [decide_eq_false hx, decide_eq_false (show ¬ (chkInv m x).2 = 0 from fun hh => hx (chk_unique hinv hh))]; rfl
  rw [hiff, cond_false, SureError_ok ha har', Option.bind_some]
  obtain ⟨s0, s10, hsl⟩ := sure_bd hinv
  have es2 : (if invE m = 0 then sureM m else 0) = sureM m := if_pos hinv
  rw [es2]
  simp only
  rw [decide_eq_true hinv, Bool.not_true, cond_false, Within_ok, Option.bind_some, decide_eq_true (show 0 ≤ sureM m ∧ sureM m ≤ 1000 by omega), Bool.not_true, Option.bind_some, cond_false]
  rw [err_loop hE ⟨s0, s10⟩ hl2, Option.bind_some]
  have hA := bdM_ent mB mR
  have hEb := errF_bd (n := m.length) (l := l) s0
  have hdet := near_det hinv s0 hsl hEb
  have hnb : BdF 40 m.length m.length (fun i k => gadd (ent m i k) (errF m.length l (sureM m) i k)) := fun i k hi hk => ((hA i k hi hk).add (hEb i k hi hk)).mono (by omega)
  generalize hnew : (fun i k => gadd (ent m i k) (errF m.length l (sureM m) i k)) = new at *
  have r1 : (mx m.length m.length new).length ≤ 1000000000 := by rw [mx_len]; omega
  have r2 : ∀ r ∈ mx m.length m.length new, r.length ≤ 1000000000 := fun r hr => by rw [(mx_rect _ _ _).2 r hr]; omega
  rw [MatrixErr_ok r1 r2, Option.bind_some]
  by_cases hE2 : matE (mx m.length m.length new) = 0
  · rw [decide_eq_true hE2, Bool.not_true, cond_false, DeterminantOf_ok r1 r2 hE2, Option.bind_some]
    have hd2 : detM (mx m.length m.length new) = detF m.length new := by
      unfold detM
      rw [mx_len]
      exact detF_congr _ fun i k hi hk => ent_mx new hi hk
    have hgz2 : (bif decide ((detF m.length new).1 = 0) then (bif decide ((detF m.length new).2.1 = 0) then true else false) else false) = decide (detF m.length new = g0) := geq_dec _ g0
    rw [hd2]
    simp only [decide_true, cond_true]
    rw [hgz2, decide_eq_false hdet]
    exact ok_some.2 rfl
  · rw [decide_eq_false hE2, Bool.not_false, cond_true, refDet12 (B := 40) (by omega) (by omega) hnb (dB40 _ n3), Option.bind_some]
    have hgz2 : (bif decide ((detF m.length new).1 = 0) then (bif decide ((detF m.length new).2.1 = 0) then true else false) else false) = decide (detF m.length new = g0) := geq_dec _ g0
    rw [hgz2, decide_eq_false hdet]
    exact ok_some.2 rfl
end Go.Proofs.YtbcdgfgacigaoaaGreat.Mat
namespace Go.Proofs.YtbcdgfgacigaoaaGreat
open Go Go.Ab Go.Tx
theorem law04_DriveSure_true : ∀ x : denP ([Ty.sl (.sl (.pair I (.pair I .unit))), .pair I (.pair (.sl (.sl (.pair I (.pair I .unit)))) .unit), .sl I].map .ty), RngP maxLen [.sl (.sl (.pair I (.pair I .unit))), .pair I (.pair (.sl (.sl (.pair I (.pair I .unit)))) .unit), .sl I] x → e_law04_DriveSure.F x = some true := by
  rintro ⟨a0, a1, a2⟩ _
  exact Mat.DriveSure_eq a0 a1 a2
end Go.Proofs.YtbcdgfgacigaoaaGreat
end
section
namespace Go.Proofs.YtbcdgfgacigaoaaGreat.driveSure
open Go Go.Ab Go.Tx Go.ChangeShapes Go.WideShapes Go.ChangeAt Go.RowKit
set_option linter.unusedVariables false
theorem hlib : ∀ g h args r, Lb g = some h → h args = some r → CallOk Tryz.prog g args [] r [] := fun g h args r hg hr => by
  unfold Lb at hg
  split at hg
  · rename_i e
    subst e
    cases hg
    cases args with
    | nil => cases hr; exact awake_ok
    | cons a l => cases hr
  · cases hg
set_option maxRecDepth 100000 in
theorem contract (H : Type) (enc : TypeId × Value → H) (W : World) (base : Nat) (args : Array Value) (ds gs : List (DataW H)) (before : List MemPlace)
    (hval : ∀ (j : Nat) t v, Tryz.f11.params[j]? = some t → args[j]? = some v → Value.okWide Tryz.prog W .any base t v)
    (hW : DataW.Whole enc Tryz.prog Tryz.f11.params.toList Rows.driveSureSpec.vars false W args.toList ds gs before) :
    Calls Tryz.prog 11 args W fun e W' => ∃ v, e = .returned v ∧ Rows.driveSureSpec.post enc Tryz.prog Tryz.f11 false true false false W args v W' :=
  law_contract (τs := [(.sl (.sl (.pair I (.pair I .unit)))), (.pair I (.pair (.sl (.sl (.pair I (.pair I .unit)))) .unit)), (.sl I)]) (ts := [22, 87, 78]) (tb := 4) (F := e_law04_DriveSure.F) follows hname hlib laid_out Tryz.func11 (by kernel_rfl) (by kernel_rfl) (by kernel_rfl) (by kernel_rfl) (by kernel_rfl) (by kernel_rfl) Tryz.underlying4 o_law04_DriveSure law04_DriveSure_true rfl
    (fun H ds h => by
      match ds, h with
      | [d1, d2, d3], _ => rfl) H enc W base args ds gs before hval hW
set_option maxRecDepth 100000 in
theorem lifted (os : Os) (started : os.Started) (H : Type) (enc : TypeId × Value → H) :
    ReturnsInHanded {} Tryz.checked os 11 .any (Rows.driveSureSpec.pre6 enc Tryz.prog Tryz.f11 Rows.driveSureRow.domain false) (Rows.driveSureSpec.post enc Tryz.prog Tryz.f11 false true false false) := by
  refine returnsInHanded_of_change (C := Tryz.checked) own started (by kernel_rfl) Tryz.func11
    (ChangeSpec.witness6 (enc := enc) (C := Tryz.checked) false ⟨#[], #[.slice none 0 0, .agg #[.int .i64 0, .slice none 0 0], .slice none 0 0], []⟩ 8 (by kernel_rfl) (by kernel_rfl) (by kernel_rfl) (by kernel_rfl)) ?_
  intro W base args ds gs before hval hW _ _
  exact contract H enc W base args ds gs before hval hW
theorem proved : Rows.DriveSureSaid :=
  OpenClaim.holds_of_wide 11 Tryz.f11 rfl rfl rfl rfl rfl rfl rfl ⟨rfl, rfl, rfl, rfl, rfl⟩ rfl rfl rfl rfl rfl (by kernel_rfl) Tryz.func11 (by kernel_rfl)
    (of_decide_eq_true (by kernel_rfl)) (by unfold Func.isWrapper; first | (rw [if_pos (by decide +kernel)]; kernel_rfl) | (rw [if_neg (by decide +kernel)]; exact ⟨rfl, rfl⟩))
    (fun os started H enc _ => lifted os started H enc)
end Go.Proofs.YtbcdgfgacigaoaaGreat.driveSure
end
