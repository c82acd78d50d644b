/-
  ONE LAW OF A CHAPTER: its program side is run by an interpreter that is proved sound; what it computes is shown to be what the law says. No conditions. Part 7 of 7.
-/
import Derived.Test.YtbcdgfgacigaoaaGreatMdzf
set_option linter.unusedSimpArgs false
set_option linter.unusedVariables false
set_option linter.unnecessarySimpa false
section
namespace Go.Proofs.YtbcdgfgacigaoaaGreat.Mat
open Go Go.Ab Go.Tx Go.Proofs.YtbcdgfgacigaoaaGreat
theorem inv_facts {ρ : Rn} {m : Nat} {w : Int} (hE : EstB ρ m w) : ∃ (g den : Int) (X : Nat -> Nat -> G), drive_matrix_inverse (mx (m + 1) (m + 1) (sF ρ)) (w, 0, ()) = some (den, mx (m + 1) (m + 1) X, ()) /\ 0 < g /\ 0 < den /\ den <= 918330048 /\ den * g = w * w /\ BdF 3779136 (m + 1) (m + 1) X /\
  ∀ i k, i < m + 1 -> k < m + 1 -> gmul (X i k) (g, 0, ()) = gmul (adjF m (sF ρ) i k) (w, 0, ()) := by
 have hm2 : m <= 2 := by have := hE.run.n3; omega
 rw [inverse_ok (by omega) hE.inv];generalize hg : qg (norm ((w, 0, ()) : G)) (mx (m + 1) (m + 1) (invT m (sF ρ) (w, 0, ()))) = g;have w0 := hE.w0;have hnorm : norm ((w, 0, ()) : G) = w * w := by unfold norm; simp
 have hwpos : 0 < w * w := Int.mul_pos w0 w0;have hconj : gconj ((w, 0, ()) : G) = (w, 0, ()) := rfl;have hinv : ∀ i k, invT m (sF ρ) (w, 0, ()) i k = gmul (adjF m (sF ρ) i k) (w, 0, ()) := fun i k => by unfold invT; rw [hconj]
 have hgpos : 0 < g := by rw [<- hg]; exact qg_pos (by rw [hnorm]; omega)
 have hwg : w <= (g : Int) := by
  have hd : w.natAbs ∣ g := by
   rw [<- hg];unfold qg;refine dvd_gcdF ?_ fun x hx => ?_
   ·rw [hnorm, Int.natAbs_mul]; exact Nat.dvd_mul_left _ _
   ·obtain ⟨i, k, hi, hk, h⟩ := mem_parts.1 hx;rw [hinv, gscale] at h;have e : ((w.natAbs : Nat) : Int) = w := by omega
    rw [e];rcases h with h | h <;> rw [h] <;> exact Int.dvd_mul_left _ _
  have := Nat.le_of_dvd hgpos hd;omega
 have hX : ∀ i k, i < m + 1 -> k < m + 1 -> gmul (quotF (g : Int) (invT m (sF ρ) (w, 0, ())) i k) ((g : Int), 0, ()) = gmul (adjF m (sF ρ) i k) (w, 0, ()) := fun i k hi hk => by
  have := quot_mul (f := invT m (sF ρ) (w, 0, ())) (a := norm ((w, 0, ()) : G)) hi hk;rw [hg] at this;rw [this, hinv]
 have hden : (norm ((w, 0, ()) : G)).tdiv (g : Int) * (g : Int) = w * w := by
  have := quot_den (n := m + 1) (c := m + 1) (f := invT m (sF ρ) (w, 0, ())) (a := norm ((w, 0, ()) : G));rw [hg] at this;rw [this, hnorm]
 have hsmall : ∀ {x a : Int}, x * (g : Int) = a * w -> -3779136 <= a /\ a <= 3779136 -> -3779136 <= x /\ x <= 3779136 := fun {x a} hxa ha => by
  have u1 : a * w <= 3779136 * w := Int.mul_le_mul_of_nonneg_right ha.2 (by omega);have u2 : -3779136 * w <= a * w := Int.mul_le_mul_of_nonneg_right ha.1 (by omega);constructor
  ·false_or_by_contra
   have u3 : x * (g : Int) <= -3779137 * (g : Int) := Int.mul_le_mul_of_nonneg_right (by omega) (by omega);omega
  ·false_or_by_contra
   have u3 : 3779137 * (g : Int) <= x * (g : Int) := Int.mul_le_mul_of_nonneg_right (by omega) (by omega);omega
 have hXB : BdF 3779136 (m + 1) (m + 1) (quotF (g : Int) (invT m (sF ρ) (w, 0, ()))) := fun i k hi hk => by
  have h1 := hX i k hi hk;rw [gscale, gscale] at h1;have ha := hE.inv.adj hi hk;exact ⟨hsmall (congrArg (fun z : G => z.1) h1) ha.1, hsmall (congrArg (fun z : G => z.2.1) h1) ha.2⟩
 have hdpos : 0 < (norm ((w, 0, ()) : G)).tdiv (g : Int) := by
  false_or_by_contra
  have u : (norm ((w, 0, ()) : G)).tdiv (g : Int) * (g : Int) <= 0 * (g : Int) := Int.mul_le_mul_of_nonneg_right (by omega) (by omega);omega
 have hdle : (norm ((w, 0, ()) : G)).tdiv (g : Int) <= 918330048 := by
  false_or_by_contra
  have u : 918330049 * (g : Int) <= (norm ((w, 0, ()) : G)).tdiv (g : Int) * (g : Int) := Int.mul_le_mul_of_nonneg_right (by omega) (by omega);have u2 : w * w <= 918330048 * w := Int.mul_le_mul_of_nonneg_right hE.w1 (by omega);omega
 refine ⟨(g : Int), (norm ((w, 0, ()) : G)).tdiv (g : Int), quotF (g : Int) (invT m (sF ρ) (w, 0, ())), ?_, by omega, hdpos, hdle, hden, hXB, hX⟩;unfold quotQ;rw [hg]
def cRow (ρ : Rn) (o : Nat) : Nat -> Nat -> G := fun _ k => tF ρ o k
def cCol (ρ : Rn) (o : Nat) : Nat -> Nat -> G := fun j _ => gconj (tF ρ o j)
def numA (ρ : Rn) (m o : Nat) : Int := (prodF (m + 1) (prodF (m + 1) (cRow ρ o) (adjF m (sF ρ))) (cCol ρ o) 0 0).1
def coh (ρ : Rn) (m : Nat) (w : Int) (o : Nat) : G := lw (numA ρ m o) (w * pwN ρ o)
theorem row_bd {ρ : Rn} {m : Nat} {w : Int} (h : EstB ρ m w) {o : Nat} (ho : o < m + 1) {Y : Nat -> Nat -> G} (hY : BdF 3779136 (m + 1) (m + 1) Y) : BdF 30000000000 1 (m + 1) (prodF (m + 1) (cRow ρ o) Y) := fun i k hi hk => by
 have h1 := Bd.sum (n := m + 1) (f := fun j => gmul (cRow ρ o i j) (Y j k)) (B := 2 * (972 * 3779136)) fun j hj => (h.tB o j ho hj).mul (hY j k hj hk);refine h1.mono ?_;have hn3 := h.run.n3;have : ((m + 1 : Nat) : Int) * (2 * (972 * 3779136)) <= 3 * (2 * (972 * 3779136)) := Int.mul_le_mul_of_nonneg_right (by omega) (by omega);omega
theorem col_bd {ρ : Rn} {m : Nat} {w : Int} (h : EstB ρ m w) {o : Nat} (ho : o < m + 1) : BdF 972 (m + 1) 1 (cCol ρ o) := fun j k hj hk => (h.tB o j ho hj).conj
theorem num_bd {ρ : Rn} {m : Nat} {w : Int} (h : EstB ρ m w) {o : Nat} (ho : o < m + 1) {Y : Nat -> Nat -> G} (hY : BdF 3779136 (m + 1) (m + 1) Y) : ∀ n, n <= m + 1 -> Bd 200000000000000 (sumG n fun k => gmul (prodF (m + 1) (cRow ρ o) Y 0 k) (cCol ρ o k 0)) := fun n hn => by
 have h1 := Bd.sum (n := n) (f := fun k => gmul (prodF (m + 1) (cRow ρ o) Y 0 k) (cCol ρ o k 0)) (B := 2 * (30000000000 * 972)) fun j hj => (row_bd h ho hY 0 j (by omega) (by omega)).mul (col_bd h ho j 0 (by omega) (by omega));refine h1.mono ?_;have hn3 := h.run.n3;have : (n : Int) * (2 * (30000000000 * 972)) <= 3 * (2 * (30000000000 * 972)) := Int.mul_le_mul_of_nonneg_right (by omega) (by omega);omega
theorem Coherence_ok {ρ : Rn} {m : Nat} {w : Int} (h : EstB ρ m w) {o : Nat} (ho : o < m + 1) (hp : 0 < pwN ρ o) : ref04_Coherence ρ (o : Int) = some (coh ρ m w o) := by
 have hm2 : m <= 2 := by have := h.run.n3; omega
 unfold ref04_Coherence;have es : ref04_Crossed ρ.1 ρ.1 = some (mx (m + 1) (m + 1) (sF ρ)) := Crossed_ok h.run.d h.run.d h.run.l1 h.run.l6 h.run.n3;have et : ref04_Crossed ρ.2.1 ρ.1 = some (mx (m + 1) (m + 1) (tF ρ)) := Crossed_ok h.run.r h.run.d h.run.l1 h.run.l6 h.run.n3;have hadj : BdF 3779136 (m + 1) (m + 1) (adjF m (sF ρ)) := fun i k hi hk => h.inv.adj hi hk;have hrow : BdF 972 1 (m + 1) (cRow ρ o) := fun i k hi hk => h.tB o k ho hk;have erow : ([mkL (m + 1) fun k => tF ρ o k] : Mx) = mx 1 (m + 1) (cRow ρ o) := rfl;rw [es, Option.bind_some, et, Option.bind_some, idx_of (mx_at (tF ρ) ho), Option.bind_some, Adjugate_ok (B := 972) (M := 3779136) (by omega) (by omega) h.sB h.inv.crude h.inv.minor (by omega), Option.bind_some, erow, Product_ok (A := 972) (B := 3779136) (by omega) (by omega) hrow hadj (by omega) (by omega) (by omega) (by omega) (by omega), Option.bind_some, idx_zero, mx_at _ (by omega), Option.bind_some, mkL_len];have hb := num_bd h ho hadj;have hloop : ∀ K : Int -> Option G, K (numA ρ m o) = some (coh ρ m w o) -> (loopO (fun (s8 : (Int × Int)) =>
   bif decide (s8.2 < ((m + 1 : Nat) : Int)) then
    (idx (mkL (m + 1) fun k => prodF (m + 1) (cRow ρ o) (adjF m (sF ρ)) 0 k) s8.2).bind fun x9 =>
    (idx (mkL (m + 1) fun k => tF ρ o k) s8.2).bind fun x10 =>
    (base_GConj x10).bind fun x11 =>
    (base_GMul x9 x11).bind fun x12 =>
    some (.inl (w64 (s8.1 + x12.1), w64 (s8.2 + 1)))
   else
    some (.inr s8.1)) (0, 0)).bind K = some (coh ρ m w o) := fun K hK => by
  refine Ok.eq ?_;rw [ok_bind];refine (loop_up (m + 1) (fun i (s : Int × Int) => s = ((sumG i fun k => gmul (prodF (m + 1) (cRow ρ o) (adjF m (sF ρ)) 0 k) (cCol ρ o k 0)).1, (i : Int))) (fun q => q = numA ρ m o) rfl ?_).mono (fun a ha => by rw [ha, hK]; exact ok_some.2 rfl);rintro i s hi rfl;by_cases hlt : i < m + 1
  ·have e1 : decide ((i : Int) < ((m + 1 : Nat) : Int)) = true := decide_eq_true (by omega);have f1 : idx (mkL (m + 1) fun k => prodF (m + 1) (cRow ρ o) (adjF m (sF ρ)) 0 k) (i : Int) = some (prodF (m + 1) (cRow ρ o) (adjF m (sF ρ)) 0 i) := idx_of (mkL_get _ hlt);have f2 : idx (mkL (m + 1) fun k => tF ρ o k) (i : Int) = some (tF ρ o i) := idx_of (mkL_get _ hlt);simp only [e1, cond_true, f1, f2, Option.bind_some];have hr := row_bd h ho hadj 0 i (by omega) hlt;have ht := h.tB o i ho hlt;have hg : Bd (2 * (30000000000 * 972)) (gmul (prodF (m + 1) (cRow ρ o) (adjF m (sF ρ)) 0 i) (gconj (tF ρ o i))) := hr.mul ht.conj;have hs := hb i hi;rw [GConj_ok ht (by omega), Option.bind_some, GMul_ok hr ht.conj (by omega), Option.bind_some];unfold Bd at hs hg;rw [wid (by omega) (by omega), wid (by omega) (by omega), rnd_inl];exact ⟨hlt, rfl⟩
  ·have : i = m + 1 := by omega
   subst this;have e1 : decide (((m + 1 : Nat) : Int) < ((m + 1 : Nat) : Int)) = false := by simp
   simp only [e1, cond_false];rw [rnd_inr]; rfl
 refine hloop _ ?_;have hpb := pw_bd h.run ho ρ.1.length (Nat.le_refl _);have w0 := h.w0;have w1 := h.w1;have hwp : w * pwN ρ o <= 918330048 * 972 := Int.mul_le_mul w1 hpb.2 hpb.1 (by omega);have hwp0 := Int.mul_pos w0 hp;have hN := hb (m + 1) (Nat.le_refl _);have hN' : -200000000000000 <= numA ρ m o /\ numA ρ m o <= 200000000000000 := hN.1;rw [refDet12 (B := 972) (by omega) (by omega) h.sB (dB972 _ h.run.n3), Option.bind_some, h.det, power_ok h.run ho, Option.bind_some];dsimp only;rw [wid (by omega) (by omega), Lowest_ok hwp0 (by omega) (by omega)];rfl
theorem made_c1 {n c : Nat} (hn : n <= 1000) (hc : c <= 1000) (T : Rn) (o : Int) (f : Nat -> Nat -> G) (h : ∀ i k : Nat, i < n -> k < c -> drive_CoherenceOf_1 i k T o = some (f i k)) : drive_made_of_drive_CoherenceOf_1 (n : Int) (c : Int) T o = some (mx n c f) := by
 unfold drive_made_of_drive_CoherenceOf_1;exact made_loop n c hn hc (fun i k => drive_CoherenceOf_1 i k T o) f h
theorem CoherenceOf_ok {ρ : Rn} {m : Nat} {w : Int} (h : EstB ρ m w) (hE0 : estE ρ = 0) (h1 : ρ.1.length <= 1000000) (hr : ∀ d ∈ ρ.1, d.length <= 1000000) (hr2 : ∀ r ∈ ρ.2.1, r.length <= 1000000) {o : Nat} (ho : o < m + 1) :
  drive_CoherenceOf ρ (o : Int) = some (if pwN ρ o = 0 then ((0, 0, ()), 12) else if smallC (coh ρ m w o) then (coh ρ m w o, 0) else ((0, 0, ()), 8)) := by
 have hm2 : m <= 2 := by have := h.run.n3; omega
 obtain ⟨y, e1, e2⟩ := openRuns_ok h1 hr hr2;have e1' : drive_openRuns (ρ.1, ρ.2.1, ()) = some (y.1, y.2, estE ρ) := e1;unfold drive_CoherenceOf;rw [e1', Option.bind_some, e2 hE0];try dsimp only
 have ed : sD ρ = (w, 0, ()) := by unfold sD; rw [h.len]; exact h.det
 rw [h.len, ed, mx_len, within_ok, Option.bind_some, wid (by omega) (by omega), decide_eq_true (show (0 : Int) <= (o : Int) /\ (o : Int) <= ((m + 1 : Nat) : Int) - 1 by omega), unless_eq, Option.bind_some, first2, Option.bind_some, if_pos hE0, if_pos rfl, decide_eq_true (show (0 : Int) = 0 from rfl), Bool.not_true, cond_false, prog_power h.run ho, Option.bind_some];have hpb := pw_bd h.run ho ρ.1.length (Nat.le_refl _);have hpb' : 0 <= pwN ρ o /\ pwN ρ o <= 972 := hpb;by_cases hp : pwN ρ o = 0
 ·rw [decide_eq_true hp, cond_true, if_pos hp]
 rw [decide_eq_false hp, cond_false, if_neg hp];obtain ⟨g, den, X, i1, g0', d0, d1, dg, hXB, hX⟩ := inv_facts h;have hrow : BdF 972 1 (m + 1) (cRow ρ o) := fun i k hi hk => h.tB o k ho hk;have erow : ([mkL (m + 1) fun k => tF ρ o k] : Mx) = mx 1 (m + 1) (cRow ρ o) := rfl;have ecol : drive_made_of_drive_CoherenceOf_1 ((m + 1 : Nat) : Int) (1 : Int) ((mx (m + 1) (m + 1) (sF ρ), mx (m + 1) (m + 1) (tF ρ), ()) : Rn) (o : Int) = some (mx (m + 1) 1 (cCol ρ o)) := made_c1 (n := m + 1) (c := 1) (by omega) (by omega) _ _ (cCol ρ o) fun i k hi hk => by
  unfold drive_CoherenceOf_1;rw [at_ok (tF ρ) ho hi, Option.bind_some, conj_ok (h.tB o i ho hi) (by omega)];rfl
 rw [i1, Option.bind_some, idx_of (mx_at (tF ρ) ho), Option.bind_some, ecol, Option.bind_some];try dsimp only
 rw [erow, times_ok (A := 972) (B := 3779136) (by omega) (by omega) hrow hXB (by omega) (by omega) (by omega) (by omega) (by omega), Option.bind_some, times_ok (A := 30000000000) (B := 972) (by omega) (by omega) (row_bd h ho hXB) (col_bd h ho) (by omega) (by omega) (by omega) (by omega) (by omega), Option.bind_some, idx_zero, mx_at _ (by omega), Option.bind_some, idx_zero, mkL_get _ (by omega), Option.bind_some];have hN := num_bd h ho hXB (m + 1) (Nat.le_refl _);have hN' : -200000000000000 <= (prodF (m + 1) (prodF (m + 1) (cRow ρ o) X) (cCol ρ o) 0 0).1 /\ (prodF (m + 1) (prodF (m + 1) (cRow ρ o) X) (cCol ρ o) 0 0).1 <= 200000000000000 := hN.1;have hdp : den * pwN ρ o <= 918330048 * 972 := Int.mul_le_mul d1 hpb'.2 hpb'.1 (by omega);have hdp0 := Int.mul_pos d0 (show 0 < pwN ρ o by omega);rw [wid (by omega) (by omega), small_gen hdp0 (by omega) (by omega), Option.bind_some];have hnum : (prodF (m + 1) (prodF (m + 1) (cRow ρ o) X) (cCol ρ o) 0 0).1 * g = numA ρ m o * w := by
  have k1 : gmul (prodF (m + 1) (prodF (m + 1) (cRow ρ o) X) (cCol ρ o) 0 0) (g, 0, ()) = gmul (prodF (m + 1) (prodF (m + 1) (cRow ρ o) (adjF m (sF ρ))) (cCol ρ o) 0 0) (w, 0, ()) := by
   rw [<- prodF_mull, <- prodF_mull];refine prodF_congr (fun j hj => ?_) (fun j hj => rfl);rw [<- prodF_mulr, <- prodF_mulr];exact prodF_congr (fun l hl => rfl) (fun l hl => hX l j hl hj)
  have k2 := congrArg (fun z : G => z.1) k1;simp only [gscale] at k2;exact k2
 have elw : lw (prodF (m + 1) (prodF (m + 1) (cRow ρ o) X) (cCol ρ o) 0 0).1 (den * pwN ρ o) = coh ρ m w o := by
  unfold coh;rw [<- lw_scale (a := (prodF (m + 1) (prodF (m + 1) (cRow ρ o) X) (cCol ρ o) 0 0).1) (b := den * pwN ρ o) g0', <- lw_scale (a := numA ρ m o) (b := w * pwN ρ o) h.w0, hnum];have e8 : den * pwN ρ o * g = den * g * pwN ρ o := by grind
  have e9 : den * pwN ρ o * g = w * pwN ρ o * w := by rw [e8, dg]; grind
  rw [e9]
 rw [elw]
theorem coh_ok {ρ : Rn} {m : Nat} {w : Int} (h : EstB ρ m w) {o : Nat} (ho : o < m + 1) (hp : 0 < pwN ρ o) : 1 <= (coh ρ m w o).2.1 /\ 0 <= (coh ρ m w o).1 /\ (coh ρ m w o).1 <= (coh ρ m w o).2.1 := by
 have hn3 := h.run.n3;have hr := coh_range (N := ρ.1.length) (n := m + 1) (d := ent ρ.1) (r := fun j => ent ρ.2.1 j o) (A := adjF m (sF ρ)) h.w0 fun i k hi hk => by
  have e := adj_right (n := m) (by omega) (sF ρ) hi hk;rw [h.det] at e;exact e
 have hwp0 := Int.mul_pos h.w0 hp;have hl := lw_range (a := numA ρ m o) hwp0;exact ⟨hl.1, hl.2 hr.1 hr.2⟩
theorem DriveCoherences_eq (ρ : Rn) (o : Int) (ho64 : -9223372036854775808 <= o /\ o <= 9223372036854775807) : law04_DriveCoherences ρ o = some true := by
 unfold law04_DriveCoherences;rw [show law04_awake = some true from rfl, Option.bind_some, Bool.not_true, cond_false];have er : ((ρ.1, ρ.2.1, ()) : Rn) = ρ := rfl;try rw [er]
 refine Ok.eq ?_;rw [ok_bind];refine (fewRuns_ok ρ).mono fun b hb => ?_;cases b with
 | false => exact ok_some.2 rfl
 | true =>
 rw [Bool.not_true, cond_false];obtain ⟨⟨ha, har⟩, ⟨hb8, hbr⟩⟩ := hb rfl;have h1 : ρ.1.length <= 1000000 := by omega
 have hr : ∀ d ∈ ρ.1, d.length <= 1000000 := fun d h => by have := har d h; omega
 have hr2 : ∀ d ∈ ρ.2.1, d.length <= 1000000 := fun d h => by have := hbr d h; omega
 rw [CopyRuns_ok (ρ := ρ) (by omega) (fun d h => by have := har d h; omega) (by omega) (fun d h => by have := hbr d h; omega), Option.bind_some];have key : ∃ (f : G) (e : Int), drive_CoherenceOf ρ o = some (f, e) /\ ref04_CoherenceErr ρ o = some e /\ (e ≠ 0 -> f = g0) /\ (e = 0 -> ref04_Coherence ρ o = some f /\ 0 <= f.1 /\ f.1 <= f.2.1) := by
  by_cases c : estE ρ = 0
  case neg =>
   obtain ⟨y, e1, e2⟩ := openRuns_ok h1 hr hr2;have e1' : drive_openRuns (ρ.1, ρ.2.1, ()) = some (y.1, y.2, estE ρ) := e1;refine ⟨g0, estE ρ, ?_, ?_, fun _ => rfl, fun hh => absurd hh c⟩
   ·unfold drive_CoherenceOf;rw [e1', Option.bind_some, within_ok, Option.bind_some, unless_eq, Option.bind_some, first2, Option.bind_some];try dsimp only
    rw [if_neg c, decide_eq_false c, Bool.not_false, cond_true]; rfl
   ·unfold ref04_CoherenceErr;have := EstimateErr_ok h1 hr;have e' : ref04_EstimateErr (ρ.1, ρ.2.1, ()) = some (estE ρ) := this;rw [e', Option.bind_some, decide_eq_false c, Bool.not_false, cond_true]
  obtain ⟨m, w, hE, hrun⟩ := estB c;have hm2 : m <= 2 := by have := hE.run.n3; omega
  have hN := hE.run.l1;have f3 : idx ρ.1 0 = some (ρ.1.getD 0 []) := by rw [idx_in [] (by omega) (by omega)]; rfl
  have hlen : ((ρ.1.getD 0 []).length : Int) = ((m + 1 : Nat) : Int) := by have := hE.len; unfold rnN at this; rw [this]
  have eE : ref04_EstimateErr (ρ.1, ρ.2.1, ()) = some (estE ρ) := EstimateErr_ok h1 hr;by_cases hrange : 0 <= o /\ o <= ((m + 1 : Nat) : Int) - 1
  case neg =>
   obtain ⟨y, e1, e2⟩ := openRuns_ok h1 hr hr2;have e1' : drive_openRuns (ρ.1, ρ.2.1, ()) = some (y.1, y.2, estE ρ) := e1;refine ⟨g0, 6, ?_, ?_, fun _ => rfl, fun hh => by cases hh⟩
   ·unfold drive_CoherenceOf;rw [e1', Option.bind_some, e2 c];try dsimp only
    rw [hE.len, mx_len, within_ok, Option.bind_some, wid (by omega) (by omega), decide_eq_false hrange, unless_eq, Option.bind_some, first2, Option.bind_some, if_pos c, if_neg (by simp), decide_eq_false (show ¬ (6 : Int) = 0 by omega), Bool.not_false, cond_true]; rfl
   ·unfold ref04_CoherenceErr;rw [eE, Option.bind_some, decide_eq_true c, Bool.not_true, cond_false, f3, Option.bind_some, hlen, wid (by omega) (by omega), Within_ok, Option.bind_some, decide_eq_false hrange, Bool.not_false, cond_true]
  obtain ⟨o', rfl⟩ : ∃ n : Nat, o = (n : Int) := ⟨o.toNat, by omega⟩
  have ho : o' < m + 1 := by omega
  have hC := CoherenceOf_ok hE c h1 hr hr2 ho;have hpow : ref04_power (ρ.1, ρ.2.1, ()) (o' : Int) = some (pwN ρ o') := power_ok hE.run ho;have hpb : 0 <= pwN ρ o' /\ pwN ρ o' <= 972 := pw_bd hE.run ho ρ.1.length (Nat.le_refl _);have hErr : ref04_CoherenceErr ρ (o' : Int) = bif decide (pwN ρ o' = 0) then some 12 else (ref04_Coherence ρ (o' : Int)).bind fun x5 => (base_IsSmall x5).bind fun x6 => bif !x6 then some 8 else some 0 := by
   unfold ref04_CoherenceErr;rw [eE, Option.bind_some, decide_eq_true c, Bool.not_true, cond_false, f3, Option.bind_some, hlen, wid (by omega) (by omega), Within_ok, Option.bind_some, decide_eq_true hrange, Bool.not_true, cond_false, hpow, Option.bind_some]
  by_cases hp : pwN ρ o' = 0
  ·rw [if_pos hp] at hC;rw [decide_eq_true hp, cond_true] at hErr;exact ⟨_, _, hC, hErr, fun _ => rfl, fun hh => by cases hh⟩
  rw [if_neg hp] at hC;have hco := Coherence_ok hE ho (by omega);have hrg := coh_ok hE ho (by omega);rw [decide_eq_false hp, cond_false, hco, Option.bind_some, IsSmall_ok hrg.1, Option.bind_some] at hErr;by_cases hs : smallC (coh ρ m w o')
  ·rw [if_pos hs] at hC;rw [decide_eq_true hs, Bool.not_true, cond_false] at hErr;exact ⟨_, _, hC, hErr, fun hh => absurd rfl hh, fun _ => ⟨hco, hrg.2⟩⟩
  ·rw [if_neg hs] at hC;rw [decide_eq_false hs, Bool.not_false, cond_true] at hErr;exact ⟨_, _, hC, hErr, fun _ => rfl, fun hh => by cases hh⟩
 obtain ⟨f, e, k1, k2, k3, k4⟩ := key;rw [k1, Option.bind_some, k2, Option.bind_some];by_cases c : e = 0
 case neg =>
  rw [decide_eq_false c, Bool.not_false, cond_true, decide_eq_true (show e = e from rfl), cond_true];dsimp only;rw [isZero_dec, k3 c, decide_eq_true rfl];exact ok_some.2 rfl
 obtain ⟨k5, k6, k7⟩ := k4 c;rw [decide_eq_true c, Bool.not_true, cond_false, cond_true, k5, Option.bind_some];dsimp only;rw [geq_dec, decide_eq_true rfl, cond_true, Within_ok, Option.bind_some, Option.bind_some, decide_eq_true (show 0 <= f.1 /\ f.1 <= f.2.1 from ⟨k6, k7⟩)];exact ok_some.2 rfl
end Go.Proofs.YtbcdgfgacigaoaaGreat.Mat
namespace Go.Proofs.YtbcdgfgacigaoaaGreat
open Go Go.Ab Go.Tx
theorem law04_DriveCoherences_true : ∀ x : denP ([Ty.pair (.sl (.sl (.pair I (.pair I .unit)))) (.pair (.sl (.sl (.pair I (.pair I .unit)))) .unit), I].map .ty), RngP maxLen [.pair (.sl (.sl (.pair I (.pair I .unit)))) (.pair (.sl (.sl (.pair I (.pair I .unit)))) .unit), I] x -> e_law04_DriveCoherences.F x = some true := by
 intro ⟨a0, a1⟩ hr;exact Mat.DriveCoherences_eq a0 a1 hr.2
end Go.Proofs.YtbcdgfgacigaoaaGreat
end
section
namespace Go.Proofs.YtbcdgfgacigaoaaGreat.driveCoherences
open Go Go.Ab Go.Tx Go.ChangeShapes Go.WideShapes Go.ChangeAt Go.RowKit
theorem hlib : ∀ g h args r, Lb g = some h -> h args = some r -> CallOk Tryz.prog g args [] r [] := fun g h args r hg hr => by
 unfold Lb at hg;split at hg
 ·rename_i e;subst e;cases hg;cases args with
  | nil => cases hr; exact awake_ok
  | cons a l => cases hr
 ·cases hg
set_option maxRecDepth 100000 in
theorem contract (H : Type) (enc : TypeId × Value -> H) (W : World) (base : Nat) (args : Array Value) (ds gs : List (DataW H)) (before : List MemPlace)
  (hval : ∀ (j : Nat) t v, Tryz.f3.params[j]? = some t -> args[j]? = some v -> Value.okWide Tryz.prog W .any base t v)
  (hW : DataW.Whole enc Tryz.prog Tryz.f3.params.toList Rows.driveCoherencesSpec.vars false W args.toList ds gs before) :
  Calls Tryz.prog 3 args W fun e W' => ∃ v, e = .returned v /\ Rows.driveCoherencesSpec.post enc Tryz.prog Tryz.f3 false true false false W args v W' :=
 law_contract (τs := [(.pair (.sl (.sl (.pair I (.pair I .unit)))) (.pair (.sl (.sl (.pair I (.pair I .unit)))) .unit)), I]) (ts := [24, 3]) (tb := 4) (F := e_law04_DriveCoherences.F) follows hname hlib laid_out Tryz.func3 (by kernel_rfl) (by kernel_rfl) (by kernel_rfl) (by kernel_rfl) (by kernel_rfl) (by kernel_rfl) Tryz.underlying4 o_law04_DriveCoherences law04_DriveCoherences_true rfl
  (fun H ds h => by
   match ds, h with
   | [d1, d2], _ => rfl) H enc W base args ds gs before hval hW
set_option maxRecDepth 100000 in
theorem lifted (os : Os) (started : os.Started) (H : Type) (enc : TypeId × Value -> H) :
  ReturnsInHanded {} Tryz.checked os 3 .any (Rows.driveCoherencesSpec.pre6 enc Tryz.prog Tryz.f3 Rows.driveCoherencesRow.domain false) (Rows.driveCoherencesSpec.post enc Tryz.prog Tryz.f3 false true false false) := by
 refine returnsInHanded_of_change (C := Tryz.checked) own started (by kernel_rfl) Tryz.func3
  (ChangeSpec.witness6 (enc := enc) (C := Tryz.checked) false ⟨#[], #[.agg #[.slice none 0 0, .slice none 0 0], .int .i64 0], []⟩ 8 (by kernel_rfl) (by kernel_rfl) (by kernel_rfl) (by kernel_rfl)) ?_
 intro W base args ds gs before hval hW _ _;exact contract H enc W base args ds gs before hval hW
theorem proved : Rows.DriveCoherencesSaid :=
 OpenClaim.holds_of_wide 3 Tryz.f3 rfl rfl rfl rfl rfl rfl rfl ⟨rfl, rfl, rfl, rfl, rfl⟩ rfl rfl rfl rfl rfl (by kernel_rfl) Tryz.func3 (by kernel_rfl)
  (of_decide_eq_true (by kernel_rfl)) (by unfold Func.isWrapper; first | (rw [if_pos (by decide +kernel)]; kernel_rfl) | (rw [if_neg (by decide +kernel)]; exact ⟨rfl, rfl⟩))
  (fun os started H enc _ => lifted os started H enc)
end Go.Proofs.YtbcdgfgacigaoaaGreat.driveCoherences
end
