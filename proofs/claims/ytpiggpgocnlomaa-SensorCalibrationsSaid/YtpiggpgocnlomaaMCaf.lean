/-
  ONE LAW OF A CHAPTER: its program side is run by an interpreter that is proved sound; what it computes is shown to be what the law says. No conditions. Part 6 of 6.
-/
import Derived.Test.YtpiggpgocnlomaaMCae
section
/-
  CALIBRATIONS: the reference's calibration, flat pairs, accepted lines, misfits; the law.
-/
set_option linter.unusedVariables false
set_option linter.unusedSimpArgs false
namespace Go.Proofs.Ytpiggpgocnlomaa
open Go Go.Ab Go.Tx Go.Wide

/-! ### flat pairs -/
def FlatP (l : List Pr) : Prop := ∀ j, j < l.length → (l.getD j (0, 0, ())).2.1 = (l.getD 0 (0, 0, ())).2.1
theorem sumSq (a : Int) (l : List Pr) : sumF (fun p => (p.2.1 - a) * (p.2.1 - a)) l = SQ l - 2 * (a * S1 l) + a * a * l.length := by
  unfold SQ S1
  induction l with
  | nil => simp [sumF]
  | cons p l ih =>
    simp only [sumF, List.length_cons]
    rw [ih, Int.natCast_add]
    generalize sumF (fun p : Pr => p.2.1 * p.2.1) l = q
    generalize sumF (fun p : Pr => p.2.1) l = s
    generalize (l.length : Int) = n
    generalize p.2.1 = x
    simp only [Int.natCast_one]
    grind
theorem spread_cons (p : Pr) (l : List Pr) : spread_ (p :: l) = spread_ l + sumF (fun q => (q.2.1 - p.2.1) * (q.2.1 - p.2.1)) l := by
  rw [sumSq]
  unfold spread_ SQ S1
  simp only [sumF, List.length_cons]
  rw [Int.natCast_add]
  generalize sumF (fun p : Pr => p.2.1 * p.2.1) l = q
  generalize sumF (fun p : Pr => p.2.1) l = s
  generalize (l.length : Int) = n
  generalize p.2.1 = x
  simp only [Int.natCast_one]
  grind
theorem spread_nonneg : ∀ l : List Pr, 0 ≤ spread_ l
  | [] => by simp [spread_, SQ, S1, sumF]
  | p :: l => by
    rw [spread_cons]
    have h1 := spread_nonneg l
    have h2 := sumF_nonneg (f := fun q : Pr => (q.2.1 - p.2.1) * (q.2.1 - p.2.1)) (l := l) fun a _ => sq_nonneg _
    omega
theorem spread_flat {l : List Pr} (a : Int) (h : ∀ p ∈ l, p.2.1 = a) : spread_ l = 0 := by
  unfold spread_ SQ S1
  rw [sumF_congr (g := fun _ => a) h, sumF_congr (f := fun p : Pr => p.2.1 * p.2.1) (g := fun _ => a * a) (fun p hp => by rw [h p hp]), sumF_const, sumF_const]
  grind
theorem spread_zero {l : List Pr} (hl : 1 ≤ l.length) : spread_ l = 0 ↔ FlatP l := by
  cases l with
  | nil => simp at hl
  | cons p l =>
    constructor
    · intro h
      rw [spread_cons] at h
      have h1 := spread_nonneg l
      have h2 := sumF_nonneg (f := fun q : Pr => (q.2.1 - p.2.1) * (q.2.1 - p.2.1)) (l := l) fun a _ => sq_nonneg _
      have h3 := (sumF_zero (f := fun q : Pr => (q.2.1 - p.2.1) * (q.2.1 - p.2.1)) (l := l) fun a _ => sq_nonneg _).1 (by omega)
      intro j hj
      cases j with
      | zero => rfl
      | succ j =>
        have hj' : j < l.length := by simpa using hj
        have := sq_zero (h3 _ (getD_mem (d := (0, 0, ())) hj'))
        simp only [List.getD_cons_succ, List.getD_cons_zero]
        omega
    · intro h
      refine spread_flat p.2.1 fun q hq => ?_
      obtain ⟨j, hj⟩ := List.mem_iff_getElem?.1 hq
      have := h j (len_lt hj)
      rw [Go.Tx.getD_at hj] at this
      simpa using this
theorem Flat_ok {l : List Pr} (h : PrOk l) : ref07_Flat l = some (decide (spread_ l = 0)) := by
  unfold ref07_Flat
  have h1 := h.len1
  have h2 := h.len2
  refine Ok.eq ?_
  rw [ok_elim]
  refine (loop_up (l.length - 1) (fun i (s : Int) => s = (i : Int) + 1 ∧ ∀ j, j < i + 1 → (l.getD j (0, 0, ())).2.1 = (l.getD 0 (0, 0, ())).2.1)
    (fun r => (r = .inl () ∧ FlatP l) ∨ (r = .inr false ∧ ¬ FlatP l)) ⟨rfl, fun j hj => by
      have : j = 0 := by omega
      subst this; rfl⟩ ?_).mono ?_
  · rintro i s hi ⟨rfl, hI⟩
    by_cases hlt : i + 1 < l.length
    · have e0 : decide ((i : Int) + 1 < (l.length : Int)) = true := by simp; omega
      simp only [e0, cond_true]
      rw [idx_in (0, 0, ()) (by omega) (by omega), idx_in (0, 0, ()) (by omega) (by omega)]
      have e1 : ((i : Int) + 1).toNat = i + 1 := by omega
      simp only [Option.bind_some, e1, Int.toNat_zero]
      by_cases c : (l.getD (i + 1) (0, 0, ())).2.1 = (l.getD 0 (0, 0, ())).2.1
      · simp only [c, decide_true, Bool.not_true, cond_false]
        rw [wid (by omega) (by omega), rnd_inl]
        refine ⟨by omega, by omega, fun j hj => ?_⟩
        by_cases hji : j < i + 1
        · exact hI j hji
        · have : j = i + 1 := by omega
          subst this; exact c
      · simp only [c, decide_false, Bool.not_false, cond_true]
        rw [rnd_inr]
        exact .inr ⟨rfl, fun hf => c (hf _ hlt)⟩
    · have e0 : decide ((i : Int) + 1 < (l.length : Int)) = false := by simp; omega
      simp only [e0, cond_false]
      rw [rnd_inr]
      exact .inl ⟨rfl, fun j hj => hI j (by omega)⟩
  · rintro r (⟨rfl, hf⟩ | ⟨rfl, hf⟩)
    · simp [ok_some, (spread_zero h1).2 hf]
    · simp only; rw [eq_comm, decide_eq_false_iff_not]; exact fun h0 => hf ((spread_zero h1).1 h0)

/-! ### the reference's calibration -/
theorem Calibration_ok {l : List Pr} (h : PrOk l) (hs : spread_ l ≠ 0) : ref07_Calibration l = some (cal l) := by
  unfold ref07_Calibration
  have hl := h.len2
  refine Ok.eq ?_
  rw [ok_bind]
  refine (loop_up l.length (fun i (s : Int × Int × Int × Int × Int) => s = (S1 (l.take i), SK (l.take i), SQ (l.take i), SP (l.take i), (i : Int)))
    (fun r => r = (S1 l, SK l, SQ l, SP l)) rfl ?_).mono ?_
  · rintro i s hi rfl
    by_cases hlt : i < l.length
    · have e0 : decide ((i : Int) < (l.length : Int)) = true := by simp; omega
      have hp : l[i]? = some l[i] := by simp [hlt]
      have hm := List.mem_of_getElem? hp
      have b := h.sums i
      have b1 := h.kn _ hm
      have b2 := h.rw _ hm
      have b3 := h.sq _ hm
      have b4 := h.sp _ hm
      obtain ⟨c1, c2, c3, c4⟩ := b
      simp only [e0, cond_true]
      rw [idx_of hp]
      simp only [Option.bind_some]
      have n1 := sumF_next (fun p : Pr => p.2.1) hp
      have n2 := sumF_next (fun p : Pr => p.1) hp
      have n3 := sumF_next (fun p : Pr => p.2.1 * p.2.1) hp
      have n4 := sumF_next (fun p : Pr => p.2.1 * p.1) hp
      unfold S1 SK SQ SP at *
      generalize l[i] = p at *
      rw [wid (n := p.2.1 * p.2.1) (by omega) (by omega), wid (n := p.2.1 * p.1) (by omega) (by omega), wid (n := (i : Int) + 1) (by omega) (by omega), wid (n := _ + p.2.1) (by omega) (by omega), wid (n := _ + p.1) (by omega) (by omega), wid (n := _ + p.2.1 * p.2.1) (by omega) (by omega), wid (n := _ + p.2.1 * p.1) (by omega) (by omega), rnd_inl, n1, n2, n3, n4]
      exact ⟨hlt, rfl⟩
    · have : i = l.length := by omega
      subst this
      have e0 : decide ((l.length : Int) < (l.length : Int)) = false := by simp
      simp only [e0, cond_false]
      rw [rnd_inr, List.take_length]
  rintro _ rfl
  obtain ⟨a1, a2, a3, a4, a5, a6⟩ := h.prods
  obtain ⟨g1, g2, g3⟩ := h.big
  simp only
  rw [wid (n := (l.length : Int) * SP l) (by omega) (by omega), wid (n := S1 l * SK l) (by omega) (by omega), wid (n := SQ l * SK l) (by omega) (by omega), wid (n := S1 l * SP l) (by omega) (by omega), wid (n := (l.length : Int) * SP l - S1 l * SK l) (by omega) (by omega), wid (n := SQ l * SK l - S1 l * SP l) (by omega) (by omega),
    wid (n := (l.length : Int) * SQ l) (by omega) (by omega), wid (n := S1 l * S1 l) (by omega) (by omega), wid (n := (l.length : Int) * SQ l - S1 l * S1 l) (by omega) (by omega)]
  have hlow : ref07_lowest (gain_ l) (offs_ l) (spread_ l) = some (cal l) := by
    unfold ref07_lowest
    rw [← Option.bind_assoc, Gcd3_ok (B := 1000000000000) (by omega) g1 g2 g3]
    have hg := gcd3_pos (g := gain_ l) (o := offs_ l) hs
    have hg' : ¬ ((gcd3 (gain_ l) (offs_ l) (spread_ l) : Int) = 0) := by omega
    simp only [Option.bind_some, hg', decide_false, cond_false]
    have t1 := tdiv_abs (gain_ l) (gcd3 (gain_ l) (offs_ l) (spread_ l))
    have t2 := tdiv_abs (offs_ l) (gcd3 (gain_ l) (offs_ l) (spread_ l))
    have t3 := tdiv_abs (spread_ l) (gcd3 (gain_ l) (offs_ l) (spread_ l))
    rw [wid (by omega) (by omega), wid (by omega) (by omega), wid (by omega) (by omega)]
    rfl
  have : ref07_lowest ((l.length : Int) * SP l - S1 l * SK l) (SQ l * SK l - S1 l * SP l) ((l.length : Int) * SQ l - S1 l * S1 l) = some (cal l) := hlow
  rw [this]
  simp only [Option.bind_some, ok_some]

/-! ### accepted lines -/
def off_ (x : Ln) (p : Pr) : Int := x.1 * p.2.1 + x.2.1 - x.2.2.1 * p.1
def PL (x : Ln) (l : List Pr) : Int := sumF (off_ x) l
def WL (x : Ln) (l : List Pr) : Int := sumF (fun p => off_ x p * p.2.1) l
structure Offs (x : Ln) (p : Pr) : Prop where
  m1 : -300000000000000 ≤ x.1 * p.2.1 ∧ x.1 * p.2.1 ≤ 300000000000000
  m2 : -300000000000000 ≤ x.2.2.1 * p.1 ∧ x.2.2.1 * p.1 ≤ 300000000000000
  o : -300000000000 ≤ x.2.1 ∧ x.2.1 ≤ 300000000000
  a : -600300000000000 ≤ off_ x p ∧ off_ x p ≤ 600300000000000
  b : -600300000000000000 ≤ off_ x p * p.2.1 ∧ off_ x p * p.2.1 ≤ 600300000000000000
theorem offs_ok {l : List Pr} (h : PrOk l) {x : Ln} (hx : mst x) : ∀ p ∈ l, Offs x p := fun p hp => by
  obtain ⟨x1, x2, x3⟩ := hx
  have m1 := abs_mul_le x2 (h.rw p hp)
  have m2 := abs_mul_le (a := x.2.2.1) (A := 300000000000) (by omega) (h.kn p hp)
  have a : -600300000000000 ≤ off_ x p ∧ off_ x p ≤ 600300000000000 := by unfold off_; omega
  have b := abs_mul_le a (h.rw p hp)
  exact ⟨by omega, by omega, x3, a, by omega⟩
theorem off_ok {x : Ln} {p : Pr} (h : Offs x p) : sensor_off x p = some (off_ x p) := by
  obtain ⟨h1, h2, h3, h4, h5⟩ := h
  unfold sensor_off
  unfold off_ at *
  rw [wid (n := x.1 * p.2.1) (by omega) (by omega), wid (n := x.2.2.1 * p.1) (by omega) (by omega), wid (n := x.1 * p.2.1 + x.2.1) (by omega) (by omega), wid (by omega) (by omega)]
theorem PL_bd {l : List Pr} (h : PrOk l) {x : Ln} (hx : mst x) (i : Nat) : -6003000000000000 ≤ PL x (l.take i) ∧ PL x (l.take i) ≤ 6003000000000000 := by
  have := sumF_take_bd (f := off_ x) i (show (0 : Int) ≤ 600300000000000 by omega) h.len2 fun p hp => (offs_ok h hx p hp).a
  unfold PL; omega
theorem WL_bd {l : List Pr} (h : PrOk l) {x : Ln} (hx : mst x) (i : Nat) : -6003000000000000000 ≤ WL x (l.take i) ∧ WL x (l.take i) ≤ 6003000000000000000 := by
  have := sumF_take_bd (f := fun p => off_ x p * p.2.1) i (show (0 : Int) ≤ 600300000000000000 by omega) h.len2 fun p hp => (offs_ok h hx p hp).b
  unfold WL; omega
def accE (l : List Pr) (x : Ln) : Int × Int := if PL x l ≠ 0 then (0, 19) else if WL x l ≠ 0 then (1, 19) else (0, if spread_ l = 0 then 11 else 0)
theorem CheckCalibration_ok {l : List Pr} (hl : l.length ≤ 1000000000) (x : Ln) :
    sensor_CheckCalibration l x = some (if pairE l ≠ 0 then (0, pairE l) else if lineE x ≠ 0 then (0, lineE x) else accE l x) := by
  unfold sensor_CheckCalibration
  rw [pairsErr_ok hl]
  have hcl : sensor_CheckLine (x.1, x.2.1, x.2.2.1, ()) = some (lineE x) := CheckLine_ok x
  rw [hcl]
  simp only [Option.bind_some]
  rw [first_ok _ (by simp)]
  simp only [Option.bind_some, fst0]
  by_cases h : pairE l = 0
  case neg => simp [h]
  simp only [h, if_true, ne_eq, not_true_eq_false, if_false]
  by_cases h2 : lineE x = 0
  case neg => simp [h2]
  simp only [h2, if_true, if_false, decide_true, Bool.not_true, cond_false, not_true_eq_false]
  have hp := pair_ok h
  have hx : mst x := by
    unfold lineE at h2
    by_cases c : mst x
    · exact c
    · rw [if_neg c] at h2; omega
  have hl2 := hp.len2
  refine Ok.eq ?_
  rw [ok_bind]
  refine (loop_up l.length (fun i (s : Int × Int × Int) => s = (PL x (l.take i), WL x (l.take i), (i : Int)))
    (fun r => r = (PL x l, WL x l)) rfl ?_).mono ?_
  · rintro i s hi rfl
    by_cases hlt : i < l.length
    · have e0 : decide ((i : Int) < (l.length : Int)) = true := by simp; omega
      have hpi : l[i]? = some l[i] := by simp [hlt]
      have hm := List.mem_of_getElem? hpi
      have ho := offs_ok hp hx _ hm
      have n1 := sumF_next (off_ x) hpi
      have n2 := sumF_next (fun p => off_ x p * p.2.1) hpi
      have b1 := PL_bd hp hx (i + 1)
      have b2 := WL_bd hp hx (i + 1)
      simp only [e0, cond_true]
      rw [idx_of hpi]
      simp only [Option.bind_some]
      have hof : sensor_off (x.1, x.2.1, x.2.2.1, ()) l[i] = some (off_ x l[i]) := off_ok ho
      rw [hof]
      simp only [Option.bind_some]
      unfold PL WL at *
      rw [n1] at b1 ⊢
      rw [n2] at b2 ⊢
      obtain ⟨_, _, _, _, o5⟩ := ho
      rw [wid (n := off_ x l[i] * l[i].2.1) (by omega) (by omega), wid (n := (i : Int) + 1) (by omega) (by omega), wid (n := _ + off_ x l[i]) (by omega) (by omega), wid (n := _ + off_ x l[i] * l[i].2.1) (by omega) (by omega), rnd_inl]
      exact ⟨hlt, rfl⟩
    · have : i = l.length := by omega
      subst this
      have e0 : decide ((l.length : Int) < (l.length : Int)) = false := by simp
      simp only [e0, cond_false]
      rw [rnd_inr, List.take_length]
  rintro _ rfl
  unfold accE
  by_cases c1 : PL x l = 0
  · by_cases c2 : WL x l = 0
    · rw [of_ok hp]
      simp only [c1, c2, decide_true, Bool.not_true, cond_false, Option.bind_some]
      rw [spread_ok hp]
      simp only [Option.bind_some, unless_ok]
      by_cases c3 : spread_ l = 0 <;> simp [c3, ok_some]
    · simp [c1, c2, ok_some]
  · simp [c1, ok_some]
theorem W0 : (W 0).1 = 0 ∧ (W 0).2.1 = [] := by rw [W_zero]; exact ⟨rfl, rfl⟩
theorem Sums_ok {l : List Pr} (h : PrOk l) {x : Ln} (hx : mst x) : ref07_Sums l x = some ((W (PL x l)).1, (W (PL x l)).2.1, (W (WL x l)).1, (W (WL x l)).2.1, ()) := by
  unfold ref07_Sums
  have hl := h.len2
  refine Ok.eq ?_
  rw [ok_bind]
  refine (loop_up l.length (fun i (s : Int × Int × List Int × Int × List Int) => s = ((i : Int), (W (PL x (l.take i))).1, (W (PL x (l.take i))).2.1, (W (WL x (l.take i))).1, (W (WL x (l.take i))).2.1))
    (fun r => r = ((W (PL x l)).1, (W (PL x l)).2.1, (W (WL x l)).1, (W (WL x l)).2.1)) ?_ ?_).mono ?_
  · have e1 : PL x ([] : List Pr) = 0 := rfl
    have e2 : WL x ([] : List Pr) = 0 := rfl
    simp only [List.take_zero, e1, e2, W0.1, W0.2]
    rfl
  · rintro i s hi rfl
    by_cases hlt : i < l.length
    · have e0 : decide ((i : Int) < (l.length : Int)) = true := by simp; omega
      have hpi : l[i]? = some l[i] := by simp [hlt]
      have hm := List.mem_of_getElem? hpi
      have ho := offs_ok h hx _ hm
      have n1 := sumF_next (off_ x) hpi
      have n2 := sumF_next (fun p => off_ x p * p.2.1) hpi
      have b1 := PL_bd h hx i
      have b2 := WL_bd h hx i
      have k1 := h.kn _ hm
      have k2 := h.rw _ hm
      have hx' := hx
      obtain ⟨x1, x2, x3⟩ := hx'
      simp only [e0, cond_true]
      rw [idx_of hpi]
      simp only [Option.bind_some]
      obtain ⟨o1, o2, o3, o4, o5⟩ := ho
      rw [WideOf_ok (n := x.1) (by omega), WideOf_ok (n := x.2.1) (by omega), WideOf_ok (n := x.2.2.1) (by omega), WideOf_ok (n := l[i].1) (by omega), WideOf_ok (n := l[i].2.1) (by omega)]
      simp only [Option.bind_some]
      have wb : ∀ n : Int, n.natAbs ≤ 999999999999999999999999999 → wl n ≤ 10000 := fun n hn => Nat.le_trans (wl_int hn) (by omega)
      have wb' : ∀ n : Int, n.natAbs ≤ 999999999999999999999999999 → wl n ≤ 100000 := fun n hn => Nat.le_trans (wl_int hn) (by omega)
      rw [WideMul_ok x.1 l[i].2.1 (wb _ (by omega)) (wb _ (by omega)), WideMul_ok x.2.2.1 l[i].1 (wb _ (by omega)) (wb _ (by omega))]
      simp only [Option.bind_some]
      rw [WideAdd_ok _ _ (wb' _ (by omega)) (wb' _ (by omega))]
      simp only [Option.bind_some]
      rw [WideSub_ok _ _ (wb' _ (by omega)) (wb' _ (by omega))]
      simp only [Option.bind_some]
      have eo : x.1 * l[i].2.1 + x.2.1 - x.2.2.1 * l[i].1 = off_ x l[i] := rfl
      rw [eo]
      have a1 : base_WideAdd ((W (PL x (l.take i))).1, (W (PL x (l.take i))).2.1, ()) (W (off_ x l[i])) = some (W (PL x (l.take i) + off_ x l[i])) := WideAdd_ok _ _ (wb' _ (by omega)) (wb' _ (by omega))
      rw [a1]
      simp only [Option.bind_some]
      rw [WideMul_ok _ _ (wb _ (by omega)) (wb _ (by omega))]
      simp only [Option.bind_some]
      have a2 : base_WideAdd ((W (WL x (l.take i))).1, (W (WL x (l.take i))).2.1, ()) (W (off_ x l[i] * l[i].2.1)) = some (W (WL x (l.take i) + off_ x l[i] * l[i].2.1)) := WideAdd_ok _ _ (wb' _ (by omega)) (wb' _ (by omega))
      rw [a2]
      simp only [Option.bind_some]
      rw [wid (n := (i : Int) + 1) (by omega) (by omega), rnd_inl]
      refine ⟨hlt, ?_⟩
      have m1 : PL x (l.take (i + 1)) = PL x (l.take i) + off_ x l[i] := n1
      have m2 : WL x (l.take (i + 1)) = WL x (l.take i) + off_ x l[i] * l[i].2.1 := n2
      rw [m1, m2]
      rfl
    · have : i = l.length := by omega
      subst this
      have e0 : decide ((l.length : Int) < (l.length : Int)) = false := by simp
      simp only [e0, cond_false]
      rw [rnd_inr, List.take_length]
  · rintro _ rfl
    rw [ok_some]
theorem CalibrationErr_ok {l : List Pr} (h : PrOk l) {x : Ln} (hx : mst x) : ref07_CalibrationErr l x = some (accE l x) := by
  unfold ref07_CalibrationErr accE
  rw [Sums_ok h hx]
  simp only [Option.bind_some]
  have e1 : base_WideSign ((W (PL x l)).1, (W (PL x l)).2.1, ()) = some (PL x l).sign := rfl
  have e2 : base_WideSign ((W (WL x l)).1, (W (WL x l)).2.1, ()) = some (WL x l).sign := rfl
  rw [e1, e2, Flat_ok h]
  simp only [Option.bind_some]
  have s1 := sign_zero (PL x l)
  have s2 := sign_zero (WL x l)
  by_cases c1 : PL x l = 0
  · by_cases c2 : WL x l = 0
    · by_cases c3 : spread_ l = 0 <;> simp [c1, c2, c3]
    · have : ¬ (WL x l).sign = 0 := fun h => c2 (s2.1 h)
      simp only [c1, c2, this, Int.sign_zero, decide_true, decide_false, Bool.not_true, Bool.not_false, cond_true, cond_false, ne_eq, not_true_eq_false, not_false_eq_true, if_true, if_false]
  · have : ¬ (PL x l).sign = 0 := fun h => c1 (s1.1 h)
    simp only [c1, this, decide_false, Bool.not_false, cond_true, ne_eq, not_false_eq_true, if_true]

/-! ### misfits -/
def sml (x : Ln) : Prop := (-10000 ≤ x.1 ∧ x.1 ≤ 10000) ∧ (-10000 ≤ x.2.1 ∧ x.2.1 ≤ 10000) ∧ (-10000 ≤ x.2.2.1 ∧ x.2.2.1 ≤ 10000)
instance (x : Ln) : Decidable (sml x) := inferInstanceAs (Decidable (_ ∧ _))
def MS (x : Ln) (l : List Pr) : Int := sumF (fun p => off_ x p * off_ x p) l
def misf (x : Ln) (l : List Pr) : Int × Int × Unit := ((MS x l).tdiv (Int.gcd (MS x l) (x.2.2.1 * x.2.2.1)), (x.2.2.1 * x.2.2.1).tdiv (Int.gcd (MS x l) (x.2.2.1 * x.2.2.1)), ())
theorem sml_off {l : List Pr} (h : PrOk l) {x : Ln} (hx : sml x) : ∀ p ∈ l, (-20010000 ≤ off_ x p ∧ off_ x p ≤ 20010000) ∧ (-10000000 ≤ x.1 * p.2.1 ∧ x.1 * p.2.1 ≤ 10000000) ∧ (-10000000 ≤ x.2.2.1 * p.1 ∧ x.2.2.1 * p.1 ≤ 10000000) ∧ (-400400100000000 ≤ off_ x p * off_ x p ∧ off_ x p * off_ x p ≤ 400400100000000) := fun p hp => by
  obtain ⟨x1, x2, x3⟩ := hx
  have m1 := abs_mul_le x1 (h.rw p hp)
  have m2 := abs_mul_le x3 (h.kn p hp)
  have a : -20010000 ≤ off_ x p ∧ off_ x p ≤ 20010000 := by unfold off_; omega
  have b := abs_mul_le a a
  omega
theorem MS_bd {l : List Pr} (h : PrOk l) {x : Ln} (hx : sml x) (i : Nat) : -4004001000000000 ≤ MS x (l.take i) ∧ MS x (l.take i) ≤ 4004001000000000 := by
  have := sumF_take_bd (f := fun p => off_ x p * off_ x p) i (show (0 : Int) ≤ 400400100000000 by omega) h.len2 fun p hp => (sml_off h hx p hp).2.2.2
  unfold MS; omega
theorem MisfitOf_ok {l : List Pr} (hl : l.length ≤ 1000000000) (x : Ln) :
    sensor_MisfitOf l x = some (if pairE l ≠ 0 then ((0, 0, ()), pairE l) else if lineE x ≠ 0 then ((0, 0, ()), lineE x) else if sml x then (misf x l, 0) else ((0, 0, ()), 8)) := by
  unfold sensor_MisfitOf
  rw [pairsErr_ok hl, CheckLine_ok, sized_ok _ _ (by omega) (by omega), sized_ok _ _ (by omega) (by omega), sized_ok _ _ (by omega) (by omega)]
  simp only [Option.bind_some]
  have e : (bif decide (-10000 ≤ x.1 ∧ x.1 ≤ 10000) then bif decide (-10000 ≤ x.2.1 ∧ x.2.1 ≤ 10000) then some (decide (-10000 ≤ x.2.2.1 ∧ x.2.2.1 ≤ 10000)) else some false else some false) = some (decide (sml x)) := by
    unfold sml
    by_cases c1 : -10000 ≤ x.1 ∧ x.1 ≤ 10000 <;> by_cases c2 : -10000 ≤ x.2.1 ∧ x.2.1 ≤ 10000 <;> simp only [c1, c2, decide_true, decide_false, cond_true, cond_false, and_true, true_and, false_and, and_false, and_self] <;> rfl
  rw [e]
  simp only [Option.bind_some, unless_ok]
  rw [first_ok _ (by simp)]
  simp only [Option.bind_some, fst0]
  by_cases h : pairE l = 0
  case neg => simp [h]
  simp only [h, if_true, ne_eq, not_true_eq_false, if_false]
  by_cases h2 : lineE x = 0
  case neg => simp [h2]
  simp only [h2, if_true, if_false, not_true_eq_false]
  by_cases h3 : sml x
  case neg => simp [h3]
  simp only [h3, decide_true, if_true, Bool.not_true, cond_false]
  have hp := pair_ok h
  have hx : mst x := by
    unfold lineE at h2
    by_cases c : mst x
    · exact c
    · rw [if_neg c] at h2; omega
  have hl2 := hp.len2
  refine Ok.eq ?_
  rw [ok_bind]
  refine (loop_up l.length (fun i (s : Int × Int) => s = (MS x (l.take i), (i : Int))) (fun r => r = MS x l) rfl ?_).mono ?_
  · rintro i s hi rfl
    by_cases hlt : i < l.length
    · have e0 : decide ((i : Int) < (l.length : Int)) = true := by simp; omega
      have hpi : l[i]? = some l[i] := by simp [hlt]
      have hm := List.mem_of_getElem? hpi
      have ho := offs_ok hp hx _ hm
      have n1 := sumF_next (fun p => off_ x p * off_ x p) hpi
      have b1 := MS_bd hp h3 (i + 1)
      have b2 := (sml_off hp h3 _ hm).2.2.2
      simp only [e0, cond_true]
      rw [idx_of hpi]
      simp only [Option.bind_some]
      rw [off_ok ho]
      simp only [Option.bind_some]
      unfold MS at *
      rw [n1] at b1 ⊢
      rw [wid (n := off_ x l[i] * off_ x l[i]) (by omega) (by omega), wid (n := (i : Int) + 1) (by omega) (by omega), wid (n := _ + off_ x l[i] * off_ x l[i]) (by omega) (by omega), rnd_inl]
      exact ⟨hlt, rfl⟩
    · have : i = l.length := by omega
      subst this
      have e0 : decide ((l.length : Int) < (l.length : Int)) = false := by simp
      simp only [e0, cond_false]
      rw [rnd_inr, List.take_length]
  rintro _ rfl
  have hb := MS_bd hp h3 l.length
  rw [List.take_length] at hb
  obtain ⟨d1, d2, d3⟩ := hx
  obtain ⟨d4, d5, d6⟩ := h3
  have hd : 1 ≤ x.2.2.1 * x.2.2.1 ∧ x.2.2.1 * x.2.2.1 ≤ 100000000 := by
    have := abs_mul_le d6 d6
    have h0 := Int.mul_pos (show 0 < x.2.2.1 by omega) (show 0 < x.2.2.1 by omega)
    omega
  rw [wid (n := x.2.2.1 * x.2.2.1) (by omega) (by omega), fraction_eq (by omega) (by omega) (by omega)]
  simp only [Option.bind_some, ok_some]
  rfl
theorem Misfit_ok {l : List Pr} (h : PrOk l) {x : Ln} (hm : mst x) (hx : sml x) : ref07_Misfit l x = some (misf x l) := by
  unfold ref07_Misfit
  have hl := h.len2
  refine Ok.eq ?_
  rw [ok_bind]
  refine (loop_up l.length (fun i (s : Int × Int) => s = (MS x (l.take i), (i : Int))) (fun r => r = MS x l) rfl ?_).mono ?_
  · rintro i s hi rfl
    by_cases hlt : i < l.length
    · have e0 : decide ((i : Int) < (l.length : Int)) = true := by simp; omega
      have hpi : l[i]? = some l[i] := by simp [hlt]
      have hmm := List.mem_of_getElem? hpi
      have n1 := sumF_next (fun p => off_ x p * off_ x p) hpi
      have b1 := MS_bd h hx (i + 1)
      have b2 := sml_off h hx _ hmm
      obtain ⟨_, x2, _⟩ := hx
      simp only [e0, cond_true]
      rw [idx_of hpi]
      simp only [Option.bind_some]
      have eo : w64 ((w64 ((w64 (x.1 * l[i].2.1)) + x.2.1)) - (w64 (x.2.2.1 * l[i].1))) = off_ x l[i] := by
        unfold off_ at *
        rw [wid (n := x.1 * l[i].2.1) (by omega) (by omega), wid (n := x.2.2.1 * l[i].1) (by omega) (by omega), wid (n := x.1 * l[i].2.1 + x.2.1) (by omega) (by omega), wid (by omega) (by omega)]
      rw [eo]
      unfold MS at *
      rw [n1] at b1 ⊢
      rw [wid (n := off_ x l[i] * off_ x l[i]) (by omega) (by omega), wid (n := (i : Int) + 1) (by omega) (by omega), wid (n := _ + off_ x l[i] * off_ x l[i]) (by omega) (by omega), rnd_inl]
      exact ⟨hlt, rfl⟩
    · have : i = l.length := by omega
      subst this
      have e0 : decide ((l.length : Int) < (l.length : Int)) = false := by simp
      simp only [e0, cond_false]
      rw [rnd_inr, List.take_length]
  rintro _ rfl
  have hb := MS_bd h hx l.length
  rw [List.take_length] at hb
  obtain ⟨d1, d2, d3⟩ := hm
  obtain ⟨d4, d5, d6⟩ := hx
  have hd : 1 ≤ x.2.2.1 * x.2.2.1 ∧ x.2.2.1 * x.2.2.1 ≤ 100000000 := by
    have := abs_mul_le d6 d6
    have h0 := Int.mul_pos (show 0 < x.2.2.1 by omega) (show 0 < x.2.2.1 by omega)
    omega
  rw [wid (n := x.2.2.1 * x.2.2.1) (by omega) (by omega)]
  unfold base_Lowest
  rw [Gcd_ok (by omega) (by omega)]
  have hg := Int.gcd_pos_of_ne_zero_right (MS x l) (show x.2.2.1 * x.2.2.1 ≠ 0 by omega)
  have hg' : ¬ ((Int.gcd (MS x l) (x.2.2.1 * x.2.2.1) : Int) = 0) := by omega
  have hn : ¬ (x.2.2.1 * x.2.2.1 < 0) := by omega
  simp only [Option.bind_some, hn, hg', decide_false, cond_false]
  have t1 := tdiv_abs (MS x l) (Int.gcd (MS x l) (x.2.2.1 * x.2.2.1))
  have t2 := tdiv_abs (x.2.2.1 * x.2.2.1) (Int.gcd (MS x l) (x.2.2.1 * x.2.2.1))
  rw [wid (by omega) (by omega), wid (by omega) (by omega), ok_some]
  rfl
theorem SmallErr_ok {x : Ln} (hm : mst x) : ref07_SmallErr x = some (if sml x then 0 else 8) := by
  unfold ref07_SmallErr
  obtain ⟨d1, d2, d3⟩ := hm
  rw [Size_eq (by omega), Size_eq (by omega)]
  simp only [Option.bind_some]
  have e : (bif decide ((x.1.natAbs : Int) > 10000) then some true else bif decide ((x.2.1.natAbs : Int) > 10000) then some true else some (decide (x.2.2.1 > 10000))) = some (!(decide (sml x))) := by
    by_cases c1 : (x.1.natAbs : Int) > 10000
    · have : ¬ sml x := fun h => by obtain ⟨h1, _⟩ := h; omega
      simp [c1, this]
    · by_cases c2 : (x.2.1.natAbs : Int) > 10000
      · have : ¬ sml x := fun h => by obtain ⟨_, h1, _⟩ := h; omega
        simp [c1, c2, this]
      · by_cases c3 : x.2.2.1 > 10000
        · have : ¬ sml x := fun h => by obtain ⟨_, _, h1⟩ := h; omega
          simp [c1, c2, c3, this]
        · have : sml x := ⟨by omega, by omega, by omega⟩
          simp [c1, c2, c3, this]
  rw [e]
  by_cases c : sml x <;> simp [c]

/-! ### the law -/
theorem SensorCalibrations_eq (l : List Pr) (x : Ln) (hl : l.length ≤ 9223372036854775807) (hr : ∀ p ∈ l, in64 p.1 ∧ in64 p.2.1) : law07_SensorCalibrations l x = some true := by
  unfold law07_SensorCalibrations law07_few
  have aw : law07_awake = some true := rfl
  rw [aw]
  simp only [Option.bind_some, Bool.not_true, cond_false]
  by_cases h12 : (l.length : Int) ≤ 12
  case neg => simp [h12]
  simp only [h12, decide_true, Bool.not_true, cond_false]
  rw [CopyPairs_ok (by omega)]
  simp only [Option.bind_some]
  rw [CalibrationOf_ok (by omega), CheckCalibration_ok (by omega), MisfitOf_ok (by omega), CheckLine_ok, LineErr_ok, refPairsErr_ok (by omega) hr]
  simp only [Option.bind_some, decide_true, Bool.not_true, cond_false]
  by_cases h : pairE l = 0
  case neg => simp [h]
  have hp := pair_ok h
  rw [Flat_ok hp]
  simp only [h, ne_eq, not_true_eq_false, if_false, decide_true, Bool.not_true, cond_false, Option.bind_some]
  have tail : ∀ (k : Option Bool), (bif (!(decide (lineE x = 0))) then k else (some true : Option Bool)) = (if lineE x = 0 then some true else k) := fun k => by by_cases c : lineE x = 0 <;> simp [c]
  by_cases hs : spread_ l = 0
  · simp only [hs, decide_true, if_true, cond_true, Bool.not_true, cond_false, Option.bind_some]
    by_cases h2 : lineE x = 0
    · have hx : mst x := by
        unfold lineE at h2
        by_cases c : mst x
        · exact c
        · rw [if_neg c] at h2; omega
      rw [CalibrationErr_ok hp hx, SmallErr_ok hx]
      by_cases c : sml x
      · rw [Misfit_ok hp hx c]
        simp [h2, c]
      · simp [h2, c]
    · simp [h2]
  · rw [Calibration_ok hp hs]
    simp only [hs, decide_false, if_false, cond_false, Bool.not_false, cond_true, Option.bind_some]
    by_cases h2 : lineE x = 0
    · have hx : mst x := by
        unfold lineE at h2
        by_cases c : mst x
        · exact c
        · rw [if_neg c] at h2; omega
      rw [CalibrationErr_ok hp hx, SmallErr_ok hx]
      by_cases c : sml x
      · rw [Misfit_ok hp hx c]
        simp [h2, c]
      · simp [h2, c]
    · simp [h2]
theorem law07_SensorCalibrations_true : ∀ x : denP ([Ty.sl (.pair I (.pair I .unit)), .pair I (.pair I (.pair I .unit))].map .ty), RngP maxLen [.sl (.pair I (.pair I .unit)), .pair I (.pair I (.pair I .unit))] x → e_law07_SensorCalibrations.F x = some true := by
  rintro ⟨a0, a1⟩ ⟨⟨h0, h1⟩, _⟩
  refine SensorCalibrations_eq a0 a1 (Nat.le_trans h0 (by decide)) fun p hp => ?_
  obtain ⟨h2, h3, _⟩ := h1 p hp
  exact ⟨h2, h3⟩
end Go.Proofs.Ytpiggpgocnlomaa
end
section
/-
  THE LAW SensorCalibrations.
-/
namespace Go.Proofs.Ytpiggpgocnlomaa.sensorCalibrations
open Go Go.Ab Go.Tx Go.ChangeShapes Go.WideShapes Go.ChangeAt Go.RowKit
set_option linter.unusedVariables false
theorem hlib : ∀ g h args r, Lb g = some h → h args = some r → CallOk Try.prog g args [] r [] := fun g h args r hg hr => by
  unfold Lb at hg
  split at hg
  · rename_i e
    subst e
    cases hg
    cases args with
    | nil => cases hr; exact awake_ok
    | cons a l => cases hr
  · cases hg
set_option maxRecDepth 100000 in
theorem contract (H : Type) (enc : TypeId × Value → H) (W : World) (base : Nat) (args : Array Value) (ds gs : List (DataW H)) (before : List MemPlace)
    (hval : ∀ (j : Nat) t v, Try.f8.params[j]? = some t → args[j]? = some v → Value.okWide Try.prog W .any base t v)
    (hW : DataW.Whole enc Try.prog Try.f8.params.toList Rows.sensorCalibrationsSpec.vars false W args.toList ds gs before) :
    Calls Try.prog 8 args W fun e W' => ∃ v, e = .returned v ∧ Rows.sensorCalibrationsSpec.post enc Try.prog Try.f8 false true false false W args v W' :=
  law_contract (τs := [.sl (.pair I (.pair I .unit)), .pair I (.pair I (.pair I .unit))]) (ts := [75, 77]) (tb := 4) (F := e_law07_SensorCalibrations.F) follows hname hlib laid_out Try.func8 (by kernel_rfl) (by kernel_rfl) (by kernel_rfl) (by kernel_rfl) (by kernel_rfl) (by kernel_rfl) Try.underlying4 o_law07_SensorCalibrations law07_SensorCalibrations_true rfl
    (fun H ds h => by
      match ds, h with
      | [d1, d2], _ => rfl) H enc W base args ds gs before hval hW
set_option maxRecDepth 100000 in
theorem lifted (os : Os) (started : os.Started) (H : Type) (enc : TypeId × Value → H) :
    ReturnsInHanded {} Try.checked os 8 .any (Rows.sensorCalibrationsSpec.pre6 enc Try.prog Try.f8 Rows.sensorCalibrationsRow.domain false) (Rows.sensorCalibrationsSpec.post enc Try.prog Try.f8 false true false false) := by
  refine returnsInHanded_of_change (C := Try.checked) own started (by kernel_rfl) Try.func8
    (ChangeSpec.witness6 (enc := enc) (C := Try.checked) false ⟨#[], #[.slice none 0 0, .agg #[.int .i64 0, .int .i64 0, .int .i64 0]], []⟩ 8 (by kernel_rfl) (by kernel_rfl) (by kernel_rfl) (by kernel_rfl)) ?_
  intro W base args ds gs before hval hW _ _
  exact contract H enc W base args ds gs before hval hW
theorem proved : Rows.SensorCalibrationsSaid :=
  OpenClaim.holds_of_wide 8 Try.f8 rfl rfl rfl rfl rfl rfl rfl ⟨rfl, rfl, rfl, rfl, rfl⟩ rfl rfl rfl rfl rfl (by kernel_rfl) Try.func8 (by kernel_rfl)
    (of_decide_eq_true (by kernel_rfl)) (by unfold Func.isWrapper; first | (rw [if_pos (by decide +kernel)]; kernel_rfl) | (rw [if_neg (by decide +kernel)]; exact ⟨rfl, rfl⟩))
    (fun os started H enc _ => lifted os started H enc)
end Go.Proofs.Ytpiggpgocnlomaa.sensorCalibrations
end
