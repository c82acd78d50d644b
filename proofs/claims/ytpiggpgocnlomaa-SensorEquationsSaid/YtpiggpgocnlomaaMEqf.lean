/-
  ONE LAW OF A CHAPTER: its program side is run by an interpreter that is proved sound; what it computes is shown to be what the law says. No conditions. Part 6 of 6.
-/
import Derived.Test.YtpiggpgocnlomaaMEqe
section
/-
  CALIBRATIONS: the reference's calibration, flat pairs, accepted lines, misfits; the law.
-/
set_option linter.unusedVariables false
set_option linter.unusedSimpArgs false
namespace Go.Proofs.Ytpiggpgocnlomaa
open Go Go.Ab Go.Tx Go.Wide

/-! ### flat pairs -/
def FlatP (l : List Pr) : Prop := ∀ j, j < l.length → (l.getD j (0, 0, ())).2.1 = (l.getD 0 (0, 0, ())).2.1
theorem sumSq (a : Int) (l : List Pr) : sumF (fun p => (p.2.1 - a) * (p.2.1 - a)) l = SQ l - 2 * (a * S1 l) + a * a * l.length := by
  unfold SQ S1
  induction l with
  | nil => simp [sumF]
  | cons p l ih =>
    simp only [sumF, List.length_cons]
    rw [ih, Int.natCast_add]
    generalize sumF (fun p : Pr => p.2.1 * p.2.1) l = q
    generalize sumF (fun p : Pr => p.2.1) l = s
    generalize (l.length : Int) = n
    generalize p.2.1 = x
    simp only [Int.natCast_one]
    grind
theorem spread_cons (p : Pr) (l : List Pr) : spread_ (p :: l) = spread_ l + sumF (fun q => (q.2.1 - p.2.1) * (q.2.1 - p.2.1)) l := by
  rw [sumSq]
  unfold spread_ SQ S1
  simp only [sumF, List.length_cons]
  rw [Int.natCast_add]
  generalize sumF (fun p : Pr => p.2.1 * p.2.1) l = q
  generalize sumF (fun p : Pr => p.2.1) l = s
  generalize (l.length : Int) = n
  generalize p.2.1 = x
  simp only [Int.natCast_one]
  grind
theorem spread_nonneg : ∀ l : List Pr, 0 ≤ spread_ l
  | [] => by simp [spread_, SQ, S1, sumF]
  | p :: l => by
    rw [spread_cons]
    have h1 := spread_nonneg l
    have h2 := sumF_nonneg (f := fun q : Pr => (q.2.1 - p.2.1) * (q.2.1 - p.2.1)) (l := l) fun a _ => sq_nonneg _
    omega
theorem spread_flat {l : List Pr} (a : Int) (h : ∀ p ∈ l, p.2.1 = a) : spread_ l = 0 := by
  unfold spread_ SQ S1
  rw [sumF_congr (g := fun _ => a) h, sumF_congr (f := fun p : Pr => p.2.1 * p.2.1) (g := fun _ => a * a) (fun p hp => by rw [h p hp]), sumF_const, sumF_const]
  grind
theorem spread_zero {l : List Pr} (hl : 1 ≤ l.length) : spread_ l = 0 ↔ FlatP l := by
  cases l with
  | nil => simp at hl
  | cons p l =>
    constructor
    · intro h
      rw [spread_cons] at h
      have h1 := spread_nonneg l
      have h2 := sumF_nonneg (f := fun q : Pr => (q.2.1 - p.2.1) * (q.2.1 - p.2.1)) (l := l) fun a _ => sq_nonneg _
      have h3 := (sumF_zero (f := fun q : Pr => (q.2.1 - p.2.1) * (q.2.1 - p.2.1)) (l := l) fun a _ => sq_nonneg _).1 (by omega)
      intro j hj
      cases j with
      | zero => rfl
      | succ j =>
        have hj' : j < l.length := by simpa using hj
        have := sq_zero (h3 _ (getD_mem (d := (0, 0, ())) hj'))
        simp only [List.getD_cons_succ, List.getD_cons_zero]
        omega
    · intro h
      refine spread_flat p.2.1 fun q hq => ?_
      obtain ⟨j, hj⟩ := List.mem_iff_getElem?.1 hq
      have := h j (len_lt hj)
      rw [Go.Tx.getD_at hj] at this
      simpa using this
theorem Flat_ok {l : List Pr} (h : PrOk l) : ref07_Flat l = some (decide (spread_ l = 0)) := by
  unfold ref07_Flat
  have h1 := h.len1
  have h2 := h.len2
  refine Ok.eq ?_
  rw [ok_elim]
  refine (loop_up (l.length - 1) (fun i (s : Int) => s = (i : Int) + 1 ∧ ∀ j, j < i + 1 → (l.getD j (0, 0, ())).2.1 = (l.getD 0 (0, 0, ())).2.1)
    (fun r => (r = .inl () ∧ FlatP l) ∨ (r = .inr false ∧ ¬ FlatP l)) ⟨rfl, fun j hj => by
      have : j = 0 := by omega
      subst this; rfl⟩ ?_).mono ?_
  · rintro i s hi ⟨rfl, hI⟩
    by_cases hlt : i + 1 < l.length
    · have e0 : decide ((i : Int) + 1 < (l.length : Int)) = true := by simp; omega
      simp only [e0, cond_true]
      rw [idx_in (0, 0, ()) (by omega) (by omega), idx_in (0, 0, ()) (by omega) (by omega)]
      have e1 : ((i : Int) + 1).toNat = i + 1 := by omega
      simp only [Option.bind_some, e1, Int.toNat_zero]
      by_cases c : (l.getD (i + 1) (0, 0, ())).2.1 = (l.getD 0 (0, 0, ())).2.1
      · simp only [c, decide_true, Bool.not_true, cond_false]
        rw [wid (by omega) (by omega), rnd_inl]
        refine ⟨by omega, by omega, fun j hj => ?_⟩
        by_cases hji : j < i + 1
        · exact hI j hji
        · have : j = i + 1 := by omega
          subst this; exact c
      · simp only [c, decide_false, Bool.not_false, cond_true]
        rw [rnd_inr]
        exact .inr ⟨rfl, fun hf => c (hf _ hlt)⟩
    · have e0 : decide ((i : Int) + 1 < (l.length : Int)) = false := by simp; omega
      simp only [e0, cond_false]
      rw [rnd_inr]
      exact .inl ⟨rfl, fun j hj => hI j (by omega)⟩
  · rintro r (⟨rfl, hf⟩ | ⟨rfl, hf⟩)
    · simp [ok_some, (spread_zero h1).2 hf]
    · simp only; rw [eq_comm, decide_eq_false_iff_not]; exact fun h0 => hf ((spread_zero h1).1 h0)

/-! ### the reference's calibration -/
theorem Calibration_ok {l : List Pr} (h : PrOk l) (hs : spread_ l ≠ 0) : ref07_Calibration l = some (cal l) := by
  unfold ref07_Calibration
  have hl := h.len2
  refine Ok.eq ?_
  rw [ok_bind]
  refine (loop_up l.length (fun i (s : Int × Int × Int × Int × Int) => s = (S1 (l.take i), SK (l.take i), SQ (l.take i), SP (l.take i), (i : Int)))
    (fun r => r = (S1 l, SK l, SQ l, SP l)) rfl ?_).mono ?_
  · rintro i s hi rfl
    by_cases hlt : i < l.length
    · have e0 : decide ((i : Int) < (l.length : Int)) = true := by simp; omega
      have hp : l[i]? = some l[i] := by simp [hlt]
      have hm := List.mem_of_getElem? hp
      have b := h.sums i
      have b1 := h.kn _ hm
      have b2 := h.rw _ hm
      have b3 := h.sq _ hm
      have b4 := h.sp _ hm
      obtain ⟨c1, c2, c3, c4⟩ := b
      simp only [e0, cond_true]
      rw [idx_of hp]
      simp only [Option.bind_some]
      have n1 := sumF_next (fun p : Pr => p.2.1) hp
      have n2 := sumF_next (fun p : Pr => p.1) hp
      have n3 := sumF_next (fun p : Pr => p.2.1 * p.2.1) hp
      have n4 := sumF_next (fun p : Pr => p.2.1 * p.1) hp
      unfold S1 SK SQ SP at *
      generalize l[i] = p at *
      rw [wid (n := p.2.1 * p.2.1) (by omega) (by omega), wid (n := p.2.1 * p.1) (by omega) (by omega), wid (n := (i : Int) + 1) (by omega) (by omega), wid (n := _ + p.2.1) (by omega) (by omega), wid (n := _ + p.1) (by omega) (by omega), wid (n := _ + p.2.1 * p.2.1) (by omega) (by omega), wid (n := _ + p.2.1 * p.1) (by omega) (by omega), rnd_inl, n1, n2, n3, n4]
      exact ⟨hlt, rfl⟩
    · have : i = l.length := by omega
      subst this
      have e0 : decide ((l.length : Int) < (l.length : Int)) = false := by simp
      simp only [e0, cond_false]
      rw [rnd_inr, List.take_length]
  rintro _ rfl
  obtain ⟨a1, a2, a3, a4, a5, a6⟩ := h.prods
  obtain ⟨g1, g2, g3⟩ := h.big
  simp only
  rw [wid (n := (l.length : Int) * SP l) (by omega) (by omega), wid (n := S1 l * SK l) (by omega) (by omega), wid (n := SQ l * SK l) (by omega) (by omega), wid (n := S1 l * SP l) (by omega) (by omega), wid (n := (l.length : Int) * SP l - S1 l * SK l) (by omega) (by omega), wid (n := SQ l * SK l - S1 l * SP l) (by omega) (by omega),
    wid (n := (l.length : Int) * SQ l) (by omega) (by omega), wid (n := S1 l * S1 l) (by omega) (by omega), wid (n := (l.length : Int) * SQ l - S1 l * S1 l) (by omega) (by omega)]
  have hlow : ref07_lowest (gain_ l) (offs_ l) (spread_ l) = some (cal l) := by
    unfold ref07_lowest
    rw [← Option.bind_assoc, Gcd3_ok (B := 1000000000000) (by omega) g1 g2 g3]
    have hg := gcd3_pos (g := gain_ l) (o := offs_ l) hs
    have hg' : ¬ ((gcd3 (gain_ l) (offs_ l) (spread_ l) : Int) = 0) := by omega
    simp only [Option.bind_some, hg', decide_false, cond_false]
    have t1 := tdiv_abs (gain_ l) (gcd3 (gain_ l) (offs_ l) (spread_ l))
    have t2 := tdiv_abs (offs_ l) (gcd3 (gain_ l) (offs_ l) (spread_ l))
    have t3 := tdiv_abs (spread_ l) (gcd3 (gain_ l) (offs_ l) (spread_ l))
    rw [wid (by omega) (by omega), wid (by omega) (by omega), wid (by omega) (by omega)]
    rfl
  have : ref07_lowest ((l.length : Int) * SP l - S1 l * SK l) (SQ l * SK l - S1 l * SP l) ((l.length : Int) * SQ l - S1 l * S1 l) = some (cal l) := hlow
  rw [this]
  simp only [Option.bind_some, ok_some]

/-! ### accepted lines -/
def off_ (x : Ln) (p : Pr) : Int := x.1 * p.2.1 + x.2.1 - x.2.2.1 * p.1
def PL (x : Ln) (l : List Pr) : Int := sumF (off_ x) l
def WL (x : Ln) (l : List Pr) : Int := sumF (fun p => off_ x p * p.2.1) l
structure Offs (x : Ln) (p : Pr) : Prop where
  m1 : -300000000000000 ≤ x.1 * p.2.1 ∧ x.1 * p.2.1 ≤ 300000000000000
  m2 : -300000000000000 ≤ x.2.2.1 * p.1 ∧ x.2.2.1 * p.1 ≤ 300000000000000
  o : -300000000000 ≤ x.2.1 ∧ x.2.1 ≤ 300000000000
  a : -600300000000000 ≤ off_ x p ∧ off_ x p ≤ 600300000000000
  b : -600300000000000000 ≤ off_ x p * p.2.1 ∧ off_ x p * p.2.1 ≤ 600300000000000000
theorem offs_ok {l : List Pr} (h : PrOk l) {x : Ln} (hx : mst x) : ∀ p ∈ l, Offs x p := fun p hp => by
  obtain ⟨x1, x2, x3⟩ := hx
  have m1 := abs_mul_le x2 (h.rw p hp)
  have m2 := abs_mul_le (a := x.2.2.1) (A := 300000000000) (by omega) (h.kn p hp)
  have a : -600300000000000 ≤ off_ x p ∧ off_ x p ≤ 600300000000000 := by unfold off_; omega
  have b := abs_mul_le a (h.rw p hp)
  exact ⟨by omega, by omega, x3, a, by omega⟩
theorem off_ok {x : Ln} {p : Pr} (h : Offs x p) : sensor_off x p = some (off_ x p) := by
  obtain ⟨h1, h2, h3, h4, h5⟩ := h
  unfold sensor_off
  unfold off_ at *
  rw [wid (n := x.1 * p.2.1) (by omega) (by omega), wid (n := x.2.2.1 * p.1) (by omega) (by omega), wid (n := x.1 * p.2.1 + x.2.1) (by omega) (by omega), wid (by omega) (by omega)]
theorem PL_bd {l : List Pr} (h : PrOk l) {x : Ln} (hx : mst x) (i : Nat) : -6003000000000000 ≤ PL x (l.take i) ∧ PL x (l.take i) ≤ 6003000000000000 := by
  have := sumF_take_bd (f := off_ x) i (show (0 : Int) ≤ 600300000000000 by omega) h.len2 fun p hp => (offs_ok h hx p hp).a
  unfold PL; omega
theorem WL_bd {l : List Pr} (h : PrOk l) {x : Ln} (hx : mst x) (i : Nat) : -6003000000000000000 ≤ WL x (l.take i) ∧ WL x (l.take i) ≤ 6003000000000000000 := by
  have := sumF_take_bd (f := fun p => off_ x p * p.2.1) i (show (0 : Int) ≤ 600300000000000000 by omega) h.len2 fun p hp => (offs_ok h hx p hp).b
  unfold WL; omega
def accE (l : List Pr) (x : Ln) : Int × Int := if PL x l ≠ 0 then (0, 19) else if WL x l ≠ 0 then (1, 19) else (0, if spread_ l = 0 then 11 else 0)
theorem CheckCalibration_ok {l : List Pr} (hl : l.length ≤ 1000000000) (x : Ln) :
    sensor_CheckCalibration l x = some (if pairE l ≠ 0 then (0, pairE l) else if lineE x ≠ 0 then (0, lineE x) else accE l x) := by
  unfold sensor_CheckCalibration
  rw [pairsErr_ok hl]
  have hcl : sensor_CheckLine (x.1, x.2.1, x.2.2.1, ()) = some (lineE x) := CheckLine_ok x
  rw [hcl]
  simp only [Option.bind_some]
  rw [first_ok _ (by simp)]
  simp only [Option.bind_some, fst0]
  by_cases h : pairE l = 0
  case neg => simp [h]
  simp only [h, if_true, ne_eq, not_true_eq_false, if_false]
  by_cases h2 : lineE x = 0
  case neg => simp [h2]
  simp only [h2, if_true, if_false, decide_true, Bool.not_true, cond_false, not_true_eq_false]
  have hp := pair_ok h
  have hx : mst x := by
    unfold lineE at h2
    by_cases c : mst x
    · exact c
    · rw [if_neg c] at h2; omega
  have hl2 := hp.len2
  refine Ok.eq ?_
  rw [ok_bind]
  refine (loop_up l.length (fun i (s : Int × Int × Int) => s = (PL x (l.take i), WL x (l.take i), (i : Int)))
    (fun r => r = (PL x l, WL x l)) rfl ?_).mono ?_
  · rintro i s hi rfl
    by_cases hlt : i < l.length
    · have e0 : decide ((i : Int) < (l.length : Int)) = true := by simp; omega
      have hpi : l[i]? = some l[i] := by simp [hlt]
      have hm := List.mem_of_getElem? hpi
      have ho := offs_ok hp hx _ hm
      have n1 := sumF_next (off_ x) hpi
      have n2 := sumF_next (fun p => off_ x p * p.2.1) hpi
      have b1 := PL_bd hp hx (i + 1)
      have b2 := WL_bd hp hx (i + 1)
      simp only [e0, cond_true]
      rw [idx_of hpi]
      simp only [Option.bind_some]
      have hof : sensor_off (x.1, x.2.1, x.2.2.1, ()) l[i] = some (off_ x l[i]) := off_ok ho
      rw [hof]
      simp only [Option.bind_some]
      unfold PL WL at *
      rw [n1] at b1 ⊢
      rw [n2] at b2 ⊢
      obtain ⟨_, _, _, _, o5⟩ := ho
      rw [wid (n := off_ x l[i] * l[i].2.1) (by omega) (by omega), wid (n := (i : Int) + 1) (by omega) (by omega), wid (n := _ + off_ x l[i]) (by omega) (by omega), wid (n := _ + off_ x l[i] * l[i].2.1) (by omega) (by omega), rnd_inl]
      exact ⟨hlt, rfl⟩
    · have : i = l.length := by omega
      subst this
      have e0 : decide ((l.length : Int) < (l.length : Int)) = false := by simp
      simp only [e0, cond_false]
      rw [rnd_inr, List.take_length]
  rintro _ rfl
  unfold accE
  by_cases c1 : PL x l = 0
  · by_cases c2 : WL x l = 0
    · rw [of_ok hp]
      simp only [c1, c2, decide_true, Bool.not_true, cond_false, Option.bind_some]
      rw [spread_ok hp]
      simp only [Option.bind_some, unless_ok]
      by_cases c3 : spread_ l = 0 <;> simp [c3, ok_some]
    · simp [c1, c2, ok_some]
  · simp [c1, ok_some]
theorem W0 : (W 0).1 = 0 ∧ (W 0).2.1 = [] := by rw [W_zero]; exact ⟨rfl, rfl⟩
theorem Sums_ok {l : List Pr} (h : PrOk l) {x : Ln} (hx : mst x) : ref07_Sums l x = some ((W (PL x l)).1, (W (PL x l)).2.1, (W (WL x l)).1, (W (WL x l)).2.1, ()) := by
  unfold ref07_Sums
  have hl := h.len2
  refine Ok.eq ?_
  rw [ok_bind]
  refine (loop_up l.length (fun i (s : Int × Int × List Int × Int × List Int) => s = ((i : Int), (W (PL x (l.take i))).1, (W (PL x (l.take i))).2.1, (W (WL x (l.take i))).1, (W (WL x (l.take i))).2.1))
    (fun r => r = ((W (PL x l)).1, (W (PL x l)).2.1, (W (WL x l)).1, (W (WL x l)).2.1)) ?_ ?_).mono ?_
  · have e1 : PL x ([] : List Pr) = 0 := rfl
    have e2 : WL x ([] : List Pr) = 0 := rfl
    simp only [List.take_zero, e1, e2, W0.1, W0.2]
    rfl
  · rintro i s hi rfl
    by_cases hlt : i < l.length
    · have e0 : decide ((i : Int) < (l.length : Int)) = true := by simp; omega
      have hpi : l[i]? = some l[i] := by simp [hlt]
      have hm := List.mem_of_getElem? hpi
      have ho := offs_ok h hx _ hm
      have n1 := sumF_next (off_ x) hpi
      have n2 := sumF_next (fun p => off_ x p * p.2.1) hpi
      have b1 := PL_bd h hx i
      have b2 := WL_bd h hx i
      have k1 := h.kn _ hm
      have k2 := h.rw _ hm
      have hx' := hx
      obtain ⟨x1, x2, x3⟩ := hx'
      simp only [e0, cond_true]
      rw [idx_of hpi]
      simp only [Option.bind_some]
      obtain ⟨o1, o2, o3, o4, o5⟩ := ho
      rw [WideOf_ok (n := x.1) (by omega), WideOf_ok (n := x.2.1) (by omega), WideOf_ok (n := x.2.2.1) (by omega), WideOf_ok (n := l[i].1) (by omega), WideOf_ok (n := l[i].2.1) (by omega)]
      simp only [Option.bind_some]
      have wb : ∀ n : Int, n.natAbs ≤ 999999999999999999999999999 → wl n ≤ 10000 := fun n hn => Nat.le_trans (wl_int hn) (by omega)
      have wb' : ∀ n : Int, n.natAbs ≤ 999999999999999999999999999 → wl n ≤ 100000 := fun n hn => Nat.le_trans (wl_int hn) (by omega)
      rw [WideMul_ok x.1 l[i].2.1 (wb _ (by omega)) (wb _ (by omega)), WideMul_ok x.2.2.1 l[i].1 (wb _ (by omega)) (wb _ (by omega))]
      simp only [Option.bind_some]
      rw [WideAdd_ok _ _ (wb' _ (by omega)) (wb' _ (by omega))]
      simp only [Option.bind_some]
      rw [WideSub_ok _ _ (wb' _ (by omega)) (wb' _ (by omega))]
      simp only [Option.bind_some]
      have eo : x.1 * l[i].2.1 + x.2.1 - x.2.2.1 * l[i].1 = off_ x l[i] := rfl
      rw [eo]
      have a1 : base_WideAdd ((W (PL x (l.take i))).1, (W (PL x (l.take i))).2.1, ()) (W (off_ x l[i])) = some (W (PL x (l.take i) + off_ x l[i])) := WideAdd_ok _ _ (wb' _ (by omega)) (wb' _ (by omega))
      rw [a1]
      simp only [Option.bind_some]
      rw [WideMul_ok _ _ (wb _ (by omega)) (wb _ (by omega))]
      simp only [Option.bind_some]
      have a2 : base_WideAdd ((W (WL x (l.take i))).1, (W (WL x (l.take i))).2.1, ()) (W (off_ x l[i] * l[i].2.1)) = some (W (WL x (l.take i) + off_ x l[i] * l[i].2.1)) := WideAdd_ok _ _ (wb' _ (by omega)) (wb' _ (by omega))
      rw [a2]
      simp only [Option.bind_some]
      rw [wid (n := (i : Int) + 1) (by omega) (by omega), rnd_inl]
      refine ⟨hlt, ?_⟩
      have m1 : PL x (l.take (i + 1)) = PL x (l.take i) + off_ x l[i] := n1
      have m2 : WL x (l.take (i + 1)) = WL x (l.take i) + off_ x l[i] * l[i].2.1 := n2
      rw [m1, m2]
      rfl
    · have : i = l.length := by omega
      subst this
      have e0 : decide ((l.length : Int) < (l.length : Int)) = false := by simp
      simp only [e0, cond_false]
      rw [rnd_inr, List.take_length]
  · rintro _ rfl
    rw [ok_some]
theorem CalibrationErr_ok {l : List Pr} (h : PrOk l) {x : Ln} (hx : mst x) : ref07_CalibrationErr l x = some (accE l x) := by
  unfold ref07_CalibrationErr accE
  rw [Sums_ok h hx]
  simp only [Option.bind_some]
  have e1 : base_WideSign ((W (PL x l)).1, (W (PL x l)).2.1, ()) = some (PL x l).sign := rfl
  have e2 : base_WideSign ((W (WL x l)).1, (W (WL x l)).2.1, ()) = some (WL x l).sign := rfl
  rw [e1, e2, Flat_ok h]
  simp only [Option.bind_some]
  have s1 := sign_zero (PL x l)
  have s2 := sign_zero (WL x l)
  by_cases c1 : PL x l = 0
  · by_cases c2 : WL x l = 0
    · by_cases c3 : spread_ l = 0 <;> simp [c1, c2, c3]
    · have : ¬ (WL x l).sign = 0 := fun h => c2 (s2.1 h)
      simp only [c1, c2, this, Int.sign_zero, decide_true, decide_false, Bool.not_true, Bool.not_false, cond_true, cond_false, ne_eq, not_true_eq_false, not_false_eq_true, if_true, if_false]
  · have : ¬ (PL x l).sign = 0 := fun h => c1 (s1.1 h)
    simp only [c1, this, decide_false, Bool.not_false, cond_true, ne_eq, not_false_eq_true, if_true]

/-! ### misfits -/
def sml (x : Ln) : Prop := (-10000 ≤ x.1 ∧ x.1 ≤ 10000) ∧ (-10000 ≤ x.2.1 ∧ x.2.1 ≤ 10000) ∧ (-10000 ≤ x.2.2.1 ∧ x.2.2.1 ≤ 10000)
instance (x : Ln) : Decidable (sml x) := inferInstanceAs (Decidable (_ ∧ _))
def MS (x : Ln) (l : List Pr) : Int := sumF (fun p => off_ x p * off_ x p) l
def misf (x : Ln) (l : List Pr) : Int × Int × Unit := ((MS x l).tdiv (Int.gcd (MS x l) (x.2.2.1 * x.2.2.1)), (x.2.2.1 * x.2.2.1).tdiv (Int.gcd (MS x l) (x.2.2.1 * x.2.2.1)), ())
theorem sml_off {l : List Pr} (h : PrOk l) {x : Ln} (hx : sml x) : ∀ p ∈ l, (-20010000 ≤ off_ x p ∧ off_ x p ≤ 20010000) ∧ (-10000000 ≤ x.1 * p.2.1 ∧ x.1 * p.2.1 ≤ 10000000) ∧ (-10000000 ≤ x.2.2.1 * p.1 ∧ x.2.2.1 * p.1 ≤ 10000000) ∧ (-400400100000000 ≤ off_ x p * off_ x p ∧ off_ x p * off_ x p ≤ 400400100000000) := fun p hp => by
  obtain ⟨x1, x2, x3⟩ := hx
  have m1 := abs_mul_le x1 (h.rw p hp)
  have m2 := abs_mul_le x3 (h.kn p hp)
  have a : -20010000 ≤ off_ x p ∧ off_ x p ≤ 20010000 := by unfold off_; omega
  have b := abs_mul_le a a
  omega
theorem MS_bd {l : List Pr} (h : PrOk l) {x : Ln} (hx : sml x) (i : Nat) : -4004001000000000 ≤ MS x (l.take i) ∧ MS x (l.take i) ≤ 4004001000000000 := by
  have := sumF_take_bd (f := fun p => off_ x p * off_ x p) i (show (0 : Int) ≤ 400400100000000 by omega) h.len2 fun p hp => (sml_off h hx p hp).2.2.2
  unfold MS; omega
theorem MisfitOf_ok {l : List Pr} (hl : l.length ≤ 1000000000) (x : Ln) :
    sensor_MisfitOf l x = some (if pairE l ≠ 0 then ((0, 0, ()), pairE l) else if lineE x ≠ 0 then ((0, 0, ()), lineE x) else if sml x then (misf x l, 0) else ((0, 0, ()), 8)) := by
  unfold sensor_MisfitOf
  rw [pairsErr_ok hl, CheckLine_ok, sized_ok _ _ (by omega) (by omega), sized_ok _ _ (by omega) (by omega), sized_ok _ _ (by omega) (by omega)]
  simp only [Option.bind_some]
  have e : (bif decide (-10000 ≤ x.1 ∧ x.1 ≤ 10000) then bif decide (-10000 ≤ x.2.1 ∧ x.2.1 ≤ 10000) then some (decide (-10000 ≤ x.2.2.1 ∧ x.2.2.1 ≤ 10000)) else some false else some false) = some (decide (sml x)) := by
    unfold sml
    by_cases c1 : -10000 ≤ x.1 ∧ x.1 ≤ 10000 <;> by_cases c2 : -10000 ≤ x.2.1 ∧ x.2.1 ≤ 10000 <;> simp only [c1, c2, decide_true, decide_false, cond_true, cond_false, and_true, true_and, false_and, and_false, and_self] <;> rfl
  rw [e]
  simp only [Option.bind_some, unless_ok]
  rw [first_ok _ (by simp)]
  simp only [Option.bind_some, fst0]
  by_cases h : pairE l = 0
  case neg => simp [h]
  simp only [h, if_true, ne_eq, not_true_eq_false, if_false]
  by_cases h2 : lineE x = 0
  case neg => simp [h2]
  simp only [h2, if_true, if_false, not_true_eq_false]
  by_cases h3 : sml x
  case neg => simp [h3]
  simp only [h3, decide_true, if_true, Bool.not_true, cond_false]
  have hp := pair_ok h
  have hx : mst x := by
    unfold lineE at h2
    by_cases c : mst x
    · exact c
    · rw [if_neg c] at h2; omega
  have hl2 := hp.len2
  refine Ok.eq ?_
  rw [ok_bind]
  refine (loop_up l.length (fun i (s : Int × Int) => s = (MS x (l.take i), (i : Int))) (fun r => r = MS x l) rfl ?_).mono ?_
  · rintro i s hi rfl
    by_cases hlt : i < l.length
    · have e0 : decide ((i : Int) < (l.length : Int)) = true := by simp; omega
      have hpi : l[i]? = some l[i] := by simp [hlt]
      have hm := List.mem_of_getElem? hpi
      have ho := offs_ok hp hx _ hm
      have n1 := sumF_next (fun p => off_ x p * off_ x p) hpi
      have b1 := MS_bd hp h3 (i + 1)
      have b2 := (sml_off hp h3 _ hm).2.2.2
      simp only [e0, cond_true]
      rw [idx_of hpi]
      simp only [Option.bind_some]
      rw [off_ok ho]
      simp only [Option.bind_some]
      unfold MS at *
      rw [n1] at b1 ⊢
      rw [wid (n := off_ x l[i] * off_ x l[i]) (by omega) (by omega), wid (n := (i : Int) + 1) (by omega) (by omega), wid (n := _ + off_ x l[i] * off_ x l[i]) (by omega) (by omega), rnd_inl]
      exact ⟨hlt, rfl⟩
    · have : i = l.length := by omega
      subst this
      have e0 : decide ((l.length : Int) < (l.length : Int)) = false := by simp
      simp only [e0, cond_false]
      rw [rnd_inr, List.take_length]
  rintro _ rfl
  have hb := MS_bd hp h3 l.length
  rw [List.take_length] at hb
  obtain ⟨d1, d2, d3⟩ := hx
  obtain ⟨d4, d5, d6⟩ := h3
  have hd : 1 ≤ x.2.2.1 * x.2.2.1 ∧ x.2.2.1 * x.2.2.1 ≤ 100000000 := by
    have := abs_mul_le d6 d6
    have h0 := Int.mul_pos (show 0 < x.2.2.1 by omega) (show 0 < x.2.2.1 by omega)
    omega
  rw [wid (n := x.2.2.1 * x.2.2.1) (by omega) (by omega), fraction_eq (by omega) (by omega) (by omega)]
  simp only [Option.bind_some, ok_some]
  rfl
theorem Misfit_ok {l : List Pr} (h : PrOk l) {x : Ln} (hm : mst x) (hx : sml x) : ref07_Misfit l x = some (misf x l) := by
  unfold ref07_Misfit
  have hl := h.len2
  refine Ok.eq ?_
  rw [ok_bind]
  refine (loop_up l.length (fun i (s : Int × Int) => s = (MS x (l.take i), (i : Int))) (fun r => r = MS x l) rfl ?_).mono ?_
  · rintro i s hi rfl
    by_cases hlt : i < l.length
    · have e0 : decide ((i : Int) < (l.length : Int)) = true := by simp; omega
      have hpi : l[i]? = some l[i] := by simp [hlt]
      have hmm := List.mem_of_getElem? hpi
      have n1 := sumF_next (fun p => off_ x p * off_ x p) hpi
      have b1 := MS_bd h hx (i + 1)
      have b2 := sml_off h hx _ hmm
      obtain ⟨_, x2, _⟩ := hx
      simp only [e0, cond_true]
      rw [idx_of hpi]
      simp only [Option.bind_some]
      have eo : w64 ((w64 ((w64 (x.1 * l[i].2.1)) + x.2.1)) - (w64 (x.2.2.1 * l[i].1))) = off_ x l[i] := by
        unfold off_ at *
        rw [wid (n := x.1 * l[i].2.1) (by omega) (by omega), wid (n := x.2.2.1 * l[i].1) (by omega) (by omega), wid (n := x.1 * l[i].2.1 + x.2.1) (by omega) (by omega), wid (by omega) (by omega)]
      rw [eo]
      unfold MS at *
      rw [n1] at b1 ⊢
      rw [wid (n := off_ x l[i] * off_ x l[i]) (by omega) (by omega), wid (n := (i : Int) + 1) (by omega) (by omega), wid (n := _ + off_ x l[i] * off_ x l[i]) (by omega) (by omega), rnd_inl]
      exact ⟨hlt, rfl⟩
    · have : i = l.length := by omega
      subst this
      have e0 : decide ((l.length : Int) < (l.length : Int)) = false := by simp
      simp only [e0, cond_false]
      rw [rnd_inr, List.take_length]
  rintro _ rfl
  have hb := MS_bd h hx l.length
  rw [List.take_length] at hb
  obtain ⟨d1, d2, d3⟩ := hm
  obtain ⟨d4, d5, d6⟩ := hx
  have hd : 1 ≤ x.2.2.1 * x.2.2.1 ∧ x.2.2.1 * x.2.2.1 ≤ 100000000 := by
    have := abs_mul_le d6 d6
    have h0 := Int.mul_pos (show 0 < x.2.2.1 by omega) (show 0 < x.2.2.1 by omega)
    omega
  rw [wid (n := x.2.2.1 * x.2.2.1) (by omega) (by omega)]
  unfold base_Lowest
  rw [Gcd_ok (by omega) (by omega)]
  have hg := Int.gcd_pos_of_ne_zero_right (MS x l) (show x.2.2.1 * x.2.2.1 ≠ 0 by omega)
  have hg' : ¬ ((Int.gcd (MS x l) (x.2.2.1 * x.2.2.1) : Int) = 0) := by omega
  have hn : ¬ (x.2.2.1 * x.2.2.1 < 0) := by omega
  simp only [Option.bind_some, hn, hg', decide_false, cond_false]
  have t1 := tdiv_abs (MS x l) (Int.gcd (MS x l) (x.2.2.1 * x.2.2.1))
  have t2 := tdiv_abs (x.2.2.1 * x.2.2.1) (Int.gcd (MS x l) (x.2.2.1 * x.2.2.1))
  rw [wid (by omega) (by omega), wid (by omega) (by omega), ok_some]
  rfl
theorem SmallErr_ok {x : Ln} (hm : mst x) : ref07_SmallErr x = some (if sml x then 0 else 8) := by
  unfold ref07_SmallErr
  obtain ⟨d1, d2, d3⟩ := hm
  rw [Size_eq (by omega), Size_eq (by omega)]
  simp only [Option.bind_some]
  have e : (bif decide ((x.1.natAbs : Int) > 10000) then some true else bif decide ((x.2.1.natAbs : Int) > 10000) then some true else some (decide (x.2.2.1 > 10000))) = some (!(decide (sml x))) := by
    by_cases c1 : (x.1.natAbs : Int) > 10000
    · have : ¬ sml x := fun h => by obtain ⟨h1, _⟩ := h; omega
      simp [c1, this]
    · by_cases c2 : (x.2.1.natAbs : Int) > 10000
      · have : ¬ sml x := fun h => by obtain ⟨_, h1, _⟩ := h; omega
        simp [c1, c2, this]
      · by_cases c3 : x.2.2.1 > 10000
        · have : ¬ sml x := fun h => by obtain ⟨_, _, h1⟩ := h; omega
          simp [c1, c2, c3, this]
        · have : sml x := ⟨by omega, by omega, by omega⟩
          simp [c1, c2, c3, this]
  rw [e]
  by_cases c : sml x <;> simp [c]

/-! ### the law -/
theorem SensorCalibrations_eq (l : List Pr) (x : Ln) (hl : l.length ≤ 9223372036854775807) (hr : ∀ p ∈ l, in64 p.1 ∧ in64 p.2.1) : law07_SensorCalibrations l x = some true := by
  unfold law07_SensorCalibrations law07_few
  have aw : law07_awake = some true := rfl
  rw [aw]
  simp only [Option.bind_some, Bool.not_true, cond_false]
  by_cases h12 : (l.length : Int) ≤ 12
  case neg => simp [h12]
  simp only [h12, decide_true, Bool.not_true, cond_false]
  rw [CopyPairs_ok (by omega)]
  simp only [Option.bind_some]
  rw [CalibrationOf_ok (by omega), CheckCalibration_ok (by omega), MisfitOf_ok (by omega), CheckLine_ok, LineErr_ok, refPairsErr_ok (by omega) hr]
  simp only [Option.bind_some, decide_true, Bool.not_true, cond_false]
  by_cases h : pairE l = 0
  case neg => simp [h]
  have hp := pair_ok h
  rw [Flat_ok hp]
  simp only [h, ne_eq, not_true_eq_false, if_false, decide_true, Bool.not_true, cond_false, Option.bind_some]
  have tail : ∀ (k : Option Bool), (bif (!(decide (lineE x = 0))) then k else (some true : Option Bool)) = (if lineE x = 0 then some true else k) := fun k => by by_cases c : lineE x = 0 <;> simp [c]
  by_cases hs : spread_ l = 0
  · simp only [hs, decide_true, if_true, cond_true, Bool.not_true, cond_false, Option.bind_some]
    by_cases h2 : lineE x = 0
    · have hx : mst x := by
        unfold lineE at h2
        by_cases c : mst x
        · exact c
        · rw [if_neg c] at h2; omega
      rw [CalibrationErr_ok hp hx, SmallErr_ok hx]
      by_cases c : sml x
      · rw [Misfit_ok hp hx c]
        simp [h2, c]
      · simp [h2, c]
    · simp [h2]
  · rw [Calibration_ok hp hs]
    simp only [hs, decide_false, if_false, cond_false, Bool.not_false, cond_true, Option.bind_some]
    by_cases h2 : lineE x = 0
    · have hx : mst x := by
        unfold lineE at h2
        by_cases c : mst x
        · exact c
        · rw [if_neg c] at h2; omega
      rw [CalibrationErr_ok hp hx, SmallErr_ok hx]
      by_cases c : sml x
      · rw [Misfit_ok hp hx c]
        simp [h2, c]
      · simp [h2, c]
    · simp [h2]
theorem law07_SensorCalibrations_true : ∀ x : denP ([Ty.sl (.pair I (.pair I .unit)), .pair I (.pair I (.pair I .unit))].map .ty), RngP maxLen [.sl (.pair I (.pair I .unit)), .pair I (.pair I (.pair I .unit))] x → e_law07_SensorCalibrations.F x = some true := by
  rintro ⟨a0, a1⟩ ⟨⟨h0, h1⟩, _⟩
  refine SensorCalibrations_eq a0 a1 (Nat.le_trans h0 (by decide)) fun p hp => ?_
  obtain ⟨h2, h3, _⟩ := h1 p hp
  exact ⟨h2, h3⟩
end Go.Proofs.Ytpiggpgocnlomaa
end
section
/-
  EQUATIONS: what the calibration of small pairs answers: the normal equations, lowest terms, the least misfit.
-/
set_option linter.unusedVariables false
set_option linter.unusedSimpArgs false
namespace Go.Proofs.Ytpiggpgocnlomaa
open Go Go.Ab Go.Tx Go.Wide

/-! ### sums of a line -/
theorem PL_eq (x : Ln) (l : List Pr) : PL x l = x.1 * S1 l + l.length * x.2.1 - x.2.2.1 * SK l := by
  unfold PL S1 SK
  induction l with
  | nil => simp [sumF]
  | cons p l ih =>
    simp only [sumF, List.length_cons, Int.natCast_add, Int.natCast_one]
    rw [ih]
    unfold off_
    generalize sumF (fun p : Pr => p.2.1) l = s
    generalize sumF (fun p : Pr => p.1) l = t
    generalize (l.length : Int) = n
    grind
theorem WL_eq (x : Ln) (l : List Pr) : WL x l = x.1 * SQ l + x.2.1 * S1 l - x.2.2.1 * SP l := by
  unfold WL S1 SQ SP
  induction l with
  | nil => simp [sumF]
  | cons p l ih =>
    simp only [sumF]
    rw [ih]
    unfold off_
    generalize sumF (fun p : Pr => p.2.1) l = s
    generalize sumF (fun p : Pr => p.2.1 * p.2.1) l = t
    generalize sumF (fun p : Pr => p.2.1 * p.1) l = u
    grind
/-- the line's square sum against another's -/
theorem MS_least (G O D a b : Int) (l : List Pr) : D * D * MS (a, b, 1, ()) l
    = MS (G, O, D, ()) l + 2 * ((D * a - G) * WL (G, O, D, ()) l + (D * b - O) * PL (G, O, D, ()) l) + sumF (fun p => ((D * a - G) * p.2.1 + (D * b - O)) * ((D * a - G) * p.2.1 + (D * b - O))) l := by
  unfold MS WL PL
  induction l with
  | nil => simp [sumF]
  | cons p l ih =>
    simp only [sumF]
    unfold off_ at *
    simp only at *
    generalize sumF (fun p : Pr => (a * p.2.1 + b - 1 * p.1) * (a * p.2.1 + b - 1 * p.1)) l = s1 at *
    generalize sumF (fun p : Pr => (G * p.2.1 + O - D * p.1) * (G * p.2.1 + O - D * p.1)) l = s2 at *
    generalize sumF (fun p : Pr => (G * p.2.1 + O - D * p.1) * p.2.1) l = s3 at *
    generalize sumF (fun p : Pr => G * p.2.1 + O - D * p.1) l = s4 at *
    generalize sumF (fun p : Pr => ((D * a - G) * p.2.1 + (D * b - O)) * ((D * a - G) * p.2.1 + (D * b - O))) l = s5 at *
    generalize p.2.1 = r
    generalize p.1 = k
    have h1 : D * D * ((a * r + b - 1 * k) * (a * r + b - 1 * k)) = (G * r + O - D * k) * (G * r + O - D * k) + 2 * ((D * a - G) * ((G * r + O - D * k) * r) + (D * b - O) * (G * r + O - D * k)) + ((D * a - G) * r + (D * b - O)) * ((D * a - G) * r + (D * b - O)) := by grind
    rw [Int.mul_add, ih, h1]
    grind

/-! ### small pairs -/
structure Sm (l : List Pr) : Prop where
  ok : PrOk l
  len : l.length ≤ 6
  b : ∀ p ∈ l, (-30 ≤ p.1 ∧ p.1 ≤ 30) ∧ (-30 ≤ p.2.1 ∧ p.2.1 ≤ 30)
  s : spread_ l ≠ 0
structure SmB (l : List Pr) : Prop where
  s1 : -180 ≤ S1 l ∧ S1 l ≤ 180
  sk : -180 ≤ SK l ∧ SK l ≤ 180
  g : (gain_ l).natAbs ≤ 2000000
  o : (offs_ l).natAbs ≤ 2000000
  d : (spread_ l).natAbs ≤ 2000000
theorem Sm.bd {l : List Pr} (h : Sm l) : SmB l := by
  have h1 := sumF_bd' (f := fun p : Pr => p.2.1) (show (0 : Int) ≤ 30 by omega) h.len fun p hp => (h.b p hp).2
  have h2 := sumF_bd' (f := fun p : Pr => p.1) (show (0 : Int) ≤ 30 by omega) h.len fun p hp => (h.b p hp).1
  have h3 := sumF_bd' (f := fun p : Pr => p.2.1 * p.2.1) (show (0 : Int) ≤ 900 by omega) h.len fun p hp => by
    have := abs_mul_le (h.b p hp).2 (h.b p hp).2; omega
  have h4 := sumF_bd' (f := fun p : Pr => p.2.1 * p.1) (show (0 : Int) ≤ 900 by omega) h.len fun p hp => by
    have := abs_mul_le (h.b p hp).2 (h.b p hp).1; omega
  have a1 : -180 ≤ S1 l ∧ S1 l ≤ 180 := by unfold S1; omega
  have a2 : -180 ≤ SK l ∧ SK l ≤ 180 := by unfold SK; omega
  have a3 : -5400 ≤ SQ l ∧ SQ l ≤ 5400 := by unfold SQ; omega
  have a4 : -5400 ≤ SP l ∧ SP l ≤ 5400 := by unfold SP; omega
  have a5 : -6 ≤ (l.length : Int) ∧ (l.length : Int) ≤ 6 := by have := h.len; omega
  have m1 := abs_mul_le a5 a3
  have m2 := abs_mul_le a1 a1
  have m3 := abs_mul_le a5 a4
  have m4 := abs_mul_le a1 a2
  have m5 := abs_mul_le a3 a2
  have m6 := abs_mul_le a1 a4
  exact ⟨a1, a2, by unfold gain_; omega, by unfold offs_; omega, by unfold spread_; omega⟩
theorem gcd3_d1 (g o s : Int) : (gcd3 g o s : Int) ∣ g := Int.ofNat_dvd_left.2 (Nat.dvd_trans (Nat.gcd_dvd_left _ _) (Nat.gcd_dvd_left _ _))
theorem gcd3_d2 (g o s : Int) : (gcd3 g o s : Int) ∣ o := Int.ofNat_dvd_left.2 (Nat.dvd_trans (Nat.gcd_dvd_left _ _) (Nat.gcd_dvd_right _ _))
theorem gcd3_d3 (g o s : Int) : (gcd3 g o s : Int) ∣ s := Int.ofNat_dvd_left.2 (Nat.gcd_dvd_right _ _)
theorem cal_mul {l : List Pr} (hs : spread_ l ≠ 0) : ∃ d : Int, 0 < d ∧ (cal l).1 * d = gain_ l ∧ (cal l).2.1 * d = offs_ l ∧ (cal l).2.2.1 * d = spread_ l := by
  have := gcd3_pos (g := gain_ l) (o := offs_ l) hs
  exact ⟨gcd3 (gain_ l) (offs_ l) (spread_ l), by omega, Int.tdiv_mul_cancel (gcd3_d1 _ _ _), Int.tdiv_mul_cancel (gcd3_d2 _ _ _), Int.tdiv_mul_cancel (gcd3_d3 _ _ _)⟩
theorem cal_gcd {l : List Pr} (hs : spread_ l ≠ 0) : gcd3 (cal l).1 (cal l).2.1 (cal l).2.2.1 = 1 := by
  have hp := gcd3_pos (g := gain_ l) (o := offs_ l) hs
  unfold cal
  simp only
  have h1 := Nat.gcd_dvd_left (gain_ l).natAbs (offs_ l).natAbs
  have h2 := Nat.gcd_dvd_right (gain_ l).natAbs (offs_ l).natAbs
  have h3 : gcd3 (gain_ l) (offs_ l) (spread_ l) ∣ Nat.gcd (gain_ l).natAbs (offs_ l).natAbs := Nat.gcd_dvd_left _ _
  have h4 : gcd3 (gain_ l) (offs_ l) (spread_ l) ∣ (spread_ l).natAbs := Nat.gcd_dvd_right _ _
  have e : ∀ (a b c : Int) (d : Nat), 0 < d → d ∣ a.natAbs → d ∣ b.natAbs → d ∣ c.natAbs → gcd3 a b c = d → gcd3 (a.tdiv d) (b.tdiv d) (c.tdiv d) = 1 := fun a b c d hd ha hb hc he => by
    unfold gcd3 Int.gcd at *
    rw [Int.natAbs_tdiv, Int.natAbs_tdiv, Int.natAbs_tdiv, Int.natAbs_natCast]
    have hdv : ∀ x y : Nat, Nat.div x y = x / y := fun _ _ => rfl
    simp only [hdv]
    rw [Nat.gcd_div ha hb, Nat.gcd_div (Nat.dvd_gcd ha hb) hc, he, Nat.div_self hd]
  exact e _ _ _ _ hp (Nat.dvd_trans h3 h1) (Nat.dvd_trans h3 h2) h4 rfl
structure CalF (l : List Pr) (c : Ln) : Prop where
  le : lineE c = 0
  ms : mst c
  b1 : -2000000 ≤ c.1 ∧ c.1 ≤ 2000000
  b2 : -2000000 ≤ c.2.1 ∧ c.2.1 ≤ 2000000
  b3 : 1 ≤ c.2.2.1 ∧ c.2.2.1 ≤ 2000000
  pl : PL c l = 0
  wl : WL c l = 0
  z : SK l = 0 → SP l = 0 → c.1 = 0 ∧ c.2.1 = 0
theorem Sm.cal {l : List Pr} (h : Sm l) : CalF l (cal l) := by
  obtain ⟨_, _, hg, ho, hd⟩ := h.bd
  have t1 := tdiv_abs (gain_ l) (gcd3 (gain_ l) (offs_ l) (spread_ l))
  have t2 := tdiv_abs (offs_ l) (gcd3 (gain_ l) (offs_ l) (spread_ l))
  have t3 := tdiv_abs (spread_ l) (gcd3 (gain_ l) (offs_ l) (spread_ l))
  obtain ⟨d, d0, e1, e2, e3⟩ := cal_mul h.s
  have hs0 := spread_nonneg l
  have hsp := h.s
  have hD : 1 ≤ (Go.Proofs.Ytpiggpgocnlomaa.cal l).2.2.1 := by
    have : 0 < (Go.Proofs.Ytpiggpgocnlomaa.cal l).2.2.1 * d := by omega
    have := Int.pos_of_mul_pos_left this d0
    omega
  have b1 : -2000000 ≤ (Go.Proofs.Ytpiggpgocnlomaa.cal l).1 ∧ (Go.Proofs.Ytpiggpgocnlomaa.cal l).1 ≤ 2000000 := by unfold Go.Proofs.Ytpiggpgocnlomaa.cal; simp only; omega
  have b2 : -2000000 ≤ (Go.Proofs.Ytpiggpgocnlomaa.cal l).2.1 ∧ (Go.Proofs.Ytpiggpgocnlomaa.cal l).2.1 ≤ 2000000 := by unfold Go.Proofs.Ytpiggpgocnlomaa.cal; simp only; omega
  have b3 : (Go.Proofs.Ytpiggpgocnlomaa.cal l).2.2.1 ≤ 2000000 := by unfold Go.Proofs.Ytpiggpgocnlomaa.cal; simp only; omega
  have hm : mst (Go.Proofs.Ytpiggpgocnlomaa.cal l) := ⟨⟨hD, by omega⟩, ⟨by omega, by omega⟩, ⟨by omega, by omega⟩⟩
  have hg1 := cal_gcd h.s
  generalize Go.Proofs.Ytpiggpgocnlomaa.cal l = c at *
  obtain ⟨G, O, D, u⟩ := c
  simp only at *
  refine ⟨?_, hm, b1, b2, ⟨hD, b3⟩, ?_, ?_, fun k1 k2 => ?_⟩
  · unfold lineE; rw [if_pos hm, if_pos hg1]
  · have : PL (G, O, D, u) l * d = 0 := by
      rw [PL_eq]
      have e : (G * S1 l + l.length * O - D * SK l) * d = (G * d) * S1 l + l.length * (O * d) - (D * d) * SK l := by grind
      simp only
      rw [e, e1, e2, e3]
      unfold gain_ offs_ spread_
      grind
    exact (Int.mul_eq_zero.1 this).resolve_right (by omega)
  · have : WL (G, O, D, u) l * d = 0 := by
      rw [WL_eq]
      have e : (G * SQ l + O * S1 l - D * SP l) * d = (G * d) * SQ l + (O * d) * S1 l - (D * d) * SP l := by grind
      simp only
      rw [e, e1, e2, e3]
      unfold gain_ offs_ spread_
      grind
    exact (Int.mul_eq_zero.1 this).resolve_right (by omega)
  · have z1 : gain_ l = 0 := by unfold gain_; rw [k1, k2]; simp
    have z2 : offs_ l = 0 := by unfold offs_; rw [k1, k2]; simp
    rw [z1] at e1
    rw [z2] at e2
    exact ⟨(Int.mul_eq_zero.1 e1).resolve_right (by omega), (Int.mul_eq_zero.1 e2).resolve_right (by omega)⟩
theorem accE_zero {l : List Pr} {c : Ln} (h : CalF l c) (hs : spread_ l ≠ 0) : accE l c = (0, 0) := by
  unfold accE
  simp [h.pl, h.wl, hs]
theorem accE_19 {l : List Pr} {y : Ln} (h : PL y l ≠ 0 ∨ WL y l ≠ 0) : (accE l y).2 = 19 := by
  unfold accE
  by_cases c1 : PL y l = 0
  · have c2 := h.resolve_left (fun hn => hn c1)
    simp [c1, c2]
  · simp [c1]
theorem off_case {l : List Pr} {y : Ln} (hp : pairE l = 0) (k : Option Bool) (h : (PL y l ≠ 0 ∨ WL y l ≠ 0) ∨ k = some false) :
    (bif decide (lineE y = 0) then bif !(decide ((if pairE l ≠ 0 then ((0, pairE l) : Int × Int) else if lineE y ≠ 0 then (0, lineE y) else accE l y).2 = 19)) then k else some false else some false : Option Bool) = some false := by
  by_cases c : lineE y = 0
  · simp only [hp, c, decide_true, cond_true, ne_eq, not_true_eq_false, if_false]
    cases h with
    | inl h => simp only [accE_19 h, decide_true, Bool.not_true, cond_false]
    | inr h => subst h; cases !(decide ((accE l y).2 = 19)) <;> rfl
  · simp only [c, decide_false, cond_false]
theorem off1 {l : List Pr} {c : Ln} (h : CalF l c) (hs : spread_ l ≠ 0) : PL (c.1 + 1, c.2.1, c.2.2.1, ()) l ≠ 0 ∨ WL (c.1 + 1, c.2.1, c.2.2.1, ()) l ≠ 0 := by
  have h1 := h.pl
  have h2 := h.wl
  rw [PL_eq] at h1 ⊢
  rw [WL_eq] at h2 ⊢
  simp only
  rw [Int.add_mul, Int.add_mul]
  by_cases c1 : S1 l = 0
  · refine .inr fun hn => hs ?_
    have : SQ l = 0 := by omega
    unfold spread_
    rw [c1, this]; simp
  · exact .inl (by omega)
theorem off2 {l : List Pr} {c : Ln} (h : CalF l c) (hl : 1 ≤ l.length) : PL (c.1, c.2.1 - 1, c.2.2.1, ()) l ≠ 0 ∨ WL (c.1, c.2.1 - 1, c.2.2.1, ()) l ≠ 0 := by
  have h1 := h.pl
  rw [PL_eq] at h1 ⊢
  simp only
  rw [Int.mul_sub]
  exact .inl (by omega)
theorem off3 {l : List Pr} {c : Ln} (h : CalF l c) : (PL (c.1, c.2.1, c.2.2.1 + 1, ()) l ≠ 0 ∨ WL (c.1, c.2.1, c.2.2.1 + 1, ()) l ≠ 0) ∨ (c.1 = 0 ∧ c.2.1 = 0) := by
  have h1 := h.pl
  have h2 := h.wl
  rw [PL_eq] at h1 ⊢
  rw [WL_eq] at h2 ⊢
  simp only
  rw [Int.add_mul, Int.add_mul]
  by_cases c1 : SK l = 0
  · by_cases c2 : SP l = 0
    · exact .inr (h.z c1 c2)
    · exact .inl (.inr (by omega))
  · exact .inl (.inl (by omega))

/-! ### pairs on a whole line -/
def onL (a b : Int) (p : Pr) : Pr := (a * p.2.1 + b, p.2.1, ())
theorem on_S1 (a b : Int) (l : List Pr) : S1 (l.map (onL a b)) = S1 l := by unfold S1; rw [sumF_map]; rfl
theorem on_SQ (a b : Int) (l : List Pr) : SQ (l.map (onL a b)) = SQ l := by unfold SQ; rw [sumF_map]; rfl
theorem on_SK (a b : Int) (l : List Pr) : SK (l.map (onL a b)) = a * S1 l + b * l.length := by
  unfold SK S1
  rw [sumF_map]
  unfold onL
  simp only
  rw [sumF_add, sumF_mul, sumF_const]
theorem on_SP (a b : Int) (l : List Pr) : SP (l.map (onL a b)) = a * SQ l + b * S1 l := by
  unfold SP SQ S1
  rw [sumF_map]
  unfold onL
  simp only
  rw [sumF_congr (g := fun p : Pr => a * (p.2.1 * p.2.1) + b * p.2.1) (fun p _ => by grind), sumF_add, sumF_mul, sumF_mul]
theorem on_cal (a b : Int) {l : List Pr} (hs : spread_ l ≠ 0) : spread_ (l.map (onL a b)) = spread_ l ∧ cal (l.map (onL a b)) = (a, b, 1, ()) := by
  have e1 : spread_ (l.map (onL a b)) = spread_ l := by unfold spread_; rw [on_S1, on_SQ, List.length_map]
  have e2 : gain_ (l.map (onL a b)) = a * spread_ l := by unfold gain_ spread_; rw [on_SP, on_SK, on_S1, List.length_map]; grind
  have e3 : offs_ (l.map (onL a b)) = b * spread_ l := by unfold offs_ spread_; rw [on_SP, on_SK, on_S1, on_SQ]; grind
  refine ⟨e1, ?_⟩
  have hn := spread_nonneg l
  unfold cal
  rw [e1, e2, e3]
  generalize spread_ l = s at *
  have hg : (gcd3 (a * s) (b * s) s : Int) = s := by
    unfold gcd3 Int.gcd
    rw [Nat.gcd_eq_right (Nat.dvd_gcd (by rw [Int.natAbs_mul]; exact Nat.dvd_mul_left ..) (by rw [Int.natAbs_mul]; exact Nat.dvd_mul_left ..))]
    omega
  rw [hg, Int.mul_tdiv_cancel _ hs, Int.mul_tdiv_cancel _ hs, Int.tdiv_self hs]
theorem on_MS (a b : Int) (l : List Pr) : MS (a, b, 1, ()) (l.map (onL a b)) = 0 := by
  unfold MS
  rw [sumF_map, sumF_congr (g := fun _ => (0 : Int)) (fun p _ => by unfold off_ onL; simp only; grind), sumF_const]
  simp
theorem on_misf (a b : Int) (l : List Pr) : misf (a, b, 1, ()) (l.map (onL a b)) = (0, 1, ()) := by
  unfold misf
  rw [on_MS]
  simp
theorem on_ok {a b : Int} {l : List Pr} (h : Sm l) (ha : -30 ≤ a ∧ a ≤ 30) (hb : -30 ≤ b ∧ b ≤ 30) : pairE (l.map (onL a b)) = 0 := by
  have h1 := h.ok.len1
  have h2 := h.len
  unfold pairE
  rw [List.length_map, if_neg (by omega), if_neg (by omega)]
  have : (l.map (onL a b)).any (fun p => !okP p) = false := by
    rw [List.any_eq_false]
    intro x hx
    obtain ⟨p, hp, rfl⟩ := List.mem_map.1 hx
    obtain ⟨b1, b2⟩ := h.b p hp
    have := abs_mul_le ha b2
    unfold okP onL
    simp only
    have f1 : decide (-1000 ≤ a * p.2.1 + b ∧ a * p.2.1 + b ≤ 1000) = true := by simp; omega
    have f2 : decide (-1000 ≤ p.2.1 ∧ p.2.1 ≤ 1000) = true := by simp; omega
    rw [f1, f2]; simp
  rw [this]; rfl
theorem whole_ok {a b : Int} (ha : -30 ≤ a ∧ a ≤ 30) (hb : -30 ≤ b ∧ b ≤ 30) : lineE (a, b, 1, ()) = 0 ∧ sml (a, b, 1, ()) := by
  constructor
  · unfold lineE
    have hm : mst (a, b, 1, ()) := ⟨⟨by simp, by simp⟩, ⟨by simp only; omega, by simp only; omega⟩, ⟨by simp only; omega, by simp only; omega⟩⟩
    rw [if_pos hm, if_pos]
    unfold gcd3
    simp
  · exact ⟨⟨by simp only; omega, by simp only; omega⟩, ⟨by simp only; omega, by simp only; omega⟩, ⟨by simp, by simp⟩⟩

/-! ### the least misfit -/
theorem sign_np {z : Int} (h : z ≤ 0) : z.sign ≤ 0 := by
  by_cases c : z = 0
  · subst c; simp
  · rw [Int.sign_eq_neg_one_of_neg (by omega)]; omega
theorem misf_one (a b : Int) (l : List Pr) : misf (a, b, 1, ()) l = (MS (a, b, 1, ()) l, 1, ()) := by
  unfold misf
  simp
theorem least_ok {l : List Pr} {G O D a b : Int} (h : CalF l (G, O, D, ())) (hp : PrOk l) (hc : sml (G, O, D, ())) (hx : sml (a, b, 1, ())) :
    0 < (misf (G, O, D, ()) l).2.1 ∧ ∃ s, (base_RatioFrom (misf (G, O, D, ()) l)).bind (fun x72 => (base_RatioFrom (MS (a, b, 1, ()) l, 1, ())).bind fun x73 => (base_RatioCmp x72 x73).bind fun x74 => some (decide (x74 ≤ 0))) = s ∧ s = some true := by
  have hb1 := MS_bd hp hc l.length
  have hb2 := MS_bd hp hx l.length
  rw [List.take_length] at hb1 hb2
  have hl := MS_least G O D a b l
  rw [h.wl, h.pl] at hl
  have hn := sumF_nonneg (f := fun p : Pr => ((D * a - G) * p.2.1 + (D * b - O)) * ((D * a - G) * p.2.1 + (D * b - O))) (l := l) fun p _ => sq_nonneg _
  have hle : MS (G, O, D, ()) l ≤ D * D * MS (a, b, 1, ()) l := by
    rw [hl]
    simp only [Int.mul_zero, Int.add_zero]
    omega
  obtain ⟨d1, d2⟩ := h.b3
  obtain ⟨_, _, d3⟩ := hc
  simp only at d1 d2 d3
  have hd : 1 ≤ D * D ∧ D * D ≤ 100000000 := by
    have := abs_mul_le d3 d3
    have h0 := Int.mul_pos (show 0 < D by omega) (show 0 < D by omega)
    omega
  unfold misf
  simp only
  generalize MS (G, O, D, ()) l = m at *
  generalize MS (a, b, 1, ()) l = k at *
  generalize D * D = q at *
  have hg := gcd_posd (n := m) (d := q) (by omega)
  have e1 := Int.tdiv_mul_cancel (Int.gcd_dvd_left m q)
  have e2 := Int.tdiv_mul_cancel (Int.gcd_dvd_right m q)
  have t1 := tdiv_abs m (Int.gcd m q)
  have t2 := tdiv_abs q (Int.gcd m q)
  generalize (Int.gcd m q : Int) = g at *
  generalize m.tdiv g = m' at *
  generalize q.tdiv g = q' at *
  have hq : 0 < q' := by
    have : 0 < q' * g := by omega
    exact Int.pos_of_mul_pos_left this hg
  refine ⟨hq, _, rfl, ?_⟩
  unfold base_RatioFrom
  simp only
  rw [RatioOf_ok hq (by omega) (by omega), RatioOf_ok (n := k) (d := 1) (by omega) (by omega) (by omega)]
  simp only [Option.bind_some]
  have wb : ∀ n : Int, n.natAbs ≤ 999999999999999999999999999 → wl n ≤ 400 := fun n hn => Nat.le_trans (wl_int hn) (by omega)
  rw [RatioCmp_ok hq (by omega) (wb _ (by omega)) (wb _ (by omega)) (wb _ (by omega)) (wb _ (by omega))]
  simp only [Option.bind_some]
  have : m' * 1 - k * q' ≤ 0 := by
    have : (m' - k * q') * g ≤ 0 * g := by
      have e : (m' - k * q') * g = m' * g - (q' * g) * k := by grind
      rw [e, e1, e2]; omega
    have := Int.le_of_mul_le_mul_right this hg
    omega
  have := sign_np this
  rw [decide_eq_true this]
end Go.Proofs.Ytpiggpgocnlomaa
end
section
/-
  EQUATIONS: corrected readings; the law.
-/
set_option linter.unusedVariables false
set_option linter.unusedSimpArgs false
namespace Go.Proofs.Ytpiggpgocnlomaa
open Go Go.Ab Go.Tx Go.Wide

theorem set_next {α : Type} (f : α → α) : ∀ (l : List α) (i : Nat) (a : α), l[i]? = some a → ((l.take i).map f ++ l.drop i).set i (f a) = (l.take (i + 1)).map f ++ l.drop (i + 1)
  | [], i, a, h => by simp at h
  | b :: l, 0, a, h => by simp at h; subst h; simp
  | b :: l, i + 1, a, h => by
    have h' : l[i]? = some a := by simpa using h
    have := set_next f l i a h'
    simp only [List.take_succ_cons, List.map_cons, List.drop_succ_cons, List.cons_append, List.set_cons_succ]
    rw [this]
theorem get_next {α : Type} (f : α → α) : ∀ (l : List α) (i : Nat) (a : α), l[i]? = some a → ((l.take i).map f ++ l.drop i)[i]? = some a
  | [], i, a, h => by simp at h
  | b :: l, 0, a, h => by simpa using h
  | b :: l, i + 1, a, h => by
    have h' : l[i]? = some a := by simpa using h
    have := get_next f l i a h'
    simp only [List.take_succ_cons, List.map_cons, List.drop_succ_cons, List.cons_append, List.getElem?_cons_succ]
    exact this
theorem eachRaw_ok {l : List Int} (h : l.length ≤ 1000000000) (hb : ∀ x ∈ l, -100000 ≤ x ∧ x ≤ 100000) : ∃ e, sensor_each_int_of_sensor_CheckRaw_1 l = some e ∧ e.2 = 0 := by
  refine ⟨_, for_each l sensor_CheckRaw_1 (fun _ a => if -100000 ≤ a ∧ a ≤ 100000 then 0 else 2) (fun i a hi => ?_) h, ?_⟩
  · unfold sensor_CheckRaw_1
    rw [sized_ok _ _ (by omega) (by omega)]
    simp only [Option.bind_some, unless_ok]
    by_cases c : -100000 ≤ a ∧ a ≤ 100000 <;> simp [c]
  · rw [eachE_zero]
    intro i a hi
    rw [if_pos (hb a (List.mem_of_getElem? hi))]
theorem rawErr_zero {l : List Int} (h1 : 1 ≤ l.length) (h2 : l.length ≤ 60) (hb : ∀ x ∈ l, -100000 ≤ x ∧ x ≤ 100000) : sensor_rawErr l = some 0 := by
  unfold sensor_rawErr sensor_CheckRaw
  have c1 : decide ((l.length : Int) > 0) = true := by simp; omega
  have c2 : decide ((l.length : Int) ≤ 60) = true := by simp; omega
  rw [c1, c2]
  simp only [unless_ok, Option.bind_some, if_true]
  rw [first_ok _ (by simp)]
  obtain ⟨e, he, h0⟩ := eachRaw_ok (by omega) hb
  simp only [Option.bind_some, fst0, if_true, decide_true, Bool.not_true, cond_false]
  rw [he]
  simp [h0]
theorem CloneInts_ok {l : List Int} (h1 : 1 ≤ l.length) (h2 : l.length ≤ 1000000000) : slices_Clone_Lint_int l = some l := by
  unfold slices_Clone_Lint_int
  have e : List.isEmpty l = false := by
    cases l with
    | nil => simp at h1
    | cons a l => rfl
  rw [e]
  simp only [cond_false]
  rw [app_nil (by omega)]; rfl
def pt (c : Ln) (r : Int) : Int := c.1 * r + c.2.1
def dvs (c : Ln) (raw : List Int) : Nat := gcdL (raw.map (pt c) ++ [c.2.2.1])
theorem CorrectedOf_ok {c : Ln} {raw : List Int} (hc : lineE c = 0) (b1 : -2000000 ≤ c.1 ∧ c.1 ≤ 2000000) (b2 : -2000000 ≤ c.2.1 ∧ c.2.1 ≤ 2000000) (b3 : 1 ≤ c.2.2.1 ∧ c.2.2.1 ≤ 2000000)
    (h1 : 1 ≤ raw.length) (h2 : raw.length ≤ 60) (hb : ∀ x ∈ raw, -30 ≤ x ∧ x ≤ 30) :
    0 < dvs c raw ∧ sensor_CorrectedOf c raw = some ((c.2.2.1.tdiv (dvs c raw), (raw.map (pt c)).map (fun v => v.tdiv (dvs c raw)), ()), 0) := by
  have pb : ∀ x ∈ raw, (-60000000 ≤ c.1 * x ∧ c.1 * x ≤ 60000000) ∧ -62000000 ≤ pt c x ∧ pt c x ≤ 62000000 := fun x hx => by
    have := abs_mul_le b1 (hb x hx)
    unfold pt; omega
  have pm : ∀ v ∈ raw.map (pt c), -62000000 ≤ v ∧ v ≤ 62000000 := fun v hv => by
    obtain ⟨x, hx, rfl⟩ := List.mem_map.1 hv
    exact (pb x hx).2
  have hd : 0 < dvs c raw := by
    refine Nat.pos_of_ne_zero fun h0 => ?_
    unfold dvs gcdL at h0
    have := (gcdF_zero.1 h0).2 c.2.2.1 (by simp)
    omega
  refine ⟨hd, ?_⟩
  unfold sensor_CorrectedOf
  rw [CheckLine_ok, rawErr_zero h1 h2 fun x hx => by have := hb x hx; omega, hc]
  simp only [Option.bind_some]
  rw [first_ok _ (by simp)]
  simp only [Option.bind_some, fst0, if_true, decide_true, Bool.not_true, cond_false]
  refine Ok.eq ?_
  rw [ok_bind]
  refine (loop_up raw.length (fun i (s : Int × Int × List Int) => s = ((i : Int), c.2.2.1, (raw.take i).map (pt c))) (fun r => r = (c.2.2.1, raw.map (pt c))) (by simp) ?_).mono ?_
  · rintro i s hi rfl
    by_cases hlt : i < raw.length
    · have e0 : decide ((i : Int) < (raw.length : Int)) = true := by simp; omega
      have hp : raw[i]? = some raw[i] := by simp [hlt]
      have hm := List.mem_of_getElem? hp
      obtain ⟨q1, q2⟩ := pb _ hm
      simp only [e0, cond_true]
      rw [idx_of hp]
      simp only [Option.bind_some]
      unfold pt at *
      rw [wid (n := c.1 * raw[i]) (by omega) (by omega), wid (n := c.1 * raw[i] + c.2.1) (by omega) (by omega), app_one (by simp; omega)]
      simp only [Option.bind_some]
      rw [wid (n := (i : Int) + 1) (by omega) (by omega), rnd_inl]
      refine ⟨hlt, ?_⟩
      rw [List.take_add_one, hp]
      simp only [List.map_append, Option.toList_some, List.map_cons, List.map_nil]; rfl
    · have : i = raw.length := by omega
      subst this
      have e0 : decide ((raw.length : Int) < (raw.length : Int)) = false := by simp
      simp only [e0, cond_false]
      rw [rnd_inr, List.take_length]
  rintro _ rfl
  simp only
  have hlen : (raw.map (pt c)).length = raw.length := List.length_map ..
  generalize hps : raw.map (pt c) = ps at *
  rw [CloneInts_ok (by omega) (by omega)]
  simp only [Option.bind_some]
  rw [app_one (by omega)]
  simp only [Option.bind_some]
  have hdv : dvs c raw = gcdL (ps ++ [c.2.2.1]) := by unfold dvs; rw [hps]
  rw [divisor_ok _ (by simp; omega) (fun x hx => by
    rw [List.mem_append, List.mem_singleton] at hx
    cases hx with
    | inl hx => have := pm x hx; omega
    | inr hx => subst hx; omega), ← hdv]
  generalize dvs c raw = e at *
  have hne : ¬ ((e : Int) = 0) := by omega
  simp only [Option.bind_some, hne, decide_false, cond_false]
  rw [ok_bind]
  have td := tdiv_abs c.2.2.1 e
  rw [wid (n := c.2.2.1.tdiv e) (by omega) (by omega)]
  refine (loop_up ps.length (fun i (s : Int × Int × List Int) => s = ((i : Int), c.2.2.1.tdiv e, (ps.take i).map (fun v => v.tdiv e) ++ ps.drop i)) (fun r => r = (c.2.2.1.tdiv e, ps.map (fun v => v.tdiv e))) (by simp) ?_).mono ?_
  · rintro i s hi rfl
    by_cases hlt : i < ps.length
    · have e0 : decide ((i : Int) < (ps.length : Int)) = true := by simp; omega
      have hp : ps[i]? = some ps[i] := by simp [hlt]
      have hm := List.mem_of_getElem? hp
      have q := pm _ hm
      have tq := tdiv_abs ps[i] e
      simp only [e0, cond_true]
      rw [idx_of (get_next (fun v => v.tdiv e) ps i _ hp)]
      simp only [Option.bind_some, Int.toNat_natCast]
      rw [wid (n := ps[i].tdiv e) (by omega) (by omega), wid (n := (i : Int) + 1) (by omega) (by omega), rnd_inl]
      refine ⟨hlt, ?_⟩
      have := set_next (fun v : Int => v.tdiv e) ps i _ hp
      rw [this]; rfl
    · have : i = ps.length := by omega
      subst this
      have e0 : decide ((ps.length : Int) < (ps.length : Int)) = false := by simp
      simp only [e0, cond_false]
      rw [rnd_inr, List.take_length, List.drop_length, List.append_nil]
  rintro _ rfl
  rw [ok_some]
/-- the sum of the parts is the known sum times the denominator -/
theorem parts_sum {l : List Pr} {c : Ln} (h : CalF l c) (hd : 0 < dvs c (l.map fun p => p.2.1)) :
    sumF (fun v => v) (((l.map fun p => p.2.1).map (pt c)).map (fun v => v.tdiv (dvs c (l.map fun p => p.2.1)))) = c.2.2.1.tdiv (dvs c (l.map fun p => p.2.1)) * SK l := by
  have hdm : ∀ v ∈ (l.map fun p => p.2.1).map (pt c), (dvs c (l.map fun p => p.2.1) : Int) ∣ v := fun v hv => gcdF_dvd (List.mem_append_left _ hv)
  have hdd : (dvs c (l.map fun p => p.2.1) : Int) ∣ c.2.2.1 := gcdF_dvd (List.mem_append_right _ (by simp))
  generalize dvs c (l.map fun p => p.2.1) = e at *
  have e1 : e * sumF (fun v : Int => v.tdiv e) ((l.map fun p => p.2.1).map (pt c)) = sumF (fun v : Int => v) ((l.map fun p => p.2.1).map (pt c)) := by
    rw [← sumF_mul]
    exact sumF_congr fun v hv => by rw [Int.mul_comm]; exact Int.tdiv_mul_cancel (hdm v hv)
  have e2 : sumF (fun v : Int => v) ((l.map fun p => p.2.1).map (pt c)) = c.1 * S1 l + c.2.1 * l.length := by
    rw [sumF_map, sumF_map]
    unfold pt S1
    rw [sumF_add, sumF_mul, sumF_const]
  have e3 := Int.tdiv_mul_cancel hdd
  have e4 := h.pl
  rw [PL_eq] at e4
  rw [sumF_map]
  refine Int.eq_of_mul_eq_mul_left (a := (e : Int)) (by omega) ?_
  rw [e1, e2, ← Int.mul_assoc, Int.mul_comm (e : Int), e3]
  have := Int.mul_comm c.2.1 l.length
  omega

/-! ### the law -/
theorem SensorEquations_eq (l : List Pr) (x : Ln) (hl : l.length ≤ 9223372036854775807) (hr : ∀ p ∈ l, in64 p.1 ∧ in64 p.2.1) : law07_SensorEquations l x = some true := by
  obtain ⟨a, b, d0, u⟩ := x
  obtain rfl : u = () := rfl
  unfold law07_SensorEquations
  have aw : law07_awake = some true := rfl
  rw [aw]
  simp only [Option.bind_some, Bool.not_true, cond_false]
  by_cases h6 : (l.length : Int) > 6
  · simp [h6]
  simp only [h6, decide_false, cond_false]
  rw [refPairsErr_ok (by omega) hr]
  simp only [Option.bind_some]
  by_cases h : pairE l = 0
  case neg => simp [h]
  have hp := pair_ok h
  rw [Flat_ok hp]
  simp only [h, decide_true, Bool.not_true, cond_false, Option.bind_some]
  by_cases hs : spread_ l = 0
  · simp [hs]
  simp only [hs, decide_false, cond_false, Within_eq, Option.bind_some]
  by_cases ha : -30 ≤ a ∧ a ≤ 30
  case neg => simp only [ha, decide_false, Bool.not_false, cond_true, Option.bind_some]
  by_cases hb : -30 ≤ b ∧ b ≤ 30
  case neg => simp only [ha, hb, and_self, decide_true, decide_false, Bool.not_true, Bool.not_false, cond_true, cond_false, Option.bind_some]
  simp only [ha, hb, and_self, decide_true, Bool.not_true, cond_false, Option.bind_some]
  have hl6 : l.length ≤ 6 := by omega
  have hl1 := hp.len1
  refine Ok.eq ?_
  rw [ok_elim]
  refine (loop_up l.length (fun i (s : List Int × Int × Int) => s = ((l.take i).map (fun p => p.2.1), SK (l.take i), (i : Int)) ∧ ∀ p ∈ l.take i, (-30 ≤ p.1 ∧ p.1 ≤ 30) ∧ (-30 ≤ p.2.1 ∧ p.2.1 ≤ 30))
    (fun r => r = .inr true ∨ (r = .inl (l.map (fun p => p.2.1), SK l) ∧ ∀ p ∈ l, (-30 ≤ p.1 ∧ p.1 ≤ 30) ∧ (-30 ≤ p.2.1 ∧ p.2.1 ≤ 30))) ⟨rfl, by simp⟩ ?_).mono ?_
  · rintro i s hi ⟨rfl, hI⟩
    by_cases hlt : i < l.length
    · have e0 : decide ((i : Int) < (l.length : Int)) = true := by simp; omega
      have hpi : l[i]? = some l[i] := by simp [hlt]
      have hm := List.mem_of_getElem? hpi
      have n2 := sumF_next (fun p : Pr => p.1) hpi
      have bk := (hp.sums i).sk
      have k1 := hp.kn _ hm
      simp only [e0, cond_true]
      rw [idx_of hpi]
      simp only [Option.bind_some]
      by_cases c1 : -30 ≤ l[i].1 ∧ l[i].1 ≤ 30
      case neg =>
        simp only [c1, decide_false, Bool.not_false, cond_true, Option.bind_some]
        rw [rnd_inr]; exact .inl rfl
      by_cases c2 : -30 ≤ l[i].2.1 ∧ l[i].2.1 ≤ 30
      case neg =>
        simp only [c1, c2, and_self, decide_true, decide_false, Bool.not_true, Bool.not_false, cond_true, cond_false, Option.bind_some]
        rw [rnd_inr]; exact .inl rfl
      have c1' := c1
      have c2' := c2
      simp only [c1, c2, and_self, decide_true, Bool.not_true, cond_false, Option.bind_some]
      rw [app_one (by simp; omega)]
      simp only [Option.bind_some]
      rw [wid (n := SK (l.take i) + l[i].1) (by omega) (by omega), wid (n := (i : Int) + 1) (by omega) (by omega), rnd_inl]
      refine ⟨hlt, ?_, fun p hpp => ?_⟩
      · unfold SK
        rw [n2, List.take_add_one, hpi]
        simp only [List.map_append, Option.toList_some, List.map_cons, List.map_nil]; rfl
      · rw [List.take_add_one, hpi, List.mem_append] at hpp
        cases hpp with
        | inl hpp => exact hI p hpp
        | inr hpp =>
          have : p = l[i] := by simpa using hpp
          subst this
          exact ⟨c1', c2'⟩
    · have : i = l.length := by omega
      subst this
      have e0 : decide ((l.length : Int) < (l.length : Int)) = false := by simp
      simp only [e0, cond_false]
      rw [rnd_inr, List.take_length]
      rw [List.take_length] at hI
      exact .inr ⟨rfl, hI⟩
  rintro r (rfl | ⟨rfl, hsm⟩)
  · rfl
  have sm : Sm l := ⟨hp, hl6, hsm, hs⟩
  have cf := sm.cal
  simp only
  have hcp : ref07_CopyPairs l = some l := CopyPairs_ok (by omega)
  rw [hcp]
  simp only [Option.bind_some]
  rw [CalibrationOf_ok (by omega), if_neg (fun hn => hn h), if_neg hs]
  simp only [Option.bind_some]
  generalize cal l = c at *
  obtain ⟨G, O, D, u⟩ := c
  obtain rfl : u = () := rfl
  have le := cf.le
  have b1 := cf.b1
  have b2 := cf.b2
  have b3 := cf.b3
  simp only at b1 b2 b3
  have f1 : ¬ (D > 10000000) := by omega
  have f2 : ¬ ((G.natAbs : Int) > 10000000) := by omega
  have f3 : ¬ ((O.natAbs : Int) > 10000000) := by omega
  simp only [decide_true, Bool.not_true, cond_false]
  rw [LineErr_ok, le, Size_eq (n := G) (by omega), Size_eq (n := O) (by omega)]
  simp only [Option.bind_some, decide_true, Bool.not_true, f1, f2, f3, decide_false, cond_false]
  rw [CheckCalibration_ok (by omega), if_neg (fun hn => hn h), if_neg (fun hn => hn le), accE_zero cf hs]
  simp only [Option.bind_some, decide_true, Bool.not_true, cond_false]
  rw [wid (n := G + 1) (by omega) (by omega), wid (n := O - 1) (by omega) (by omega), wid (n := D + 1) (by omega) (by omega), CheckLine_ok, CheckLine_ok, CheckLine_ok, CheckCalibration_ok (by omega), CheckCalibration_ok (by omega), CheckCalibration_ok (by omega)]
  simp only [Option.bind_some]
  rw [off_case h _ (.inl (off1 cf hs))]
  simp only [Option.bind_some, cond_false]
  rw [off_case h _ (.inl (off2 cf hl1))]
  simp only [Option.bind_some, cond_false]
  rw [off_case h _ ((off3 cf).imp id fun hz => by
    obtain ⟨z1, z2⟩ := hz
    simp only at z1 z2
    simp [z1, z2])]
  simp only [Option.bind_some, cond_false]
  have hraw : (l.map fun p => p.2.1).length = l.length := List.length_map ..
  rw [CopyInts_eq (by omega)]
  simp only [Option.bind_some]
  obtain ⟨hdv, hco⟩ := CorrectedOf_ok le b1 b2 b3 (raw := l.map fun p => p.2.1) (by omega) (by omega) (fun v hv => by
    obtain ⟨p, hpp, rfl⟩ := List.mem_map.1 hv
    exact (hsm p hpp).2)
  rw [hco]
  have hsum := parts_sum cf hdv
  have hparts : ∀ v ∈ ((l.map fun p => p.2.1).map (pt (G, O, D, ()))).map (fun v => v.tdiv (dvs (G, O, D, ()) (l.map fun p => p.2.1))), -62000000 ≤ v ∧ v ≤ 62000000 := fun v hv => by
    obtain ⟨u, hu, rfl⟩ := List.mem_map.1 hv
    obtain ⟨r, hr1, rfl⟩ := List.mem_map.1 hu
    obtain ⟨p, hpp, rfl⟩ := List.mem_map.1 hr1
    have m := abs_mul_le b1 (hsm p hpp).2
    have t := tdiv_abs (pt (G, O, D, ()) p.2.1) (dvs (G, O, D, ()) (l.map fun p => p.2.1))
    unfold pt at *
    simp only at *
    omega
  have hlen : (((l.map fun p => p.2.1).map (pt (G, O, D, ()))).map (fun v => v.tdiv (dvs (G, O, D, ()) (l.map fun p => p.2.1)))).length = l.length := by simp
  have hden : 1 ≤ D.tdiv (dvs (G, O, D, ()) (l.map fun p => p.2.1)) ∧ D.tdiv (dvs (G, O, D, ()) (l.map fun p => p.2.1)) ≤ 2000000 := by
    have hdd : (dvs (G, O, D, ()) (l.map fun p => p.2.1) : Int) ∣ D := gcdF_dvd (List.mem_append_right _ (by simp))
    have t := tdiv_abs D (dvs (G, O, D, ()) (l.map fun p => p.2.1))
    have e := Int.tdiv_mul_cancel hdd
    have : 0 < D.tdiv (dvs (G, O, D, ()) (l.map fun p => p.2.1)) := Int.pos_of_mul_pos_left (b := (dvs (G, O, D, ()) (l.map fun p => p.2.1) : Int)) (by omega) (by omega)
    omega
  simp only at hsum
  generalize ((l.map fun p => p.2.1).map (pt (G, O, D, ()))).map (fun v => v.tdiv (dvs (G, O, D, ()) (l.map fun p => p.2.1))) = parts at *
  generalize D.tdiv (dvs (G, O, D, ()) (l.map fun p => p.2.1)) = den at *
  have f4 : ¬ (den ≤ 0) := by omega
  have f5 : (parts.length : Int) = ((l.map fun p => p.2.1).length : Int) := by omega
  simp only [Option.bind_some, decide_true, Bool.not_true, f4, decide_false, cond_false, f5]
  rw [ok_elim]
  rw [← f5]
  have pbd := fun i : Nat => sumF_take_bd (f := fun v : Int => v) (n := 6) (l := parts) i (show (0 : Int) ≤ 62000000 by omega) (by omega) hparts
  refine (loop_up parts.length (fun i (s : Int × Int) => s = (sumF (fun v => v) (parts.take i), (i : Int))) (fun r => r = .inl (sumF (fun v => v) parts)) rfl ?_).mono ?_
  · rintro i s hi rfl
    by_cases hlt : i < parts.length
    · have e0 : decide ((i : Int) < (parts.length : Int)) = true := by simp; omega
      have hpi : parts[i]? = some parts[i] := by simp [hlt]
      have hm := hparts _ (List.mem_of_getElem? hpi)
      have n2 := sumF_next (fun v : Int => v) hpi
      have bk := pbd i
      simp only [e0, cond_true]
      rw [idx_of hpi]
      simp only [Option.bind_some]
      rw [Size_eq (by omega)]
      have g1 : ¬ ((parts[i].natAbs : Int) > 1000000000) := by omega
      simp only [Option.bind_some, g1, decide_false, cond_false]
      rw [wid (n := _ + parts[i]) (by omega) (by omega), wid (n := (i : Int) + 1) (by omega) (by omega), rnd_inl]
      exact ⟨hlt, by rw [n2]; rfl⟩
    · have : i = parts.length := by omega
      subst this
      have e0 : decide ((parts.length : Int) < (parts.length : Int)) = false := by simp
      simp only [e0, cond_false]
      rw [rnd_inr, List.take_length]
  rintro _ rfl
  simp only
  have sk := sm.bd.sk
  have bdk := abs_mul_le (a := den) (A := 2000000) (by omega) sk
  rw [hsum, wid (n := den * SK l) (by omega) (by omega)]
  have f6 : ¬ (den > 1000000000) := by omega
  simp only [f6, decide_false, decide_true, Bool.not_true, cond_false, Option.bind_some]
  rw [ok_bind]
  refine (loop_up l.length (fun i (s : List Pr × Int) => s = ((l.take i).map (onL a b) ++ l.drop i, (i : Int))) (fun r => r = l.map (onL a b)) (by simp) ?_).mono ?_
  · rintro i s hi rfl
    have hlen2 : ((l.take i).map (onL a b) ++ l.drop i).length = l.length := by simp; omega
    by_cases hlt : i < l.length
    · have e0 : decide ((i : Int) < (((l.take i).map (onL a b) ++ l.drop i).length : Int)) = true := by simp only [decide_eq_true_eq]; omega
      have hpi : l[i]? = some l[i] := by simp [hlt]
      obtain ⟨r1, r2⟩ := hsm _ (List.mem_of_getElem? hpi)
      have m := abs_mul_le ha r2
      simp only [e0, cond_true]
      rw [idx_of (get_next (onL a b) l i _ hpi)]
      simp only [Option.bind_some, Int.toNat_natCast]
      rw [wid (n := a * l[i].2.1) (by omega) (by omega), wid (n := a * l[i].2.1 + b) (by omega) (by omega), wid (n := (i : Int) + 1) (by omega) (by omega), rnd_inl]
      refine ⟨hlt, ?_⟩
      have := set_next (onL a b) l i _ hpi
      unfold onL at this ⊢
      rw [this]; rfl
    · have : i = l.length := by omega
      subst this
      have e0 : decide ((l.length : Int) < (((l.take l.length).map (onL a b) ++ l.drop l.length).length : Int)) = false := by simp
      simp only [e0, cond_false]
      rw [rnd_inr, List.take_length, List.drop_length, List.append_nil]
  rintro _ rfl
  have hon := on_ok sm ha hb
  have hpo := pair_ok hon
  obtain ⟨os, oc⟩ := on_cal a b hs
  obtain ⟨w1, w2⟩ := whole_ok ha hb
  have hlo : (l.map (onL a b)).length = l.length := List.length_map ..
  have hcp2 : ref07_CopyPairs (l.map (onL a b)) = some (l.map (onL a b)) := CopyPairs_ok (by omega)
  rw [hcp2]
  simp only [Option.bind_some]
  rw [CalibrationOf_ok (by omega), if_neg (fun hn => hn hon), if_neg (by rw [os]; exact hs), oc, MisfitOf_ok (by omega), if_neg (fun hn => hn hon), if_neg (fun hn => hn w1), if_pos w2, on_misf]
  simp only [Option.bind_some, decide_true, Bool.not_true, cond_false, cond_true, base_Whole, Bool.not_false]
  rw [SmallErr_ok cf.ms]
  simp only [Option.bind_some]
  by_cases hc : sml (G, O, D, ())
  case neg => simp [hc, ok_some]
  have m1 : sensor_MisfitOf l (G, O, D, ()) = some (misf (G, O, D, ()) l, 0) := by rw [MisfitOf_ok (by omega), if_neg (fun hn => hn h), if_neg (fun hn => hn le), if_pos hc]
  have m2 : sensor_MisfitOf l (a, b, 1, ()) = some ((MS (a, b, 1, ()) l, 1, ()), 0) := by rw [MisfitOf_ok (by omega), if_neg (fun hn => hn h), if_neg (fun hn => hn w1), if_pos w2, misf_one]
  rw [m1, m2]
  obtain ⟨k1, _, k2, rfl⟩ := least_ok cf hp hc w2
  have f7 : ¬ ((misf (G, O, D, ()) l).2.1 ≤ 0) := by omega
  simp only [hc, if_true, Option.bind_some, decide_true, Bool.not_true, cond_false, f7, decide_false]
  rw [k2, ok_some]
theorem law07_SensorEquations_true : ∀ x : denP ([Ty.sl (.pair I (.pair I .unit)), .pair I (.pair I (.pair I .unit))].map .ty), RngP maxLen [.sl (.pair I (.pair I .unit)), .pair I (.pair I (.pair I .unit))] x → e_law07_SensorEquations.F x = some true := by
  rintro ⟨a0, a1⟩ ⟨⟨h0, h1⟩, _⟩
  refine SensorEquations_eq a0 a1 (Nat.le_trans h0 (by decide)) fun p hp => ?_
  obtain ⟨h2, h3, _⟩ := h1 p hp
  exact ⟨h2, h3⟩
end Go.Proofs.Ytpiggpgocnlomaa
end
section
/-
  THE LAW SensorEquations.
-/
namespace Go.Proofs.Ytpiggpgocnlomaa.sensorEquations
open Go Go.Ab Go.Tx Go.ChangeShapes Go.WideShapes Go.ChangeAt Go.RowKit
set_option linter.unusedVariables false
theorem hlib : ∀ g h args r, Lb g = some h → h args = some r → CallOk Try.prog g args [] r [] := fun g h args r hg hr => by
  unfold Lb at hg
  split at hg
  · rename_i e
    subst e
    cases hg
    cases args with
    | nil => cases hr; exact awake_ok
    | cons a l => cases hr
  · cases hg
set_option maxRecDepth 100000 in
theorem contract (H : Type) (enc : TypeId × Value → H) (W : World) (base : Nat) (args : Array Value) (ds gs : List (DataW H)) (before : List MemPlace)
    (hval : ∀ (j : Nat) t v, Try.f9.params[j]? = some t → args[j]? = some v → Value.okWide Try.prog W .any base t v)
    (hW : DataW.Whole enc Try.prog Try.f9.params.toList Rows.sensorEquationsSpec.vars false W args.toList ds gs before) :
    Calls Try.prog 9 args W fun e W' => ∃ v, e = .returned v ∧ Rows.sensorEquationsSpec.post enc Try.prog Try.f9 false true false false W args v W' :=
  law_contract (τs := [.sl (.pair I (.pair I .unit)), .pair I (.pair I (.pair I .unit))]) (ts := [75, 77]) (tb := 4) (F := e_law07_SensorEquations.F) follows hname hlib laid_out Try.func9 (by kernel_rfl) (by kernel_rfl) (by kernel_rfl) (by kernel_rfl) (by kernel_rfl) (by kernel_rfl) Try.underlying4 o_law07_SensorEquations law07_SensorEquations_true rfl
    (fun H ds h => by
      match ds, h with
      | [d1, d2], _ => rfl) H enc W base args ds gs before hval hW
set_option maxRecDepth 100000 in
theorem lifted (os : Os) (started : os.Started) (H : Type) (enc : TypeId × Value → H) :
    ReturnsInHanded {} Try.checked os 9 .any (Rows.sensorEquationsSpec.pre6 enc Try.prog Try.f9 Rows.sensorEquationsRow.domain false) (Rows.sensorEquationsSpec.post enc Try.prog Try.f9 false true false false) := by
  refine returnsInHanded_of_change (C := Try.checked) own started (by kernel_rfl) Try.func9
    (ChangeSpec.witness6 (enc := enc) (C := Try.checked) false ⟨#[], #[.slice none 0 0, .agg #[.int .i64 0, .int .i64 0, .int .i64 0]], []⟩ 8 (by kernel_rfl) (by kernel_rfl) (by kernel_rfl) (by kernel_rfl)) ?_
  intro W base args ds gs before hval hW _ _
  exact contract H enc W base args ds gs before hval hW
theorem proved : Rows.SensorEquationsSaid :=
  OpenClaim.holds_of_wide 9 Try.f9 rfl rfl rfl rfl rfl rfl rfl ⟨rfl, rfl, rfl, rfl, rfl⟩ rfl rfl rfl rfl rfl (by kernel_rfl) Try.func9 (by kernel_rfl)
    (of_decide_eq_true (by kernel_rfl)) (by unfold Func.isWrapper; first | (rw [if_pos (by decide +kernel)]; kernel_rfl) | (rw [if_neg (by decide +kernel)]; exact ⟨rfl, rfl⟩))
    (fun os started H enc _ => lifted os started H enc)
end Go.Proofs.Ytpiggpgocnlomaa.sensorEquations
end
