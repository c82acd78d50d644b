/-
  THE LAW SensorShifts: curves, strange samples; the law.
-/
import Derived.Test.YtpiggpgocnlomaaPS2
set_option linter.unusedVariables false
set_option linter.unusedSimpArgs false
namespace Go.Proofs.Ytpiggpgocnlomaa
open Go Go.Ab Go.Tx
theorem Size_eq2 (v : Int) (h : -1000000000 ≤ v ∧ v ≤ 1000000000) : base_Size v = some (max v (-v)) := by
  unfold base_Size
  simp only [Int.zero_sub, wrap_id (n := -v) (by omega) (by omega)]
def cv (l : List Int) (i : Nat) : Int := l.getD (i - 1) 0 - 2 * l.getD i 0 + l.getD (i + 1) 0
theorem cv_bound {l : List Int} (g : Good l) (i : Nat) : -400000 ≤ cv l i ∧ cv l i ≤ 400000 := by
  have h1 := g.v (i - 1)
  have h2 := g.v i
  have h3 := g.v (i + 1)
  unfold cv
  omega
theorem curve_eq {l : List Int} (g : Good l) {i : Nat} (h : i + 2 < l.length) : sensor_curve l ((i + 1 : Nat) : Int) = some (cv l (i + 1)) := by
  have hl := g.len
  have h1 := g.v i
  have h2 := g.v (i + 1)
  have h3 := g.v (i + 2)
  unfold sensor_curve
  have e1 : w64 (((i + 1 : Nat) : Int) - 1) = (i : Int) := by rw [show w64 (((i + 1 : Nat) : Int) - 1) = ((i + 1 : Nat) : Int) - 1 from wrap_id (by omega) (by omega)]; omega
  have e2 : w64 (((i + 1 : Nat) : Int) + 1) = ((i + 2 : Nat) : Int) := by rw [show w64 (((i + 1 : Nat) : Int) + 1) = ((i + 1 : Nat) : Int) + 1 from wrap_id (by omega) (by omega)]; omega
  rw [e1, e2, idx_get (by omega), idx_get (by omega), idx_get (by omega)]
  simp only [Option.bind_some]
  rw [show w64 (2 * l.getD (i + 1) 0) = 2 * l.getD (i + 1) 0 from wrap_id (by omega) (by omega)]
  rw [show w64 (l.getD i 0 - 2 * l.getD (i + 1) 0) = l.getD i 0 - 2 * l.getD (i + 1) 0 from wrap_id (by omega) (by omega)]
  rw [show w64 (l.getD i 0 - 2 * l.getD (i + 1) 0 + l.getD (i + 2) 0) = l.getD i 0 - 2 * l.getD (i + 1) 0 + l.getD (i + 2) 0 from wrap_id (by omega) (by omega)]
  rfl
def cvs (l : List Int) (k : Nat) : List Int := (List.range k).map fun j => cv l (j + 1)
theorem cvs_succ (l : List Int) (k : Nat) : cvs l (k + 1) = cvs l k ++ [cv l (k + 1)] := by simp [cvs, List.range_succ]
theorem cvs_len (l : List Int) (k : Nat) : (cvs l k).length = k := by simp [cvs]
theorem cvs_get {l : List Int} {k i : Nat} (h : i < k) : idx (cvs l k) (i : Int) = some (cv l (i + 1)) := by
  rw [idx_nat]
  unfold cvs
  rw [List.getElem?_map, List.getElem?_range h]
  rfl
theorem CurvesOf_eq (l : List Int) (hl : l.length ≤ big) :
    sensor_CurvesOf l = some (if rawE l = 0 then (if 3 ≤ l.length then (cvs l (l.length - 2), 0) else ([], 12)) else ([], rawE l)) := by
  unfold sensor_CurvesOf
  simp only [rawErr_eq l hl, unless_eq, Option.bind_some]
  rw [first_of (by simp)]
  simp only [Option.bind_some, firstE]
  by_cases h0 : rawE l = 0
  · have g := good h0
    have hlen := g.len
    by_cases h1 : 3 ≤ l.length
    · have h1' : (l.length : Int) > 2 := by omega
      simp only [h0, h1, h1', decide_true, if_true, Bool.not_true, cond_false]
      have e1 : w64 ((l.length : Int) - 1) = (l.length : Int) - 1 := wrap_id (by omega) (by omega)
      obtain ⟨r, hr, hQ⟩ := loop_inv (f := fun (s6 : ((List Int) × Int)) =>
        bif decide (s6.2 < w64 ((l.length : Int) - 1)) then
          (sensor_curve l s6.2).bind fun x7 =>
          (app s6.1 ([x7])).bind fun x8 =>
          some (.inl (x8, w64 (s6.2 + 1)))
        else
          some (.inr s6.1)) (l.length - 2) (fun k st => st = (cvs l k, ((k + 1 : Nat) : Int))) (fun r => r = cvs l (l.length - 2))
        (by
          rintro k st hk rfl
          by_cases hlt : k < l.length - 2
          · left
            have hlt' : ((k + 1 : Nat) : Int) < (l.length : Int) - 1 := by omega
            simp only [e1, hlt', decide_true, cond_true, curve_eq g (i := k) (by omega), Option.bind_some]
            rw [app_of (by rw [cvs_len]; simp; omega)]
            refine ⟨_, rfl, hlt, ?_⟩
            rw [cvs_succ, show w64 (((k + 1 : Nat) : Int) + 1) = ((k + 1 : Nat) : Int) + 1 from wrap_id (by omega) (by omega)]
            rfl
          · right
            have hlt' : ¬ ((k + 1 : Nat) : Int) < (l.length : Int) - 1 := by omega
            simp only [e1, hlt', decide_false, cond_false]
            exact ⟨_, rfl, by rw [show k = l.length - 2 by omega]⟩)
        (s := ([], 1)) rfl
      rw [hr, hQ]
      rfl
    · have h1' : ¬ (l.length : Int) > 2 := by omega
      simp [h0, h1, h1']
  · simp [h0]
theorem Curves_eq {l : List Int} (g : Good l) : ref07_Curves l = some (cvs l (l.length - 2)) := by
  have hlen := g.len
  unfold ref07_Curves
  obtain ⟨r, hr, hQ⟩ := loop_inv (f := fun (s3 : ((List Int) × Int)) =>
      bif decide (w64 (s3.2 + 1) < (l.length : Int)) then
        (idx l (w64 (s3.2 - 1))).bind fun x4 =>
        (idx l s3.2).bind fun x5 =>
        (idx l (w64 (s3.2 + 1))).bind fun x6 =>
        (app s3.1 ([w64 ((w64 (x4 - (w64 (2 * x5)))) + x6)])).bind fun x7 =>
        some (.inl (x7, w64 (s3.2 + 1)))
      else
        some (.inr s3.1)) (l.length - 2) (fun k st => st = (cvs l k, ((k + 1 : Nat) : Int))) (fun r => r = cvs l (l.length - 2))
    (by
      rintro k st hk rfl
      have e1 : w64 (((k + 1 : Nat) : Int) - 1) = (k : Int) := by rw [show w64 (((k + 1 : Nat) : Int) - 1) = ((k + 1 : Nat) : Int) - 1 from wrap_id (by omega) (by omega)]; omega
      have e2 : w64 (((k + 1 : Nat) : Int) + 1) = ((k + 2 : Nat) : Int) := by rw [show w64 (((k + 1 : Nat) : Int) + 1) = ((k + 1 : Nat) : Int) + 1 from wrap_id (by omega) (by omega)]; omega
      by_cases hlt : k < l.length - 2
      · left
        have hlt' : ((k + 2 : Nat) : Int) < (l.length : Int) := by omega
        have h1 := g.v k
        have h2 := g.v (k + 1)
        have h3 := g.v (k + 2)
        simp only [e1, e2, hlt', decide_true, cond_true, idx_get (l := l) (i := k) (by omega), idx_get (l := l) (i := k + 1) (by omega), idx_get (l := l) (i := k + 2) (by omega), Option.bind_some]
        rw [app_of (by rw [cvs_len]; simp; omega)]
        refine ⟨_, rfl, hlt, ?_⟩
        rw [show w64 (2 * l.getD (k + 1) 0) = 2 * l.getD (k + 1) 0 from wrap_id (by omega) (by omega)]
        rw [show w64 (l.getD k 0 - 2 * l.getD (k + 1) 0) = l.getD k 0 - 2 * l.getD (k + 1) 0 from wrap_id (by omega) (by omega)]
        rw [show w64 (l.getD k 0 - 2 * l.getD (k + 1) 0 + l.getD (k + 2) 0) = l.getD k 0 - 2 * l.getD (k + 1) 0 + l.getD (k + 2) 0 from wrap_id (by omega) (by omega)]
        rw [cvs_succ]
        rfl
      · right
        have hlt' : ¬ ((k + 2 : Nat) : Int) < (l.length : Int) := by omega
        simp only [e2, hlt', decide_false, cond_false]
        exact ⟨_, rfl, by rw [show k = l.length - 2 by omega]⟩)
    (s := ([], 1)) rfl
  rw [hr, hQ]
  rfl
def stL (l y : List Int) (lim : Int) : Nat → List Int
  | 0 => []
  | k + 1 => if -lim ≤ cv l (k + 1) - y.getD (k + 1) 0 ∧ cv l (k + 1) - y.getD (k + 1) 0 ≤ lim then stL l y lim k else stL l y lim k ++ [((k + 1 : Nat) : Int)]
theorem stL_len (l y : List Int) (lim : Int) : ∀ k, (stL l y lim k).length ≤ k
  | 0 => by simp [stL]
  | k + 1 => by
    have := stL_len l y lim k
    simp only [stL]
    split
    · omega
    · simp; omega
theorem StrangeIn_bad (a0 a1 : List Int) (x : Int) (l0 : a0.length ≤ big) (l1 : a1.length ≤ big) (h : shE a0 a1 x 100000 ≠ 0) : sensor_StrangeIn a0 a1 x = some ([], shE a0 a1 x 100000) := by
  unfold sensor_StrangeIn
  simp only [rawErr_eq a0 l0, rawErr_eq a1 l1, unless_eq, within_eq, Option.bind_some]
  rw [first_of (by simp), first4_eq a0 a1 x 100000 l0 l1]
  simp [h]
theorem StrangeIn_eq (a0 a1 : List Int) (x : Int) (l0 : a0.length ≤ big) (l1 : a1.length ≤ big) (h : shE a0 a1 x 100000 = 0) : sensor_StrangeIn a0 a1 x = some (stL a0 a1 x (a0.length - 2), 0) := by
  obtain ⟨z0, z1, hl, hx⟩ := shE_zero h
  have g0 := good z0
  have g1 := good z1
  have hlen := g0.len
  unfold sensor_StrangeIn
  simp only [rawErr_eq a0 l0, rawErr_eq a1 l1, unless_eq, within_eq, Option.bind_some]
  rw [first_of (by simp), first4_eq a0 a1 x 100000 l0 l1]
  simp only [h, decide_true, Bool.not_true, cond_false, Option.bind_some]
  have e1 : w64 ((a0.length : Int) - 1) = (a0.length : Int) - 1 := wrap_id (by omega) (by omega)
  obtain ⟨r, hr, hQ⟩ := loop_inv (f := fun (s8 : ((List Int) × Int)) =>
        bif decide (s8.2 < w64 ((a0.length : Int) - 1)) then
          (sensor_curve a0 s8.2).bind fun x9 =>
          (idx a1 s8.2).bind fun x10 =>
          (sensor_sized (w64 (x9 - x10)) x).bind fun x11 =>
          (bif !x11 then
              (app s8.1 ([s8.2])).bind fun x12 =>
              some x12
            else
              some s8.1).bind fun (p13 : (List Int)) =>
          some (.inl (p13, w64 (s8.2 + 1)))
        else
          some (.inr s8.1)) (a0.length - 2) (fun k st => st = (stL a0 a1 x k, ((k + 1 : Nat) : Int))) (fun r => r = stL a0 a1 x (a0.length - 2))
    (by
      rintro k st hk rfl
      by_cases hlt : k < a0.length - 2
      · left
        have hlt' : ((k + 1 : Nat) : Int) < (a0.length : Int) - 1 := by omega
        have hc := cv_bound g0 (k + 1)
        have hv := g1.v (k + 1)
        have hsl := stL_len a0 a1 x k
        simp only [e1, hlt', decide_true, cond_true, curve_eq g0 (i := k) (by omega), idx_get (l := a1) (i := k + 1) (by omega), Option.bind_some]
        rw [show w64 (cv a0 (k + 1) - a1.getD (k + 1) 0) = cv a0 (k + 1) - a1.getD (k + 1) 0 from wrap_id (by omega) (by omega), sized_eq _ _ hx.1 (by omega)]
        rw [show w64 (((k + 1 : Nat) : Int) + 1) = ((k + 1 : Nat) : Int) + 1 from wrap_id (by omega) (by omega)]
        rw [app_of (by simp; omega)]
        simp only [Option.bind_some, stL]
        by_cases hin : -x ≤ cv a0 (k + 1) - a1.getD (k + 1) 0 ∧ cv a0 (k + 1) - a1.getD (k + 1) 0 ≤ x
        · simp only [hin, and_self, decide_true, Bool.not_true, cond_false, if_true, Option.bind_some]
          exact ⟨_, rfl, hlt, rfl⟩
        · simp only [hin, decide_false, Bool.not_false, cond_true, if_false, Option.bind_some]
          exact ⟨_, rfl, hlt, rfl⟩
      · right
        have hlt' : ¬ ((k + 1 : Nat) : Int) < (a0.length : Int) - 1 := by omega
        simp only [e1, hlt', decide_false, cond_false]
        exact ⟨_, rfl, by rw [show k = a0.length - 2 by omega]⟩)
    (s := ([], 1)) rfl
  rw [hr, hQ]
  rfl
theorem Strange_eq {a0 a1 : List Int} (g0 : Good a0) (g1 : Good a1) (hl : a0.length = a1.length) {x : Int} (hx : 0 ≤ x ∧ x ≤ 100000) : ref07_Strange a0 a1 x = some (stL a0 a1 x (a0.length - 2)) := by
  have hlen := g0.len
  unfold ref07_Strange
  simp only [Curves_eq g0, Option.bind_some, cvs_len]
  obtain ⟨r, hr, hQ⟩ := loop_inv (f := fun (s3 : ((List Int) × Int)) =>
      bif decide (s3.2 < ((a0.length - 2 : Nat) : Int)) then
        (idx (cvs a0 (a0.length - 2)) s3.2).bind fun x4 =>
        (idx a1 (w64 (s3.2 + 1))).bind fun x5 =>
        (base_Size (w64 (x4 - x5))).bind fun x6 =>
        (bif decide (x6 > x) then
            (app s3.1 ([w64 (s3.2 + 1)])).bind fun x7 =>
            some x7
          else
            some s3.1).bind fun (p8 : (List Int)) =>
        some (.inl (p8, w64 (s3.2 + 1)))
      else
        some (.inr s3.1)) (a0.length - 2) (fun k st => st = (stL a0 a1 x k, (k : Int))) (fun r => r = stL a0 a1 x (a0.length - 2))
    (by
      rintro k st hk rfl
      by_cases hlt : k < a0.length - 2
      · left
        have hlt' : (k : Int) < ((a0.length - 2 : Nat) : Int) := by omega
        have hc := cv_bound g0 (k + 1)
        have hv := g1.v (k + 1)
        have hsl := stL_len a0 a1 x k
        have e2 : w64 ((k : Int) + 1) = ((k + 1 : Nat) : Int) := by rw [show w64 ((k : Int) + 1) = (k : Int) + 1 from wrap_id (by omega) (by omega)]; omega
        simp only [hlt', decide_true, cond_true, cvs_get hlt, e2, idx_get (l := a1) (i := k + 1) (by omega), Option.bind_some]
        rw [show w64 (cv a0 (k + 1) - a1.getD (k + 1) 0) = cv a0 (k + 1) - a1.getD (k + 1) 0 from wrap_id (by omega) (by omega), Size_eq2 _ (by omega)]
        rw [app_of (by simp; omega)]
        simp only [Option.bind_some, stL]
        by_cases hin : -x ≤ cv a0 (k + 1) - a1.getD (k + 1) 0 ∧ cv a0 (k + 1) - a1.getD (k + 1) 0 ≤ x
        · have h3 : ¬ max (cv a0 (k + 1) - a1.getD (k + 1) 0) (-(cv a0 (k + 1) - a1.getD (k + 1) 0)) > x := by omega
          simp only [hin, h3, and_self, decide_false, cond_false, if_true, Option.bind_some]
          exact ⟨_, rfl, hlt, rfl⟩
        · have h3 : max (cv a0 (k + 1) - a1.getD (k + 1) 0) (-(cv a0 (k + 1) - a1.getD (k + 1) 0)) > x := by omega
          simp only [hin, h3, decide_true, cond_true, if_false, Option.bind_some]
          exact ⟨_, rfl, hlt, rfl⟩
      · right
        have hlt' : ¬ (k : Int) < ((a0.length - 2 : Nat) : Int) := by omega
        simp only [hlt', decide_false, cond_false]
        exact ⟨_, rfl, by rw [show k = a0.length - 2 by omega]⟩)
    (s := ([], 0)) rfl
  rw [hr, hQ]
  rfl
theorem SensorShifts_eq (a0 a1 : List Int) (a2 : Int × Int × Unit) (l0 : a0.length ≤ big) (l1 : a1.length ≤ big) : law07_SensorShifts a0 a1 a2 = some true := by
  unfold law07_SensorShifts
  simp only [law07_awake, Option.bind_some, Bool.not_true, cond_false, samples_eq]
  by_cases hs0 : a0.length ≤ 62
  case neg => simp [hs0]
  by_cases hs1 : a1.length ≤ 62
  case neg => simp [hs0, hs1]
  have c0 := CopyInts_eq a0 (by omega)
  have c1 := CopyInts_eq a1 (by omega)
  simp only [hs0, hs1, decide_true, Bool.not_true, cond_false, Option.bind_some, c0, c1, RawErr_eq, ShiftErr_eq, CurvesOf_eq a0 l0]
  obtain ⟨sh, hsh, hshE, hshB⟩ : ∃ sh, sensor_ShiftOf a0 a1 a2.1 = some (sh, shE a0 a1 a2.1 20) ∧ (shE a0 a1 a2.1 20 ≠ 0 → sh = 0) ∧ (shE a0 a1 a2.1 20 = 0 → ref07_Shift a0 a1 a2.1 = some sh) := by
    by_cases h : shE a0 a1 a2.1 20 = 0
    · obtain ⟨r, hr, hb⟩ := ShiftOf_eq a0 a1 a2.1 l0 l1 h
      obtain ⟨z0, z1, hl, hx⟩ := shE_zero h
      obtain ⟨r', hr', hb'⟩ := Shift_eq (good z0) (good z1) hx
      have := hb.unique hb'
      subst this
      exact ⟨r, by rw [hr, h], fun hh => absurd h hh, fun _ => hr'⟩
    · exact ⟨0, ShiftOf_bad a0 a1 a2.1 l0 l1 h, fun _ => rfl, fun hh => absurd hh h⟩
  obtain ⟨st, hst, hstE, hstB, hstL⟩ : ∃ st, sensor_StrangeIn a0 a1 a2.2.1 = some (st, shE a0 a1 a2.2.1 100000) ∧ (shE a0 a1 a2.2.1 100000 ≠ 0 → st = []) ∧ (shE a0 a1 a2.2.1 100000 = 0 → ref07_Strange a0 a1 a2.2.1 = some st) ∧ st.length ≤ big := by
    by_cases h : shE a0 a1 a2.2.1 100000 = 0
    · obtain ⟨z0, z1, hl, hx⟩ := shE_zero h
      have := stL_len a0 a1 a2.2.1 (a0.length - 2)
      exact ⟨_, by rw [StrangeIn_eq a0 a1 a2.2.1 l0 l1 h, h], fun hh => absurd h hh, fun _ => Strange_eq (good z0) (good z1) hl hx, by unfold big; omega⟩
    · exact ⟨[], StrangeIn_bad a0 a1 a2.2.1 l0 l1 h, fun _ => rfl, fun hh => absurd hh h, by simp⟩
  simp only [hsh, hst, Option.bind_some]
  have k1 : ∀ b : Option Bool, b = some false → (b.bind fun (p20 : Bool) => bif p20 then some false else some true) = some true := fun b hb => by rw [hb]; rfl
  -- curves
  have hcurve : ∀ (cont : Option Bool), ((bif decide (rawE a0 = 0) then some (decide ((a0.length : Int) < 3)) else some false).bind fun (p14 : Bool) =>
      (bif p14 then some 12 else some (rawE a0)).bind fun (p15 : Int) =>
      (bif !(decide ((if rawE a0 = 0 then (if 3 ≤ a0.length then (cvs a0 (a0.length - 2), (0 : Int)) else ([], 12)) else ([], rawE a0)).2 = p15)) then
          some true
        else
          bif !(decide (p15 = 0)) then
            bif !(decide (((if rawE a0 = 0 then (if 3 ≤ a0.length then (cvs a0 (a0.length - 2), (0 : Int)) else ([], 12)) else ([], rawE a0)).1.length : Int) = 0)) then
              some true
            else
              bif decide (p15 = 0) then
                (ref07_Curves a0).bind fun x16 =>
                (base_Ints (if rawE a0 = 0 then (if 3 ≤ a0.length then (cvs a0 (a0.length - 2), (0 : Int)) else ([], 12)) else ([], rawE a0)).1 x16).bind fun x17 =>
                some (!x17)
              else
                some false
          else
            bif decide (p15 = 0) then
              (ref07_Curves a0).bind fun x18 =>
              (base_Ints (if rawE a0 = 0 then (if 3 ≤ a0.length then (cvs a0 (a0.length - 2), (0 : Int)) else ([], 12)) else ([], rawE a0)).1 x18).bind fun x19 =>
              some (!x19)
            else
              some false).bind fun (p20 : Bool) => bif p20 then some false else cont) = cont := by
    intro cont
    by_cases h0 : rawE a0 = 0
    · have g := good h0
      have hlen := g.len
      by_cases h1 : 3 ≤ a0.length
      · have h1' : ¬ (a0.length : Int) < 3 := by omega
        have hb : (cvs a0 (a0.length - 2)).length ≤ big := by rw [cvs_len]; unfold big; omega
        simp only [h0, h1, h1', if_true, decide_true, decide_false, cond_true, cond_false, Option.bind_some, Bool.not_true, Curves_eq g, Ints_same _ hb]
      · have h1' : (a0.length : Int) < 3 := by omega
        simp only [h0, h1, h1', if_true, if_false, decide_true, decide_false, cond_true, cond_false, Option.bind_some, Bool.not_true, Bool.not_false]
        simp
    · simp only [h0, if_false, decide_true, decide_false, cond_true, cond_false, Option.bind_some, Bool.not_true, Bool.not_false]
      simp
  refine (hcurve _).trans ?_
  by_cases e1 : shE a0 a1 a2.1 20 = 0
  · have e1' := hshB e1
    simp only [e1, e1', decide_true, Bool.not_true, cond_false, cond_true, Option.bind_some]
    by_cases e2 : shE a0 a1 a2.2.1 100000 = 0
    · have e2' := hstB e2
      simp only [e2, e2', decide_true, Bool.not_true, cond_false, cond_true, Option.bind_some, Ints_same _ hstL]
    · have e2' := hstE e2
      subst e2'
      simp [e2]
  · have e1' := hshE e1
    subst e1'
    by_cases e2 : shE a0 a1 a2.2.1 100000 = 0
    · have e2' := hstB e2
      simp only [e1, e2, e2', decide_true, decide_false, Bool.not_true, Bool.not_false, cond_false, cond_true, Option.bind_some, Ints_same _ hstL]
    · have e2' := hstE e2
      subst e2'
      simp [e1, e2]
theorem law07_SensorShifts_true : ∀ x : denP ([Ty.sl I, .sl I, .pair I (.pair I .unit)].map .ty), RngP maxLen [.sl I, .sl I, .pair I (.pair I .unit)] x → e_law07_SensorShifts.F x = some true := by
  rintro ⟨a0, a1, a2⟩ ⟨⟨h0, _⟩, ⟨h1, _⟩, _⟩
  exact SensorShifts_eq a0 a1 a2 (Nat.le_trans h0 (by decide)) (Nat.le_trans h1 (by decide))
end Go.Proofs.Ytpiggpgocnlomaa
