/-
  ONE LAW OF A CHAPTER: its program side is run by an interpreter that is proved sound; what it computes is shown to be what the law says. No conditions. Part 7 of 7.
-/
import Derived.Test.YtbcdgfgacigaoaaGreatMdzf
set_option linter.unusedSimpArgs false
set_option linter.unusedVariables false
set_option linter.unnecessarySimpa false
section
namespace Go.Proofs.YtbcdgfgacigaoaaGreat.Mat
open Go Go.Ab Go.Tx Go.Proofs.YtbcdgfgacigaoaaGreat
theorem flo_in {n : Int} (h1 : -9007199254740991 <= n) (h2 : n <= 9007199254740991) : flo n = some n := by
 unfold flo; rw [if_pos (by omega)]
def lstE (l : List G) (n : Nat) : Int := if l.length = n then (if l.any (badZ 10000) = true then 2 else 0) else 10
theorem listAny_ok (r : List G) (h : r.length <= 1000000000) : slices_ContainsFunc_Lapi_Gauss_api_Gauss_of_drive_listErr_1 r = some (r.any (badZ 10000)) := by
 unfold slices_ContainsFunc_Lapi_Gauss_api_Gauss_of_drive_listErr_1 slices_IndexFunc_Lapi_Gauss_api_Gauss_of_drive_listErr_1;refine for_any r drive_listErr_1 (badZ 10000) (fun x _ => ?_) h
 unfold drive_listErr_1;rw [whole_isSized_ok _ _ (by omega) (by omega)]; rfl
theorem listErr_ok {l : List G} {n : Nat} (h : l.length <= 1000000000) : drive_listErr l (n : Int) = some (lstE l n) := by
 unfold drive_listErr lstE;rw [listAny_ok l h];simp only [Option.bind_some, unless_eq];rw [first2];by_cases c : l.length = n
 ·have c' : decide ((l.length : Int) = (n : Int)) = true := decide_eq_true (by omega)
  rw [c', if_pos c];cases hb : l.any (badZ 10000) <;> simp
 ·have c' : decide ((l.length : Int) = (n : Int)) = false := decide_eq_false (by omega)
  rw [c', if_neg c];simp
theorem refListErr_ok {l : List G} {n : Nat} (h : l.length <= 1000000000) : ref04_ListErr l (n : Int) = some (lstE l n) := by
 unfold ref04_ListErr lstE;by_cases c : l.length = n
 case neg =>
  rw [decide_eq_false (show ¬ (l.length : Int) = (n : Int) by omega), Bool.not_false, cond_true, if_neg c]
 rw [decide_eq_true (show (l.length : Int) = (n : Int) by omega), Bool.not_true, cond_false, if_pos c]
 rw [for_find l _ (fun _ z => if badZ 10000 z then some (2 : Int) else none) (fun k z hk => ?_), elim_toSum]
 ·cases hf : findI (fun _ z => if badZ 10000 z then some (2 : Int) else none) 0 l with
  | none =>
   rw [findI_none] at hf;have hb : l.any (badZ 10000) = false := by
    rw [List.any_eq_false];intro x hx;obtain ⟨k, hk⟩ := List.mem_iff_getElem?.1 hx;have := hf k x hk;simpa using this
   simp [hb]
  | some q =>
   obtain ⟨k, z, h1, h2, _⟩ := findI_some hf;have hp : badZ 10000 z = true := by
    cases hp : badZ 10000 z
    ·simp [hp] at h2
    ·rfl
   have hb : l.any (badZ 10000) = true := List.any_eq_true.2 ⟨z, List.mem_of_getElem? h1, hp⟩;simp only [hp, if_true, Option.some.injEq] at h2;simp [hb, <- h2]
 ·have hlk := len_lt hk;rw [idx_of hk, Option.bind_some, refIsSized_ok _ _ (by omega) (by omega), Option.bind_some, wid (by omega) (by omega)]
  unfold badZ;by_cases d : Bd 10000 z <;> simp [d, stp]
theorem lst_ok {l : List G} {n : Nat} (h : lstE l n = 0) : l.length = n /\ ∀ z ∈ l, Bd 10000 z := by
 unfold lstE at h;by_cases c : l.length = n
 case neg => rw [if_neg c] at h; cases h
 rw [if_pos c] at h;refine ⟨c, fun z hz => ?_⟩
 cases hb : l.any (badZ 10000) with
 | true => rw [hb, if_pos rfl] at h; cases h
 | false =>
  have := List.any_eq_false.1 hb z hz;unfold badZ at this;simpa using this
def respF (n : Nat) (f : Nat -> Nat -> G) (d : Nat -> G) (i : Nat) : G := sumG n fun k => gmul (f i k) (d k)
theorem resp_bd {n : Nat} {A B : Int} {f : Nat -> Nat -> G} {d : Nat -> G} (hf : BdF A n n f) (hd : ∀ k, k < n -> Bd B (d k)) {i : Nat} (hi : i < n) : Bd (n * (2 * (A * B))) (respF n f d i) :=
 Bd.sum fun k hk => (hf i k hi hk).mul (hd k hk)
theorem Response_ok {n : Nat} {A B : Int} {f : Nat -> Nat -> G} {d : Nat -> G} (hA : 0 <= A) (hB : 0 <= B) (hf : BdF A n n f) (hd : ∀ k, k < n -> Bd B (d k)) (hn : n <= 1000) (hn1 : 1 <= n) (hbd : (n : Int) * (2 * (A * B)) <= 9000000000000000000) :
  ref04_Response (mx n n f) (mkL n d) = some (mkL n (respF n f d)) := by
 unfold ref04_Response;rw [mx_len, mkL_len];have h0 : 0 <= 2 * (A * B) := by have := Int.mul_nonneg hA hB; omega
 have h1 : 2 * (A * B) <= 9000000000000000000 := by
  have := Int.mul_le_mul_of_nonneg_right (show (1 : Int) <= n by omega) h0
  omega
 rw [for_mk n (respF n f d) (fun i hi => ?_) ?_]
 ·rfl
 ·have e0 : decide ((n : Int) < (n : Int)) = false := by simp
  simp only [e0, cond_false]
 ·have e0 : decide ((i : Int) < (n : Int)) = true := decide_eq_true (by omega)
  simp only [e0, cond_true];rw [sum_loop n hn h0 hbd (fun k => gmul (f i k) (d k)) (fun k hk => (hf i k hi hk).mul (hd k hk)) (fun k hk x y hxy => ?_) (fun x y => ?_)]
  ·simp only [Option.bind_some];rw [app_one (by rw [mkL_len]; omega)]
   simp only [Option.bind_some];rw [wid (by omega) (by omega)]
   rfl
  ·have e0 : decide ((k : Int) < (n : Int)) = true := decide_eq_true (by omega)
   simp only [e0, cond_true];rw [idx_of (mx_at f hi), Option.bind_some, idx_of (mkL_get (fun k => f i k) hk), Option.bind_some, idx_of (mkL_get d hk), Option.bind_some]
   rw [GMul_ok (hf i k hi hk) (hd k hk) h1];simp only [Option.bind_some];rw [GAdd_ok hxy ((hf i k hi hk).mul (hd k hk)) (le_next h0 hk hbd)];rfl
  ·have e0 : decide ((n : Int) < (n : Int)) = false := by simp
   simp only [e0, cond_false]
theorem nat_mul_le {k n : Nat} {A : Int} (hA : 0 <= A) (h : k <= n) : (k : Int) * A <= (n : Int) * A := Int.mul_le_mul_of_nonneg_right (by omega) hA
theorem response_ok {n : Nat} {f : Nat -> Nat -> G} {d : Nat -> G} (hf : BdF 20 n n f) (hd : ∀ k, k < n -> Bd 10000 (d k)) (hn : n <= 3) :
  drive_response (mx n n f) (mkL n d) = some (mkL n (respF n f d)) := by
 unfold drive_response;rw [mx_len];rw [for_mk n (respF n f d) (fun i hi => ?_) ?_]
 ·rfl
 ·have e0 : decide ((n : Int) < (n : Int)) = false := by simp
  simp only [e0, cond_false]
 ·have e0 : decide ((i : Int) < (n : Int)) = true := decide_eq_true (by omega)
  simp only [e0, cond_true];rw [idx_of (mx_at f hi), Option.bind_some, mkL_len];have hF : ∀ k, k < n -> Bd 400000 (gmul (f i k) (d k)) := fun k hk => ((hf i k hi hk).mul (hd k hk)).mono (by omega)
  have hS : ∀ k, k <= n -> Bd 1200000 (sumG k fun k => gmul (f i k) (d k)) := fun k hk => by
   have h1 := Bd.sum (n := k) fun j hj => hF j (by omega)
   exact h1.mono (by omega)
  refine Ok.eq ?_;rw [ok_bind];refine (loop_up n (fun k (s : (Int × Int) × Int) => s = (((sumG k fun k => gmul (f i k) (d k)).1, (sumG k fun k => gmul (f i k) (d k)).2.1), (k : Int))) (fun r => r = ((sumG n fun k => gmul (f i k) (d k)).1, (sumG n fun k => gmul (f i k) (d k)).2.1)) rfl ?_).mono ?_
  ·rintro k s hk rfl;by_cases hlt : k < n
   ·have e1 : decide ((k : Int) < (n : Int)) = true := decide_eq_true (by omega)
    have hx : idx (mkL n fun b => f i b) (k : Int) = some (f i k) := idx_of (mkL_get _ hlt)
    have hy : idx (mkL n d) (k : Int) = some (d k) := idx_of (mkL_get _ hlt);simp only [e1, cond_true, hx, hy, Option.bind_some];have hs := hS k hk;have hs' := hS (k + 1) hlt;have hfk := hf i k hi hlt;have hdk := hd k hlt;have p1 := abs_mul_le hfk.1 hdk.1;have p2 := abs_mul_le hfk.2 hdk.2;have p3 := abs_mul_le hfk.1 hdk.2;have p4 := abs_mul_le hfk.2 hdk.1;have es : sumG (k + 1) (fun k => gmul (f i k) (d k)) = gadd (sumG k fun k => gmul (f i k) (d k)) (gmul (f i k) (d k)) := rfl
    rw [es] at hs' ⊢;generalize sumG k (fun k => gmul (f i k) (d k)) = S at *
    unfold Bd gadd gmul at *;simp only at hs' ⊢;rw [flo_in (by omega) (by omega), Option.bind_some, flo_in (by omega) (by omega), Option.bind_some, flo_in (by omega) (by omega), Option.bind_some, flo_in (by omega) (by omega), Option.bind_some]
    rw [flo_in (by omega) (by omega), Option.bind_some, flo_in (by omega) (by omega), Option.bind_some, flo_in (by omega) (by omega), Option.bind_some]
    rw [flo_in (by omega) (by omega), Option.bind_some, flo_in (by omega) (by omega), Option.bind_some, flo_in (by omega) (by omega), Option.bind_some]
    rw [flo_in (by omega) (by omega), Option.bind_some, flo_in (by omega) (by omega), Option.bind_some]
    rw [wid (by omega) (by omega), rnd_inl]
    exact ⟨hlt, rfl⟩
   ·have : k = n := by omega
    subst this;have e1 : decide ((k : Int) < (k : Int)) = false := by simp
    simp only [e1, cond_false];rw [rnd_inr]
  ·rintro r rfl;have hs := hS n (Nat.le_refl n);unfold Bd at hs;simp only
   rw [flo_in (by omega) (by omega), Option.bind_some, flo_in (by omega) (by omega), Option.bind_some, app_one (by rw [mkL_len]; omega), Option.bind_some, wid (by omega) (by omega)]
   exact ok_some.2 rfl
def nr (a b : Int) : Int := if a % b > b - a % b then a / b + 1 else a / b
def rnd (a b : Int) : Int := if a < 0 then 0 - nr (0 - a) b else nr a b
theorem div_bd {a b : Int} (ha : 0 <= a) (hb : 0 < b) : 0 <= a / b /\ a / b <= a := ⟨Int.ediv_nonneg ha (by omega), Int.ediv_le_self b ha⟩
theorem nr_bd {a b : Int} (ha : 0 <= a) (hb : 0 < b) : 0 <= nr a b /\ nr a b <= a + 1 := by
 have := div_bd ha hb;unfold nr;split <;> omega
theorem near_pos {m : Nat} {a b : Int} (ha : 0 <= a) (hb : 0 < b) (ha2 : a <= 4000000000000000000) (hb2 : b <= 4000000000000000000) : drive_near_n (m + 1) a b = some (nr a b) := by
 have h1 := div_bd ha hb;have h2 := Int.emod_nonneg a (show b ≠ 0 by omega)
 have h3 := Int.emod_lt_of_pos a hb;have e1 : a.tmod b = a % b := Int.tmod_eq_emod_of_nonneg ha;have e2 : a.tdiv b = a / b := Int.tdiv_eq_ediv_of_nonneg ha;show (bif decide (a < 0) then _ else _) = _;rw [decide_eq_false (show ¬ a < 0 by omega), cond_false, decide_eq_false (show ¬ b = 0 by omega), cond_false, cond_false, e1, e2, wid (n := b - a % b) (by omega) (by omega), wid (n := a / b) (by omega) (by omega), wid (n := a / b + 1) (by omega) (by omega)]
 unfold nr;by_cases c : a % b > b - a % b
 ·rw [decide_eq_true c, if_pos c]; rfl
 ·rw [decide_eq_false c, if_neg c]; rfl
theorem near_ok {a b : Int} (ha : -4000000000000000000 <= a /\ a <= 4000000000000000000) (hb : 0 < b) (hb2 : b <= 4000000000000000000) : drive_near a b = some (rnd a b) := by
 unfold drive_near rnd;by_cases c : a < 0
 ·have e : drive_near_n 12 a b = (bif decide (a < 0) then (drive_near_n 11 (w64 (0 - a)) b).bind fun x1 => some (w64 (0 - x1)) else _) := rfl
  rw [e, decide_eq_true c, cond_true, wid (by omega) (by omega), near_pos (m := 10) (by omega) hb (by omega) hb2, Option.bind_some, if_pos c]
  have := nr_bd (a := 0 - a) (b := b) (by omega) hb
  rw [wid (by omega) (by omega)]
 ·rw [near_pos (m := 11) (by omega) hb (by omega) hb2, if_neg c]
theorem Floor_ok {a b : Int} (ha : -4000000000000000000 <= a /\ a <= 4000000000000000000) (hb : 0 < b) : base_Floor a b = some (a / b) := by
 unfold base_Floor;have ht := tdiv_bd (x := a) (g := b) (B := 4000000000000000000) (by omega)
 rw [decide_eq_false (show ¬ b = 0 by omega), cond_false, cond_false, wid (n := a.tdiv b) (by omega) (by omega), wid (n := a.tdiv b - 1) (by omega) (by omega)]
 by_cases h0 : 0 <= a
 ·have e1 : a.tmod b = a % b := Int.tmod_eq_emod_of_nonneg h0;have e2 : a.tdiv b = a / b := Int.tdiv_eq_ediv_of_nonneg h0;have h2 := Int.emod_nonneg a (show b ≠ 0 by omega)
  rw [e1, e2, decide_eq_false (show ¬ a % b < 0 by omega)]; rfl
 ·have e1 : (-a).tmod b = (-a) % b := Int.tmod_eq_emod_of_nonneg (by omega)
  have e2 : (-a).tdiv b = (-a) / b := Int.tdiv_eq_ediv_of_nonneg (by omega)
  rw [Int.neg_tmod] at e1;rw [Int.neg_tdiv] at e2;have h2 := Int.emod_nonneg (-a) (show b ≠ 0 by omega)
  have h3 := Int.emod_lt_of_pos (-a) hb;have h4 := Int.mul_ediv_add_emod (-a) b;generalize (-a) / b = q at *;generalize (-a) % b = r at *;have e3 : a.tmod b = -r := by omega
  have e4 : a.tdiv b = -q := by omega
  rw [e3, e4];by_cases c : r = 0
  ·have e5 : a / b = -q := ((Int.ediv_emod_unique (a := a) (q := -q) (r := 0) hb).2 ⟨by rw [Int.mul_neg]; omega, by omega, hb⟩).1
   rw [e5, decide_eq_false (show ¬ -r < 0 by omega)]; rfl
  ·have e5 : a / b = -q - 1 := ((Int.ediv_emod_unique (a := a) (q := -q - 1) (r := b - r) hb).2 ⟨by rw [Int.mul_sub, Int.mul_neg, Int.mul_one]; omega, by omega, by omega⟩).1
   rw [e5, decide_eq_true (show -r < 0 by omega)]; rfl
theorem ceil_nr {a b : Int} (ha : 0 <= a) (hb : 0 < b) : 0 - (0 - (2 * a - b)) / (2 * b) = nr a b := by
 have h2 := Int.emod_nonneg a (show b ≠ 0 by omega)
 have h3 := Int.emod_lt_of_pos a hb;have h4 := Int.mul_ediv_add_emod a b;unfold nr;generalize a / b = q at *;generalize a % b = r at *;by_cases c : r > b - r
 ·have e5 : (0 - (2 * a - b)) / (2 * b) = -q - 1 := ((Int.ediv_emod_unique (a := 0 - (2 * a - b)) (q := -q - 1) (r := 3 * b - 2 * r) (show 0 < 2 * b by omega)).2 ⟨by rw [Int.mul_sub, Int.mul_neg, Int.mul_one, Int.mul_assoc]; omega, by omega, by omega⟩).1
  rw [e5, if_pos c]; omega
 ·have e5 : (0 - (2 * a - b)) / (2 * b) = -q := ((Int.ediv_emod_unique (a := 0 - (2 * a - b)) (q := -q) (r := b - 2 * r) (show 0 < 2 * b by omega)).2 ⟨by rw [Int.mul_neg, Int.mul_assoc]; omega, by omega, by omega⟩).1
  rw [e5, if_neg c]; omega
theorem rounded_ok {a b : Int} (ha : -1000000000000000000 <= a /\ a <= 1000000000000000000) (hb : 0 < b) (hb2 : b <= 1000000000000000000) : ref04_rounded a b = some (rnd a b) := by
 unfold ref04_rounded base_Ceil;rw [Size_ok (by omega), Option.bind_some, wid (n := 2 * (a.natAbs : Int)) (by omega) (by omega), wid (n := 2 * (a.natAbs : Int) - b) (by omega) (by omega), wid (n := 0 - (2 * (a.natAbs : Int) - b)) (by omega) (by omega), wid (n := 2 * b) (by omega) (by omega), Floor_ok (by omega) (by omega), Option.bind_some, Option.bind_some]
 have hn := nr_bd (a := (a.natAbs : Int)) (b := b) (by omega) hb
 have hc := ceil_nr (a := (a.natAbs : Int)) (b := b) (by omega) hb
 rw [wid (n := 0 - (0 - (2 * (a.natAbs : Int) - b)) / (2 * b)) (by omega) (by omega), hc]
 unfold rnd;by_cases c : a < 0
 ·have e : (a.natAbs : Int) = 0 - a := by omega
  rw [decide_eq_true c, cond_true, if_pos c, wid (by omega) (by omega), e]
 ·have e : (a.natAbs : Int) = a := by omega
  rw [decide_eq_false c, cond_false, if_neg c, e]
def leftF (n : Nat) (f : Nat -> Nat -> G) (t d : Nat -> G) (i : Nat) : G := gsub (t i) (respF n f d i)
theorem mkL_set {n i : Nat} (f : Nat -> G) (z : G) (hi : i < n) : (mkL n f).set i z = mkL n fun k => if k = i then z else f k := by
 refine mkL_of (by simp [mkL_len]) fun k hk => ?_
 rw [List.getElem?_set, mkL_len];by_cases c : i = k
 ·subst c;rw [if_pos rfl, if_pos hi, if_pos rfl]
 ·rw [if_neg c, mkL_get _ hk, if_neg (fun hh => c hh.symm)]
theorem resp20 {n : Nat} {f : Nat -> Nat -> G} {d : Nat -> G} (hf : BdF 20 n n f) (hd : ∀ k, k < n -> Bd 10000 (d k)) (hn : n <= 3) {i : Nat} (hi : i < n) : Bd 1200000 (respF n f d i) := by
 refine (resp_bd hf hd hi).mono ?_;have := nat_mul_le (A := 2 * (20 * 10000)) (by omega) hn
 omega
theorem left_bd {n : Nat} {f : Nat -> Nat -> G} {t d : Nat -> G} (hf : BdF 20 n n f) (hd : ∀ k, k < n -> Bd 10000 (d k)) (ht : ∀ k, k < n -> Bd 10000 (t k)) (hn : n <= 3) {i : Nat} (hi : i < n) : Bd 1210000 (leftF n f t d i) :=
 ((ht i hi).sub (resp20 hf hd hn hi)).mono (by omega)
theorem Left_ok {r : Rg} {n : Nat} {f : Nat -> Nat -> G} {t d : Nat -> G} (hm : r.1 = mx n n f) (hf : BdF 20 n n f) (hd : ∀ k, k < n -> Bd 10000 (d k)) (ht : ∀ k, k < n -> Bd 10000 (t k)) (hn1 : 1 <= n) (hn : n <= 3) :
  ref04_Left r (mkL n t) (mkL n d) = some (mkL n (leftF n f t d)) := by
 unfold ref04_Left;rw [hm, Response_ok (A := 20) (B := 10000) (by omega) (by omega) hf hd (by omega) hn1 (by omega), Option.bind_some, mkL_len]
 rw [for_mk n (leftF n f t d) (fun i hi => ?_) ?_]
 ·rfl
 ·have e0 : decide ((n : Int) < (n : Int)) = false := by simp
  simp only [e0, cond_false]
 ·have e0 : decide ((i : Int) < (n : Int)) = true := decide_eq_true (by omega)
  simp only [e0, cond_true];rw [idx_of (mkL_get t hi), Option.bind_some, idx_of (mkL_get (respF n f d) hi), Option.bind_some, GSub_ok (ht i hi) (resp20 hf hd hn hi) (by omega), Option.bind_some, app_one (by rw [mkL_len]; omega), Option.bind_some, wid (by omega) (by omega)]
  rfl
def rawF (r : Rg) (t d : Nat -> G) (i : Nat) : G := respF r.2.1.length (invF r.2.1) (leftF r.2.1.length (ent r.1) t d) i
def roF (r : Rg) (z : Int) : Int := rnd (z * r.2.2.1) (invD r.2.1 * r.2.2.2.1)
def clF (r : Rg) (z : Int) : Int := max (0 - r.2.2.2.2.1) (min r.2.2.2.2.1 (roF r z))
def corF (r : Rg) (t d : Nat -> G) (i : Nat) : G := (clF r (rawF r t d i).1, clF r (rawF r t d i).2.1, ())
theorem rig_step {r : Rg} (h : rigE r = 0) : 0 <= r.2.2.2.2.1 /\ r.2.2.2.2.1 <= 1000 := by
 unfold rigE at h;by_cases e8 : 0 <= r.2.2.2.2.1 /\ r.2.2.2.2.1 <= 1000
 ·exact e8
 ·exfalso
  rw [if_pos e8] at h;repeat' split at h
  all_goals first | contradiction | omega
structure CorB (r : Rg) (t d : Nat -> G) : Prop where
 n1 : 1 <= r.2.1.length
 n3 : r.2.1.length <= 3
 pm : r.1 = mx r.2.1.length r.2.1.length (ent r.1)
 pB : BdF 20 r.2.1.length r.2.1.length (ent r.1)
 xB : BdF 614400000 r.2.1.length r.2.1.length (invF r.2.1)
 tB : ∀ k, k < r.2.1.length -> Bd 10000 (t k)
 dB : ∀ k, k < r.2.1.length -> Bd 10000 (d k)
 rB : ∀ i, i < r.2.1.length -> Bd 4460544000000000 (rawF r t d i)
 num : 0 <= r.2.2.1 /\ r.2.2.1 <= 100
 den : 1 <= invD r.2.1 * r.2.2.2.1 /\ invD r.2.1 * r.2.2.2.1 <= 7372800000000
 step : 0 <= r.2.2.2.2.1 /\ r.2.2.2.2.1 <= 1000
theorem corB {r : Rg} (h : rigE r = 0) {t d : Nat -> G} (ht : ∀ k, k < r.2.1.length -> Bd 10000 (t k)) (hd : ∀ k, k < r.2.1.length -> Bd 10000 (d k)) : CorB r t d := by
 have hB := conB h;obtain ⟨hE, hI, hl, h0, h1, h2, h3⟩ := rig_ok h;obtain ⟨m1, m3, mR, mB⟩ := mat_ok hE;have hX := invF_bd hI;have hA := bdM_ent mB mR;have hpm := rect_mx mR;have hq := hB.qB;rw [hl] at hA hpm;have e : conQ r = invD r.2.1 * r.2.2.2.1 := Int.mul_comm _ _;rw [e] at hq;refine ⟨hB.n1, hB.n3, hpm, hA, hX, ht, hd, fun i hi => ?_, by omega, hq, rig_step h⟩
 have hn3 := hB.n3;refine (resp_bd hX (fun k hk => left_bd hA hd ht hn3 hk) hi).mono ?_
 have := nat_mul_le (A := 2 * (614400000 * 1210000)) (by omega) hn3
 omega
theorem part_bd {r : Rg} {t d : Nat -> G} (h : CorB r t d) {z : Int} (hz : -4460544000000000 <= z /\ z <= 4460544000000000) : -446054400000000000 <= z * r.2.2.1 /\ z * r.2.2.1 <= 446054400000000000 := by
 have hn := h.num;have := abs_mul_le (A := 4460544000000000) (B := 100) hz (show -100 <= r.2.2.1 /\ r.2.2.1 <= 100 by omega)
 omega
theorem correction1_ok {r : Rg} {t d : Nat -> G} (h : CorB r t d) {z : Int} (hz : -4460544000000000 <= z /\ z <= 4460544000000000) {X : Mx} :
  drive_rig_correction_1 z (r.1, r.2.1, r.2.2.1, r.2.2.2.1, r.2.2.2.2.1, invD r.2.1, X, ()) = some (clF r z) := by
 unfold drive_rig_correction_1;simp only
 have hp := part_bd h hz;have hq := h.den;have hs := h.step;rw [wid (n := z * r.2.2.1) (by omega) (by omega), wid (n := invD r.2.1 * r.2.2.2.1) (by omega) (by omega), wid (n := 0 - r.2.2.2.2.1) (by omega) (by omega), near_ok (by omega) (by omega) (by omega), Option.bind_some]
 congr 1
 unfold clF roF;omega
theorem correction_ok {r : Rg} {t d : Nat -> G} (h : CorB r t d) :
  drive_rig_correction (r.1, r.2.1, r.2.2.1, r.2.2.2.1, r.2.2.2.2.1, invD r.2.1, mx r.2.1.length r.2.1.length (invF r.2.1), ()) (mkL r.2.1.length t) (mkL r.2.1.length d) = some (mkL r.2.1.length (corF r t d)) := by
 unfold drive_rig_correction;simp only
 have hpm := h.pm;have hn1 := h.n1;have hn3 := h.n3;have e0 : drive_response r.1 (mkL r.2.1.length d) = some (mkL r.2.1.length (respF r.2.1.length (ent r.1) d)) := by
  have := response_ok h.pB h.dB hn3;rw [<- hpm] at this;exact this
 rw [e0, Option.bind_some, mkL_len, mx_len];refine Ok.eq ?_;rw [ok_bind];refine (loop_up r.2.1.length (fun i (s : List G × Int) => s = (mkL r.2.1.length (fun j => if j < i then leftF r.2.1.length (ent r.1) t d j else respF r.2.1.length (ent r.1) d j), (i : Int))) (fun q => q = mkL r.2.1.length (leftF r.2.1.length (ent r.1) t d)) ?_ ?_).mono ?_
 ·congr 1
 ·rintro i s hi rfl;by_cases hlt : i < r.2.1.length
  ·have e1 : decide ((i : Int) < (r.2.1.length : Int)) = true := decide_eq_true (by omega)
   have hx : idx (mkL r.2.1.length t) (i : Int) = some (t i) := idx_of (mkL_get _ hlt);have hy : idx (mkL r.2.1.length (fun j => if j < i then leftF r.2.1.length (ent r.1) t d j else respF r.2.1.length (ent r.1) d j)) (i : Int) = some (respF r.2.1.length (ent r.1) d i) := by
    rw [idx_of (mkL_get _ hlt), if_neg (Nat.lt_irrefl i)]
   simp only [e1, cond_true, hx, hy, Option.bind_some, Int.toNat_natCast];rw [minus_ok (h.tB i hlt) (resp20 h.pB h.dB hn3 hlt) (by omega), Option.bind_some, wid (by omega) (by omega), rnd_inl]
   refine ⟨hlt, ?_⟩;congr 1
   rw [mkL_set _ _ hlt];refine mkL_congr fun k hk => ?_
   by_cases c : k = i
   ·subst c;rw [if_pos rfl, if_pos (by omega)]; rfl
   ·rw [if_neg c];by_cases c2 : k < i
    ·rw [if_pos c2, if_pos (by omega)]
    ·rw [if_neg c2, if_neg (by omega)]
  ·have : i = r.2.1.length := by omega
   subst this;have e1 : decide ((r.2.1.length : Int) < (r.2.1.length : Int)) = false := by simp
   simp only [e1, cond_false];rw [rnd_inr];exact mkL_congr fun k hk => if_pos hk
 ·rintro q rfl;refine ok_eq.2 ?_;have hL : ∀ k, k < r.2.1.length -> Bd 1210000 (leftF r.2.1.length (ent r.1) t d k) := fun k hk => left_bd h.pB h.dB h.tB hn3 hk
  rw [for_mk r.2.1.length (corF r t d) (fun i hi => ?_) ?_]
  ·rfl
  ·have e0 : decide ((r.2.1.length : Int) < (r.2.1.length : Int)) = false := by simp
   simp only [e0, cond_false]
  ·have e0 : decide ((i : Int) < (r.2.1.length : Int)) = true := decide_eq_true (by omega)
   simp only [e0, cond_true];rw [idx_of (mx_at (invF r.2.1) hi), Option.bind_some, mkL_len];have hbd : (r.2.1.length : Int) * (2 * (614400000 * 1210000)) <= 9000000000000000000 := by omega
   rw [sum_loop r.2.1.length (by omega) (A := 2 * (614400000 * 1210000)) (by omega) hbd (fun k => gmul (invF r.2.1 i k) (leftF r.2.1.length (ent r.1) t d k)) (fun k hk => (h.xB i k hi hk).mul (hL k hk)) (fun k hk x y hxy => ?_) (fun x y => ?_)]
   ·simp only [Option.bind_some];have hr := h.rB i hi;have er : sumG r.2.1.length (fun k => gmul (invF r.2.1 i k) (leftF r.2.1.length (ent r.1) t d k)) = rawF r t d i := rfl
    rw [er, correction1_ok h hr.1, Option.bind_some, correction1_ok h hr.2, Option.bind_some, app_one (by rw [mkL_len]; omega), Option.bind_some, wid (by omega) (by omega)]
    rfl
   ·have e0 : decide ((k : Int) < (r.2.1.length : Int)) = true := decide_eq_true (by omega)
    simp only [e0, cond_true];rw [idx_of (mkL_get (fun k => invF r.2.1 i k) hk), Option.bind_some, idx_of (mkL_get _ hk), Option.bind_some]
    rw [times_ok' (h.xB i k hi hk) (hL k hk) (by omega)]
    simp only [Option.bind_some];rw [plus_ok hxy ((h.xB i k hi hk).mul (hL k hk)) (le_next (by omega) hk hbd)]
    rfl
   ·have e0 : decide ((r.2.1.length : Int) < (r.2.1.length : Int)) = false := by simp
    simp only [e0, cond_false]
def roG (r : Rg) (t d : Nat -> G) (i : Nat) : G := (roF r (rawF r t d i).1, roF r (rawF r t d i).2.1, ())
theorem rounded1_ok {r : Rg} {t d : Nat -> G} (h : CorB r t d) {z : Int} (hz : -4460544000000000 <= z /\ z <= 4460544000000000) : ref04_rounded (w64 (z * r.2.2.1)) (w64 (invD r.2.1 * r.2.2.2.1)) = some (roF r z) := by
 have hp := part_bd h hz;have hq := h.den;rw [wid (n := z * r.2.2.1) (by omega) (by omega), wid (n := invD r.2.1 * r.2.2.2.1) (by omega) (by omega), rounded_ok (by omega) (by omega) (by omega)]
 rfl
theorem Raw_ok {r : Rg} (hE : rigE r = 0) {t d : Nat -> G} (h : CorB r t d) : ref04_Raw r (mkL r.2.1.length t) (mkL r.2.1.length d) = some (mkL r.2.1.length (roG r t d)) := by
 unfold ref04_Raw;have hI := (rig_ok hE).2.1;have hn1 := h.n1;have hn3 := h.n3;have hL : ∀ k, k < r.2.1.length -> Bd 1210000 (leftF r.2.1.length (ent r.1) t d k) := fun k hk => left_bd h.pB h.dB h.tB hn3 hk
 rw [Inverse_ok hI, Option.bind_some, invM_eq, Left_ok h.pm h.pB h.dB h.tB hn1 hn3, Option.bind_some];simp only
 rw [Response_ok (A := 614400000) (B := 1210000) (by omega) (by omega) h.xB hL (by omega) hn1 (by omega), Option.bind_some, mkL_len]
 rw [for_mk r.2.1.length (roG r t d) (fun i hi => ?_) ?_]
 ·rfl
 ·have e0 : decide ((r.2.1.length : Int) < (r.2.1.length : Int)) = false := by simp
  simp only [e0, cond_false]
 ·have e0 : decide ((i : Int) < (r.2.1.length : Int)) = true := decide_eq_true (by omega)
  have hr := h.rB i hi;have hx : idx (mkL r.2.1.length (respF r.2.1.length (invF r.2.1) (leftF r.2.1.length (ent r.1) t d))) (i : Int) = some (rawF r t d i) := idx_of (mkL_get _ hi);simp only [e0, cond_true, hx, Option.bind_some];rw [rounded1_ok h hr.1, Option.bind_some, rounded1_ok h hr.2, Option.bind_some, app_one (by rw [mkL_len]; omega), Option.bind_some, wid (by omega) (by omega)]
  rfl
theorem Correction_ok {r : Rg} (hE : rigE r = 0) {t d : Nat -> G} (h : CorB r t d) : ref04_Correction r (mkL r.2.1.length t) (mkL r.2.1.length d) = some (mkL r.2.1.length (corF r t d)) := by
 unfold ref04_Correction;have hn3 := h.n3;have hs := h.step;rw [Raw_ok hE h, Option.bind_some, mkL_len];rw [for_mk r.2.1.length (corF r t d) (fun i hi => ?_) ?_]
 ·rfl
 ·have e0 : decide ((r.2.1.length : Int) < (r.2.1.length : Int)) = false := by simp
  simp only [e0, cond_false]
 ·have e0 : decide ((i : Int) < (r.2.1.length : Int)) = true := decide_eq_true (by omega)
  have hx : idx (mkL r.2.1.length (roG r t d)) (i : Int) = some (roG r t d i) := idx_of (mkL_get _ hi);simp only [e0, cond_true, hx, Option.bind_some];rw [wid (n := 0 - r.2.2.2.2.1) (by omega) (by omega), app_one (by rw [mkL_len]; omega), Option.bind_some, wid (by omega) (by omega)]
  rfl
def rspE (m : Mx) (d : List G) : Int := if matE m = 0 then lstE d m.length else matE m
def rspL (m : Mx) (d : List G) : List G := mkL m.length (respF m.length (ent m) fun k => d.getD k g0)
theorem ResponseOf_ok {m : Mx} {d : List G} (h : m.length <= 1000000000) (hr : ∀ x ∈ m, x.length <= 1000000000) (hd : d.length <= 1000000000) : drive_ResponseOf m d = some (if rspE m d = 0 then (rspL m d, 0) else ([], rspE m d)) := by
 unfold drive_ResponseOf;rw [matrixErr_ok h hr, Option.bind_some, listErr_ok hd, Option.bind_some, first2, Option.bind_some];have e : (if matE m = 0 then lstE d m.length else matE m) = rspE m d := rfl
 rw [e];by_cases c : rspE m d = 0
 case neg => rw [decide_eq_false c, Bool.not_false, cond_true, if_neg c]
 rw [decide_eq_true c, Bool.not_true, cond_false, if_pos c];unfold rspE at c;by_cases c1 : matE m = 0
 case neg => rw [if_neg c1] at c; exact absurd c c1
 rw [if_pos c1] at c;obtain ⟨m1, m3, mR, mB⟩ := mat_ok c1;obtain ⟨dl, dB⟩ := lst_ok c;have e1 := response_ok (d := fun k => d.getD k g0) (bdM_ent mB mR) (fun k hk => dB _ (getD_mem (by omega))) m3
 rw [<- rect_mx mR] at e1;have e2 := list_mkL d g0;rw [dl] at e2;rw [<- e2] at e1;rw [e1]; rfl
theorem Response_eq {m : Mx} {d : List G} (c : rspE m d = 0) : ref04_Response m d = some (rspL m d) := by
 unfold rspE at c;by_cases c1 : matE m = 0
 case neg => rw [if_neg c1] at c; exact absurd c c1
 rw [if_pos c1] at c;obtain ⟨m1, m3, mR, mB⟩ := mat_ok c1;obtain ⟨dl, dB⟩ := lst_ok c;have e1 := Response_ok (d := fun k => d.getD k g0) (A := 20) (B := 10000) (by omega) (by omega) (bdM_ent mB mR) (fun k hk => dB _ (getD_mem (by omega))) (by omega) m1 (by omega)
 rw [<- rect_mx mR] at e1;have e2 := list_mkL d g0;rw [dl] at e2;rw [<- e2] at e1;exact e1
def rouE (r : Rg) (t d : List G) : Int := if rigE r = 0 then (if lstE t r.1.length = 0 then lstE d r.1.length else lstE t r.1.length) else rigE r
def corL (r : Rg) (t d : List G) : List G := mkL r.2.1.length (corF r (fun k => t.getD k g0) fun k => d.getD k g0)
theorem rou_ok {r : Rg} {t d : List G} (h : rouE r t d = 0) : rigE r = 0 /\ CorB r (fun k => t.getD k g0) (fun k => d.getD k g0) /\ t = mkL r.2.1.length (fun k => t.getD k g0) /\ d = mkL r.2.1.length (fun k => d.getD k g0) := by
 unfold rouE at h;by_cases c1 : rigE r = 0
 case neg => rw [if_neg c1] at h; exact absurd h c1
 rw [if_pos c1] at h;by_cases c2 : lstE t r.1.length = 0
 case neg => rw [if_neg c2] at h; exact absurd h c2
 rw [if_pos c2] at h;have hl := (rig_ok c1).2.2.1;rw [hl] at c2 h;obtain ⟨tl, tB⟩ := lst_ok c2;obtain ⟨dl, dB⟩ := lst_ok h;have e1 := list_mkL t g0;have e2 := list_mkL d g0;rw [tl] at e1;rw [dl] at e2;exact ⟨c1, corB c1 (fun k hk => tB _ (getD_mem (by omega))) (fun k hk => dB _ (getD_mem (by omega))), e1, e2⟩
theorem openRounds_ok {r : Rg} {t d : List G} (hp : r.1.length <= 1000000000) (hpr : ∀ x ∈ r.1, x.length <= 1000000000) (hm : r.2.1.length <= 1000000000) (hmr : ∀ x ∈ r.2.1, x.length <= 1000000000) (hd : r.2.2.2.1 <= 9223372036854775807) (ht : t.length <= 1000000000) (hd2 : d.length <= 1000000000) :
  ∃ y, drive_openRounds r t d = some (y, rouE r t d) /\ (rouE r t d = 0 -> y = (r.1, r.2.1, r.2.2.1, r.2.2.2.1, r.2.2.2.2.1, invD r.2.1, mx r.2.1.length r.2.1.length (invF r.2.1), ())) := by
 obtain ⟨y, e1, e2⟩ := openRig_ok hp hpr hm hmr hd;have e1' : drive_openRig (r.1, r.2.1, r.2.2.1, r.2.2.2.1, r.2.2.2.2.1, ()) = some (y, rigE r) := e1;unfold drive_openRounds;rw [e1', Option.bind_some, listErr_ok ht, Option.bind_some, listErr_ok hd2, Option.bind_some, first3, Option.bind_some];exact ⟨y, rfl, fun h => e2 (rou_ok h).1⟩
theorem CorrectionOf_ok {r : Rg} {t d : List G} (hp : r.1.length <= 1000000000) (hpr : ∀ x ∈ r.1, x.length <= 1000000000) (hm : r.2.1.length <= 1000000000) (hmr : ∀ x ∈ r.2.1, x.length <= 1000000000) (hd : r.2.2.2.1 <= 9223372036854775807) (ht : t.length <= 1000000000) (hd2 : d.length <= 1000000000) :
  drive_CorrectionOf r t d = some (if rouE r t d = 0 then (corL r t d, 0) else ([], rouE r t d)) := by
 obtain ⟨y, e1, e2⟩ := openRounds_ok hp hpr hm hmr hd ht hd2;have e1' : drive_openRounds (r.1, r.2.1, r.2.2.1, r.2.2.2.1, r.2.2.2.2.1, ()) t d = some (y, rouE r t d) := e1;unfold drive_CorrectionOf;rw [e1', Option.bind_some];by_cases c : rouE r t d = 0
 case neg => rw [decide_eq_false c, Bool.not_false, cond_true, if_neg c]
 rw [decide_eq_true c, Bool.not_true, cond_false, if_pos c, e2 c];obtain ⟨h1, h2, h3, h4⟩ := rou_ok c;have e3 := correction_ok h2;rw [<- h3, <- h4] at e3;rw [e3]; rfl
theorem Correction_eq {r : Rg} {t d : List G} (c : rouE r t d = 0) : ref04_Correction r t d = some (corL r t d) := by
 obtain ⟨h1, h2, h3, h4⟩ := rou_ok c;have e3 := Correction_ok h1 h2;rw [<- h3, <- h4] at e3;exact e3
theorem CheckRig_ok {r : Rg} (hp : r.1.length <= 1000000000) (hpr : ∀ x ∈ r.1, x.length <= 1000000000) (hm : r.2.1.length <= 1000000000) (hmr : ∀ x ∈ r.2.1, x.length <= 1000000000) (hd : r.2.2.2.1 <= 9223372036854775807) : drive_CheckRig r = some (rigE r) := by
 obtain ⟨y, e1, e2⟩ := openRig_ok hp hpr hm hmr hd;unfold drive_CheckRig;rw [e1]; rfl
theorem RoundErr_ok {r : Rg} {t d : List G} (hp : r.1.length <= 1000000000) (hpr : ∀ x ∈ r.1, x.length <= 1000000000) (hm : r.2.1.length <= 1000000000) (hmr : ∀ x ∈ r.2.1, x.length <= 1000000000) (hd : r.2.2.2.1 <= 9223372036854775807) (ht : t.length <= 1000000000) (hd2 : d.length <= 1000000000) :
  ref04_RoundErr r t d = some (rouE r t d) := by
 unfold ref04_RoundErr rouE;rw [RigErr_ok hp hpr hm hmr hd, Option.bind_some];by_cases c1 : rigE r = 0
 case neg => rw [decide_eq_false c1, Bool.not_false, cond_true, if_neg c1]
 rw [decide_eq_true c1, Bool.not_true, cond_false, if_pos c1, refListErr_ok ht, Option.bind_some];by_cases c2 : lstE t r.1.length = 0
 case neg => rw [decide_eq_false c2, Bool.not_false, cond_true, if_neg c2]
 rw [decide_eq_true c2, Bool.not_true, cond_false, if_pos c2, refListErr_ok hd2]; rfl
theorem DriveCorrections_eq (r : Rg) (t d : List G) (hd : r.2.2.2.1 <= 9223372036854775807) : law04_DriveCorrections r t d = some true := by
 unfold law04_DriveCorrections;rw [show law04_awake = some true from rfl, Option.bind_some, Bool.not_true, cond_false]
 refine Ok.eq ?_;rw [ok_bind];refine (Ok.bind (P := fun b : Bool => b = true -> FewM r.1 5 /\ FewM r.2.1 5) (Q := fun b : Bool => b = false -> (FewM r.1 5 /\ FewM r.2.1 5) /\ t.length <= 5 /\ d.length <= 5) (fewRig_ok r) fun b hb => ?_).mono fun b hb => ?_
 ·cases b with
  | false => exact ok_some.2 (by simp)
  | true =>
   rw [Bool.not_true, cond_false];by_cases c1 : t.length <= 5
   ·rw [decide_eq_false (show ¬ (t.length : Int) > 5 by omega), cond_false]
    refine ok_some.2 fun h => ⟨hb rfl, c1, ?_⟩
    have := of_decide_eq_false h;omega
   ·rw [decide_eq_true (show (t.length : Int) > 5 by omega), cond_true]
    exact ok_some.2 (by simp)
 cases b with
 | true => exact ok_some.2 rfl
 | false =>
 rw [cond_false];obtain ⟨⟨⟨ha5, har⟩, ⟨hb5, hbr⟩⟩, t5, d5⟩ := hb rfl;have hp : r.1.length <= 1000000000 := by omega
 have hm : r.2.1.length <= 1000000000 := by omega
 have hpr : ∀ x ∈ r.1, x.length <= 1000000000 := fun x h => by have := har x h; omega
 have hmr : ∀ x ∈ r.2.1, x.length <= 1000000000 := fun x h => by have := hbr x h; omega
 have ht : t.length <= 1000000000 := by omega
 have hd2 : d.length <= 1000000000 := by omega
 rw [CopyMatrix_ok hp hpr, Option.bind_some, CopyGausses_ok hd2, Option.bind_some, ResponseOf_ok hp hpr hd2, Option.bind_some, CopyRig_ok hp hpr hm hmr, Option.bind_some, CopyGausses_ok ht, Option.bind_some, Option.bind_some, CorrectionOf_ok hp hpr hm hmr hd ht hd2, Option.bind_some, Option.bind_some, CheckRig_ok hp hpr hm hmr hd, Option.bind_some, RigErr_ok hp hpr hm hmr hd, Option.bind_some, decide_eq_true (show rigE r = rigE r from rfl), Bool.not_true, cond_false, MatrixErr_ok hp hpr, Option.bind_some]
 have e16 : (bif decide (matE r.1 = 0) then (ref04_ListErr d (r.1.length : Int)).bind fun x15 => some x15 else some (matE r.1)) = some (rspE r.1 d) := by
  unfold rspE;by_cases c : matE r.1 = 0
  ·rw [decide_eq_true c, cond_true, if_pos c, refListErr_ok hd2]; rfl
  ·rw [decide_eq_false c, cond_false, if_neg c]
 rw [e16, Option.bind_some];have hlen : (rspL r.1 d).length <= 1000000000 := by unfold rspL; rw [mkL_len]; exact hp
 refine Ok.bind (P := fun b : Bool => b = false) ?_ fun b hb2 => ?_
 ·by_cases c : rspE r.1 d = 0
  ·rw [if_pos c, decide_eq_true c];simp only [Bool.not_true, cond_false, cond_true, decide_true];rw [Response_eq c, Option.bind_some, Gausses_ok hlen, Option.bind_some, decide_eq_true rfl];exact ok_some.2 rfl
  ·rw [if_neg c, decide_eq_false c];simp only [Bool.not_true, Bool.not_false, cond_false, cond_true, decide_true, List.length_nil];exact ok_some.2 rfl
 subst hb2;rw [cond_false, RoundErr_ok hp hpr hm hmr hd ht hd2, Option.bind_some];have hlen2 : (corL r t d).length <= 1000000000 := by unfold corL; rw [mkL_len]; exact hm
 by_cases c : rouE r t d = 0
 ·rw [if_pos c, decide_eq_true c];simp only [Bool.not_true, cond_false, cond_true, decide_true];rw [Correction_eq c, Option.bind_some, Gausses_ok hlen2, Option.bind_some, Option.bind_some, decide_eq_true rfl];exact ok_some.2 rfl
 ·rw [if_neg c, decide_eq_false c];simp only [Bool.not_true, Bool.not_false, cond_false, cond_true, decide_true, List.length_nil];exact ok_some.2 rfl
end Go.Proofs.YtbcdgfgacigaoaaGreat.Mat
namespace Go.Proofs.YtbcdgfgacigaoaaGreat
open Go Go.Ab Go.Tx
theorem law04_DriveCorrections_true : ∀ x : denP ([Ty.pair (.sl (.sl (.pair I (.pair I .unit)))) (.pair (.sl (.sl (.pair I (.pair I .unit)))) (.pair I (.pair I (.pair I .unit)))), .sl (.pair I (.pair I .unit)), .sl (.pair I (.pair I .unit))].map .ty), RngP maxLen [.pair (.sl (.sl (.pair I (.pair I .unit)))) (.pair (.sl (.sl (.pair I (.pair I .unit)))) (.pair I (.pair I (.pair I .unit)))), .sl (.pair I (.pair I .unit)), .sl (.pair I (.pair I .unit))] x -> e_law04_DriveCorrections.F x = some true := by
 intro ⟨a0, a1, a2⟩ hr;exact Mat.DriveCorrections_eq a0 a1 a2 hr.1.2.2.2.1.2
end Go.Proofs.YtbcdgfgacigaoaaGreat
end
section
namespace Go.Proofs.YtbcdgfgacigaoaaGreat.driveCorrections
open Go Go.Ab Go.Tx Go.ChangeShapes Go.WideShapes Go.ChangeAt Go.RowKit
theorem hlib : ∀ g h args r, Lb g = some h -> h args = some r -> CallOk Tryz.prog g args [] r [] := fun g h args r hg hr => by
 unfold Lb at hg;split at hg
 ·rename_i e;subst e;cases hg;cases args with
  | nil => cases hr; exact awake_ok
  | cons a l => cases hr
 ·cases hg
set_option maxRecDepth 100000 in
theorem contract (H : Type) (enc : TypeId × Value -> H) (W : World) (base : Nat) (args : Array Value) (ds gs : List (DataW H)) (before : List MemPlace)
  (hval : ∀ (j : Nat) t v, Tryz.f5.params[j]? = some t -> args[j]? = some v -> Value.okWide Tryz.prog W .any base t v)
  (hW : DataW.Whole enc Tryz.prog Tryz.f5.params.toList Rows.driveCorrectionsSpec.vars false W args.toList ds gs before) :
  Calls Tryz.prog 5 args W fun e W' => ∃ v, e = .returned v /\ Rows.driveCorrectionsSpec.post enc Tryz.prog Tryz.f5 false true false false W args v W' :=
 law_contract (τs := [(.pair (.sl (.sl (.pair I (.pair I .unit)))) (.pair (.sl (.sl (.pair I (.pair I .unit)))) (.pair I (.pair I (.pair I .unit))))), (.sl (.pair I (.pair I .unit))), (.sl (.pair I (.pair I .unit)))]) (ts := [38, 39, 39]) (tb := 4) (F := e_law04_DriveCorrections.F) follows hname hlib laid_out Tryz.func5 (by kernel_rfl) (by kernel_rfl) (by kernel_rfl) (by kernel_rfl) (by kernel_rfl) (by kernel_rfl) Tryz.underlying4 o_law04_DriveCorrections law04_DriveCorrections_true rfl
  (fun H ds h => by
   match ds, h with
   | [d1, d2, d3], _ => rfl) H enc W base args ds gs before hval hW
set_option maxRecDepth 100000 in
theorem lifted (os : Os) (started : os.Started) (H : Type) (enc : TypeId × Value -> H) :
  ReturnsInHanded {} Tryz.checked os 5 .any (Rows.driveCorrectionsSpec.pre6 enc Tryz.prog Tryz.f5 Rows.driveCorrectionsRow.domain false) (Rows.driveCorrectionsSpec.post enc Tryz.prog Tryz.f5 false true false false) := by
 refine returnsInHanded_of_change (C := Tryz.checked) own started (by kernel_rfl) Tryz.func5
  (ChangeSpec.witness6 (enc := enc) (C := Tryz.checked) false ⟨#[], #[.agg #[.slice none 0 0, .slice none 0 0, .int .i64 0, .int .i64 0, .int .i64 0], .slice none 0 0, .slice none 0 0], []⟩ 8 (by kernel_rfl) (by kernel_rfl) (by kernel_rfl) (by kernel_rfl)) ?_
 intro W base args ds gs before hval hW _ _;exact contract H enc W base args ds gs before hval hW
theorem proved : Rows.DriveCorrectionsSaid :=
 OpenClaim.holds_of_wide 5 Tryz.f5 rfl rfl rfl rfl rfl rfl rfl ⟨rfl, rfl, rfl, rfl, rfl⟩ rfl rfl rfl rfl rfl (by kernel_rfl) Tryz.func5 (by kernel_rfl)
  (of_decide_eq_true (by kernel_rfl)) (by unfold Func.isWrapper; first | (rw [if_pos (by decide +kernel)]; kernel_rfl) | (rw [if_neg (by decide +kernel)]; exact ⟨rfl, rfl⟩))
  (fun os started H enc _ => lifted os started H enc)
end Go.Proofs.YtbcdgfgacigaoaaGreat.driveCorrections
end
