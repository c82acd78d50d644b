/-
  ONE LAW OF A CHAPTER: its program side is run by an interpreter that is proved sound; what it computes is shown to be what the law says. No conditions. Part 7 of 7.
-/
import Derived.Test.YtbcdgfgacigaoaaGreatMdzf
set_option linter.unusedSimpArgs false
set_option linter.unusedVariables false
set_option linter.unnecessarySimpa false
section
namespace Go.Proofs.YtbcdgfgacigaoaaGreat
open Go Go.Ab Go.Tx Go.Wide
theorem wid {n : Int} (h1 : -9223372036854775808 <= n) (h2 : n <= 9223372036854775807) : w64 n = n := qkN h1 h2
theorem qES {l : List Int} {p : Nat} (hp : p <= l.length) (h : 0 < p -> l.getD (p - 1) 0 ≠ 0) : ∀ a, (l.take p).getLast? = some a -> a ≠ 0 := fun a ha => by
 rw [List.getLast?_eq_getElem?] at ha;have h1 : (l.take p).length = p := by simp <;> omega
 rw [h1] at ha;have hlt := (List.getElem?_eq_some_iff.1 ha).1;rw [List.getElem?_take] at ha;have hp0 : 0 < p := by omega
 have := h hp0;rw [if_pos (by omega)] at ha;have e : l.getD (p - 1) 0 = a := qh1 ha;rw [e] at this; exact this
theorem qum {l : List Int} (hl : l.length <= 4000000000) : Ok (qcB l) fun r => ∃ p, p <= l.length /\ r = l.take p /\ (0 < p -> l.getD (p - 1) 0 ≠ 0) /\ ∀ d ∈ l.drop p, d = 0 := by
 unfold qcB;rw [qa4];refine (qg8 (fun s : Int => s.toNat) (fun s => 0 <= s /\ s <= l.length /\ ∀ d ∈ l.drop s.toNat, d = 0) (fun r : Int => 0 <= r /\ r <= l.length /\ (0 < r -> l.getD (r.toNat - 1) 0 ≠ 0) /\ ∀ d ∈ l.drop r.toNat, d = 0) ⟨by omega, by omega, by simp⟩ ?_).mono ?_
 ·rintro s ⟨h1, h2, h3⟩;rw [qfG, qcF];by_cases hs : s > 0
  ·rw [if_pos hs];simp (disch := omega) only [wid]
   rw [qga (by omega) (by omega)];have e1 : (s - 1).toNat = s.toNat - 1 := by omega
   simp only [qa, qH, qcF, e1];by_cases h0 : l.getD (s.toNat - 1) 0 = 0
   ·rw [if_pos h0, qM];refine ⟨⟨by omega, by omega, ?_⟩, by omega⟩;rw [e1];have hlt : s.toNat - 1 < l.length := by omega
    have e2 : l.drop (s.toNat - 1) = l.getD (s.toNat - 1) 0 :: l.drop s.toNat := by
     rw [List.drop_eq_getElem_cons hlt];have : s.toNat - 1 + 1 = s.toNat := by omega
     rw [this]; simp [hlt]
    rw [e2];intro d hd;rcases List.mem_cons.1 hd with rfl | hd
    ·exact h0
    ·exact h3 d hd
   ·rw [if_neg h0, qW];exact ⟨h1, h2, fun _ => h0, h3⟩
  ·rw [if_neg hs, qH];simp only [cond_false];rw [qW];exact ⟨h1, h2, fun h => absurd h hs, h3⟩
 ·rintro r ⟨h1, h2, h3, h4⟩;rw [quE ⟨by omega, by omega, by omega⟩];simp only [qa, qH];exact ⟨r.toNat, by omega, by simp, fun h => h3 (by omega), h4⟩
theorem qmE {l : List Int} (hl : l.length <= 4000000000) (hd : dok l) : qcB l = some (qiZ (dv l).toNat) := by
 refine ((qum hl).mono ?_).eq;rintro r ⟨p, hp, rfl, hne, hz⟩;have e : l = l.take p ++ l.drop p := (List.take_append_drop p l).symm;have e1 : dv l = dv (l.take p) := by
  conv => lhs; rw [e]
  rw [qsK, qt6 hz]; simp
 have hd1 : dok (l.take p) := by rw [e] at hd; exact (qwy.1 hd).1
 rw [e1, qs2 hd1 (qES hp hne)]
theorem qdP {s v : Int} {l : List Int} (hl : l.length <= 4000000000) (hd : dok l) (hs : s = 1 \/ s = -1 \/ s = 0) (h0 : s = 0 -> dv l = 0) (hv : v = s * dv l) : qaQ s l = some (W v) := by
 unfold qaQ;rw [qmE hl hd];simp only [qa, qcF];have hp := qnJ hd;have hw := qG6 (qfS (dv l).toNat) (qCF _) hs (by rw [qf6]; intro h; rw [h0 h]; rfl) (v := v) (by rw [qf6, hv]; congr 1; omega);rw [<- hw];by_cases h : ((qiZ (dv l).toNat).length : Int) = 0
 ·rw [if_pos h, if_pos (by omega)]; rfl
 ·rw [if_neg h, if_neg (by omega)]; rfl
theorem qDO {s : Int} (n : Int) (hl : wl n <= 4000000000) (hs : s = 1 \/ s = -1) : qaQ s (W n).2.1 = some (W (s * n.natAbs)) :=
 qdP (by rw [qe8]; exact hl) (qqO n) (hs.imp id .inl) (fun h => by omega) (by rw [qCT])
theorem qFy {n : Int} (h : -9223372036854775807 <= n /\ n <= 9223372036854775807) : qbk n = some (n.natAbs : Int) := by
 unfold qbk;rw [wid (by omega) (by omega)]; congr 1; omega
theorem qfn {n : Int} (h : -9223372036854775807 <= n /\ n <= 9223372036854775807) : qbg n = some (W n) := by
 unfold qbg;have key : Ok (qF (fun (s4 : (Int × (List Int))) =>
   bif !(decide (s4.1 = 0)) then
    (qbk (s4.1.tmod 1000000000)).bind fun x5 =>
    (app s4.2 ([x5])).bind fun x6 =>
    some (.inl (w64 (s4.1.tdiv 1000000000), x6))
   else
    some (.inr s4.2)) (n, [])) fun r => dok r /\ dv r = n.natAbs /\ r.length <= 100 := by
  refine qg8 (fun s => s.1.natAbs) (fun s => dok s.2 /\ dv s.2 + pw s.2.length * s.1.natAbs = n.natAbs /\ s.1.natAbs <= 9223372036854775807 /\ (s.1 = 0 \/ s.2.length <= 10) /\ s.2.length <= 100) _ ⟨qtJ, by simp [dv, pw], by simp only; omega, by simp, by simp⟩ ?_;rintro ⟨m, l⟩ ⟨h1, h2, h3, h4, h5⟩;simp only at h1 h2 h3 h4 h5;simp only [qtV];by_cases hm : m = 0
  ·rw [if_pos hm, qW];subst hm;simp at h2;exact ⟨h1, h2, by omega⟩
  ·rw [if_neg hm];have hb : (m.tmod 1000000000).natAbs = m.natAbs % 1000000000 := by rw [Int.natAbs_tmod]; rfl
   have hq : (m.tdiv 1000000000).natAbs = m.natAbs / 1000000000 := by rw [Int.natAbs_tdiv]; rfl
   rw [qFy (by omega)];simp only [qa];rw [qc6 (by omega)];simp only [qa];rw [wid (by omega) (by omega), qM];refine ⟨⟨qwy.2 ⟨h1, ?_⟩, ?_, by simp only; omega, ?_, by simp; omega⟩, by simp only; omega⟩
   ·rw [hb]; simp [dok] <;> omega
   ·simp only [List.length_append, List.length_cons, List.length_nil];rw [qsK, qux, <- h2, hb, hq];have e : (m.natAbs : Int) = ((m.natAbs % 1000000000 : Nat) : Int) + 1000000000 * ((m.natAbs / 1000000000 : Nat) : Int) := by omega
    simp only [dv, pw];rw [show (pw l.length * (m.natAbs : Int)) = pw l.length * (((m.natAbs % 1000000000 : Nat) : Int) + 1000000000 * ((m.natAbs / 1000000000 : Nat) : Int)) by rw [<- e]];grind
   ·simp only [List.length_append, List.length_cons, List.length_nil];by_cases h6 : l.length + 1 <= 10
    ·exact .inr h6
    ·left
     have h7 := qnJ h1;have h8 : pw 10 <= pw l.length := qwr (by omega);have h9 : pw l.length * 1 <= pw l.length * (m.natAbs : Int) := Int.mul_le_mul_of_nonneg_left (by omega) (Int.le_of_lt (qlB _));have h10 : pw 10 = 1000000000000000000000000000000000000000000000000000000000000000000000000000000000000000000 := by simp [pw]
     omega
 by_cases hn : n < 0
 ·simp only [qcF];rw [if_pos hn];simp only [qa];obtain ⟨r, hr, h1, h2, h3⟩ := key;rw [hr];simp only [qa];rw [qdP (v := n) (by omega) h1 (.inr (.inl rfl)) (fun h => by omega) (by rw [h2]; omega)];rfl
 ·simp only [qcF];rw [if_neg hn];simp only [qa];obtain ⟨r, hr, h1, h2, h3⟩ := key;rw [hr];simp only [qa];rw [qdP (v := n) (by omega) h1 (.inl rfl) (fun h => by omega) (by rw [h2]; omega)];rfl
theorem qw4 (n : Int) : qdM (W n) = some n.sign := rfl
theorem qsH (n : Int) : -1 <= n.sign /\ n.sign <= 1 := by
 rcases Int.lt_trichotomy n 0 with h | h | h
 ·rw [Int.sign_eq_neg_one_of_neg h]; omega
 ·subst h; simp
 ·rw [Int.sign_eq_one_of_pos h]; omega
theorem qsr (n : Int) : qcA (W n) = some (W (-n)) := by
 unfold qcA W;have := qsH n;simp only
 rw [wid (by omega) (by omega), Int.sign_neg, Int.natAbs_neg];congr 2; omega
theorem qqv (n : Int) : qeo (W n) = some (W n.natAbs) := by
 unfold qeo;simp only [qcF];by_cases hn : n < 0
 ·rw [if_pos (show (W n).1 < 0 by rw [qfB, Int.sign_eq_neg_one_of_neg hn]; omega), qsr];simp only [qa]; congr 2; omega
 ·rw [if_neg (show ¬ (W n).1 < 0 by
   rw [qfB];rcases Int.lt_or_le 0 n with h | h
   ·rw [Int.sign_eq_one_of_pos h]; omega
   ·have : n = 0 := by omega
    subst this; simp)]
  congr 2; omega
theorem qtD {l : List Int} {i : Nat} (hl : l.length <= 4000000000) : qfW l (i : Int) = some (l.getD i 0) := by
 unfold qfW;simp only [qcF];by_cases h : (i : Int) < (l.length : Int)
 ·rw [if_pos h, qga (by omega) h]; simp
 ·rw [if_neg h]; simp; rw [List.getElem?_eq_none (by omega)]; rfl
theorem qyL {l : List Int} {i : Nat} (h : i < l.length) : dv (l.drop i) = l.getD i 0 + 1000000000 * dv (l.drop (i + 1)) := by
 rw [List.drop_eq_getElem_cons h, dv]; simp [h]
theorem qoH {l : List Int} (h : dok l) (i : Nat) : dok (l.take i) := fun d hd => h d (List.mem_of_mem_take hd)
theorem qyv (l : List Int) (i : Nat) (h : i <= l.length) : dv l = dv (l.take i) + pw i * dv (l.drop i) := by
 conv => lhs; rw [<- List.take_append_drop i l]
 rw [qsK]; simp [Nat.min_eq_left h]
theorem qEc {a b : List Int} (ha : dok a) (hb : dok b) (hl : a.length = b.length) (hm : a.length <= 4000000000) :
  qaX a b = some (if dv a < dv b then -1 else if dv a > dv b then 1 else 0) := by
 unfold qaX;simp only [qtV, qcF];rw [if_pos (by omega)];refine (qwI.2 ?_).eq;refine (qg8 (fun s : Int => (s + 1).toNat) (fun s => -1 <= s /\ s + 1 <= a.length /\ dv (a.drop (s + 1).toNat) = dv (b.drop (s + 1).toNat))
  (fun r => r = .inl () /\ dv a = dv b \/ r = .inr (-1) /\ dv a < dv b \/ r = .inr 1 /\ dv a > dv b) ⟨by rw [wid] <;> omega, by rw [wid] <;> omega, ?_⟩ ?_).mono ?_
 ·rw [wid (by omega) (by omega)];have : ((a.length : Int) - 1 + 1).toNat = a.length := by omega
  rw [this, List.drop_eq_nil_of_le (Nat.le_refl _), List.drop_eq_nil_of_le (by omega)]
 ·rintro s ⟨h1, h2, h3⟩;by_cases hs : s >= 0
  ·rw [if_pos hs];obtain ⟨i, rfl⟩ : ∃ i : Nat, s = (i : Int) := ⟨s.toNat, by omega⟩
   have hia : i < a.length := by omega
   have hib : i < b.length := by omega
   rw [qga (by omega) (by omega), qga (by omega) (by omega)];simp only [qa, Int.toNat_natCast];have e1 : ((i : Int) + 1).toNat = i + 1 := by omega
   rw [e1] at h3;have ta := qyL hia;have tb := qyL hib;have sa := qyv a i (by omega);have sb := qyv b i (by omega);have la := qy4 (qoH ha i);have lb := qy4 (qoH hb i);have pa := qnJ (qoH ha i);have pb := qnJ (qoH hb i);have l1 : (a.take i).length = i := by simp <;> omega
   have l2 : (b.take i).length = i := by simp <;> omega
   rw [l1] at la;rw [l2] at lb;have hp := qlB i;by_cases c1 : a.getD i 0 < b.getD i 0
   ·rw [if_pos c1, qW];refine .inr (.inl ⟨rfl, ?_⟩);have h5 : pw i * (dv (a.drop i) + 1) <= pw i * dv (b.drop i) := Int.mul_le_mul_of_nonneg_left (by omega) (Int.le_of_lt hp);rw [Int.mul_add] at h5; omega
   ·rw [if_neg c1];by_cases c2 : a.getD i 0 > b.getD i 0
    ·rw [if_pos c2, qW];refine .inr (.inr ⟨rfl, ?_⟩);have h5 : pw i * (dv (b.drop i) + 1) <= pw i * dv (a.drop i) := Int.mul_le_mul_of_nonneg_left (by omega) (Int.le_of_lt hp);rw [Int.mul_add] at h5; omega
    ·rw [if_neg c2, wid (by omega) (by omega), qM];refine ⟨⟨by omega, by omega, ?_⟩, by omega⟩;have e2 : ((i : Int) - 1 + 1).toNat = i := by omega
     rw [e2, ta, tb, h3]; omega
  ·rw [if_neg hs, qW];have e2 : (s + 1).toNat = 0 := by omega
   rw [e2] at h3;exact .inl ⟨rfl, by simpa using h3⟩
 ·rintro r (⟨rfl, h⟩ | ⟨rfl, h⟩ | ⟨rfl, h⟩)
  ·simp only; rw [qH, if_neg (by omega), if_neg (by omega)]
  ·simp only; rw [if_pos h]
  ·simp only; rw [if_neg (by omega), if_pos h]
theorem qx1 (a b : Nat) (hl : (qiZ a).length <= 4000000000) : qaX (qiZ a) (qiZ b) = some (if a < b then -1 else if a > b then 1 else 0) := by
 by_cases h : (qiZ a).length = (qiZ b).length
 ·rw [qEc (qfS a) (qfS b) h hl, qf6, qf6];simp only [Int.ofNat_lt, gt_iff_lt]
 ·unfold qaX;simp only [qtV, qcF];rw [if_neg (by omega)];by_cases c : (qiZ a).length < (qiZ b).length
  ·have : a < b := by
    rcases Nat.lt_or_ge a b with h1 | h1
    ·exact h1
    ·have := qb7 h1; omega
   rw [if_pos (by omega), if_pos this]
  ·have : b < a := by
    rcases Nat.lt_or_ge b a with h1 | h1
    ·exact h1
    ·have := qb7 h1; omega
   rw [if_neg (by omega), if_neg (by omega), if_pos this]
end Go.Proofs.YtbcdgfgacigaoaaGreat
end
section
namespace Go.Proofs.YtbcdgfgacigaoaaGreat
open Go Go.Ab Go.Tx Go.Wide
theorem qoR {l : List Int} {i : Nat} (h : l.length <= i) : l.getD i 0 = 0 := by simp; rw [List.getElem?_eq_none h]; rfl
theorem qFk (l : List Int) (i : Nat) (h : i < l.length) : dv (l.take (i + 1)) = dv (l.take i) + pw i * l.getD i 0 := by
 rw [qhq 0 h, qsK];simp [dv, Nat.min_eq_left (Nat.le_of_lt h)]
theorem qjW (l : List Int) (i : Nat) : dv (l.take (i + 1)) = dv (l.take i) + pw i * l.getD i 0 := by
 by_cases h : i < l.length
 ·exact qFk l i h
 ·rw [qoR (by omega), List.take_of_length_le (by omega), List.take_of_length_le (by omega)]; simp
theorem qxG (l : List Int) (d : Int) : dv (l ++ [d]) = dv l + pw l.length * d := by rw [qsK]; simp [dv]
theorem qtO {l : List Int} {d : Int} (h : dok l) (h0 : 0 <= d) (h1 : d < 1000000000) : dok (l ++ [d]) := qwy.2 ⟨h, by simp [dok]; omega⟩
theorem quF {a b : List Int} (ha : dok a) (hb : dok b) (la : a.length <= 100000) (lb : b.length <= 100000) :
  Ok (qe4 a b) fun r => dok r /\ dv r = dv a + dv b /\ r.length <= 100001 := by
 obtain ⟨M, hM, la', lb'⟩ : ∃ M : Nat, M <= 100000 /\ a.length <= M /\ b.length <= M := ⟨100000, Nat.le_refl _, la, lb⟩
 unfold qe4;rw [qa4];refine (qg8 (fun s : List Int × Int × Int => ((M : Int) + 3 - s.2.2).toNat)
  (fun s => 0 <= s.2.2 /\ s.1.length = s.2.2.toNat /\ dok s.1 /\ (s.2.1 = 0 \/ s.2.1 = 1) /\ (s.2.2 <= M \/ (s.2.2 = (M : Int) + 1 /\ s.2.1 = 0)) /\ dv s.1 + pw s.2.2.toNat * s.2.1 = dv (a.take s.2.2.toNat) + dv (b.take s.2.2.toNat))
  (fun r => dok r /\ dv r = dv a + dv b /\ r.length <= 100001) ⟨by simp, by simp, qtJ, .inl rfl, .inl (by simp), by simp [dv, pw]⟩ ?_).mono ?_
 ·rintro ⟨out, c, i⟩ ⟨h0, h1, h2, h3, h4, h5⟩;simp only at h0 h1 h2 h3 h4 h5;obtain ⟨i, rfl⟩ : ∃ n : Nat, i = (n : Int) := ⟨i.toNat, by omega⟩
  simp only [Int.toNat_natCast] at h1 h5;rw [qfG];have htest : (bif decide ((i : Int) < (a.length : Int)) then some true else bif decide ((i : Int) < (b.length : Int)) then some true else some (decide (c > 0))) = some (decide ((i : Int) < (a.length : Int) \/ (i : Int) < (b.length : Int) \/ c > 0)) := by
   by_cases c1 : (i : Int) < (a.length : Int)
   ·simp [c1]
   ·by_cases c2 : (i : Int) < (b.length : Int)
    ·simp [c1, c2]
    ·simp [c1, c2]
  rw [htest, qH, qcF];by_cases hgo : (i : Int) < (a.length : Int) \/ (i : Int) < (b.length : Int) \/ c > 0
  ·rw [if_pos hgo, qtD (by omega), qtD (by omega)];simp only [qa];have ga := qi7 ha i;have gb := qi7 hb i;have hi : i <= M := by omega
   simp (disch := omega) only [wid]
   rw [qc6 (by omega)];simp only [qa, qM];have na := qjW a i;have nb := qjW b i;have hs0 : 0 <= a.getD i 0 + b.getD i 0 + c := by omega
   have hm : (a.getD i 0 + b.getD i 0 + c).tmod 1000000000 = (a.getD i 0 + b.getD i 0 + c) % 1000000000 := Int.tmod_eq_emod_of_nonneg hs0;have hd : (a.getD i 0 + b.getD i 0 + c).tdiv 1000000000 = (a.getD i 0 + b.getD i 0 + c) / 1000000000 := Int.tdiv_eq_ediv_of_nonneg hs0;rw [hm, hd, wid (by omega) (by omega)];have e1 : ((i : Int) + 1).toNat = i + 1 := by omega
   have za : a.length <= i -> a.getD i 0 = 0 := qoR;have zb : b.length <= i -> b.getD i 0 = 0 := qoR;refine ⟨⟨by omega, by simp; omega, qtO h2 (by omega) (by omega), by omega, by omega, ?_⟩, by omega⟩;simp only [e1];rw [na, nb, qxG, h1];simp only [pw];have e2 := Int.emod_add_mul_ediv (a.getD i 0 + b.getD i 0 + c) 1000000000;have e3 : pw i * ((a.getD i 0 + b.getD i 0 + c) % 1000000000 + 1000000000 * ((a.getD i 0 + b.getD i 0 + c) / 1000000000)) = pw i * (a.getD i 0 + b.getD i 0 + c) := by rw [e2]
   grind
  ·rw [if_neg hgo, qW];rw [List.take_of_length_le (by omega), List.take_of_length_le (by omega)] at h5;have : c = 0 := by omega
   subst this;dsimp only;exact ⟨h2, by omega, by omega⟩
 ·rintro r h;rw [qH]; exact h
theorem qjh {a b : List Int} (ha : dok a) (hb : dok b) (la : a.length <= 100000) (lb : b.length <= a.length) (hle : dv b <= dv a) :
  qcj a b = some (qiZ (dv a - dv b).toNat) := by
 unfold qcj;refine Ok.eq ?_;rw [qa4];refine (qg8 (fun s : List Int × Int × Int => (a.length - s.2.2).toNat)
  (fun s => 0 <= s.2.2 /\ s.2.2 <= a.length /\ s.1.length = s.2.2.toNat /\ dok s.1 /\ (s.2.1 = 0 \/ s.2.1 = 1) /\ dv s.1 = dv (a.take s.2.2.toNat) - dv (b.take s.2.2.toNat) + pw s.2.2.toNat * s.2.1)
  (fun r => dok r /\ dv r = dv a - dv b /\ r.length = a.length) ⟨by simp, by simp, by simp, qtJ, .inl rfl, by simp [dv, pw]⟩ ?_).mono ?_
 ·rintro ⟨out, c, i⟩ ⟨h0, h00, h1, h2, h3, h5⟩;simp only at h0 h00 h1 h2 h3 h5;obtain ⟨i, rfl⟩ : ∃ n : Nat, i = (n : Int) := ⟨i.toNat, by omega⟩
  simp only [Int.toNat_natCast] at h1 h5;rw [qcF];by_cases hgo : (i : Int) < (a.length : Int)
  ·rw [if_pos hgo, qga (by omega) hgo, qtD (by omega)];simp only [qa, Int.toNat_natCast];have ga := qi7 ha i;have gb := qi7 hb i;simp (disch := omega) only [wid]
   have na := qjW a i;have nb := qjW b i;have e1 : ((i : Int) + 1).toNat = i + 1 := by omega
   rw [qcF];by_cases hs : a.getD i 0 - b.getD i 0 - c < 0
   ·rw [if_pos hs];simp only [qa];rw [qc6 (by omega)];simp only [qa, qM];refine ⟨⟨by omega, by omega, by simp; omega, qtO h2 (by omega) (by omega), by simp, ?_⟩, by omega⟩;simp only [e1];rw [na, nb, qxG, h1, h5];simp only [pw];grind
   ·rw [if_neg hs];simp only [qa];rw [qc6 (by omega)];simp only [qa, qM];refine ⟨⟨by omega, by omega, by simp; omega, qtO h2 (by omega) (by omega), by simp, ?_⟩, by omega⟩;simp only [e1];rw [na, nb, qxG, h1, h5];grind
  ·rw [if_neg hgo, qW];have hi : i = a.length := by omega
   subst hi;rw [List.take_of_length_le (by omega), List.take_of_length_le (by omega)] at h5;have hlt := qy4 h2;rw [h1] at hlt;dsimp only;rcases h3 with rfl | rfl
   ·exact ⟨h2, by omega, h1⟩
   ·exfalso
    rw [Int.mul_one] at h5; omega
 ·rintro r ⟨h1, h2, h3⟩;rw [qmE (by omega) h1, h2];simp [qH]
theorem qsu (a b : Int) (la : wl a <= 100000) (lb : wl b <= 100000) : qfb (W a) (W b) = some (W (a + b)) := by
 unfold qfb;simp only [qcF];by_cases ha : a = 0
 ·subst ha; rw [if_pos (show (W 0).1 = 0 by simp [qfB])]; simp
 rw [if_neg (show ¬ (W a).1 = 0 by rw [qfB]; simpa using ha)];by_cases hb : b = 0
 ·subst hb; rw [if_pos (show (W 0).1 = 0 by simp [qfB])]; simp
 rw [if_neg (show ¬ (W b).1 = 0 by rw [qfB]; simpa using hb)];have sa : a.sign = 1 /\ 0 < a \/ a.sign = -1 /\ a < 0 := by
  rcases Int.lt_or_le 0 a with h | h
  ·exact .inl ⟨Int.sign_eq_one_of_pos h, h⟩
  ·exact .inr ⟨Int.sign_eq_neg_one_of_neg (by omega), by omega⟩
 have sb : b.sign = 1 /\ 0 < b \/ b.sign = -1 /\ b < 0 := by
  rcases Int.lt_or_le 0 b with h | h
  ·exact .inl ⟨Int.sign_eq_one_of_pos h, h⟩
  ·exact .inr ⟨Int.sign_eq_neg_one_of_neg (by omega), by omega⟩
 have da := qCT a;have db := qCT b;by_cases hs : a.sign = b.sign
 ·rw [if_pos (show (W a).1 = (W b).1 from hs)];obtain ⟨r, hr, h1, h2, h3⟩ := quF (qqO a) (qqO b) (by rw [qe8]; exact la) (by rw [qe8]; exact lb);rw [hr];simp only [qa];rw [qfB, qdP (v := a + b) (by omega) h1 (by omega) (by omega) (by rw [h2, da, db]; rcases sa with ⟨h, _⟩ | ⟨h, _⟩ <;> rw [h] at hs ⊢ <;> omega)];rfl
 ·rw [if_neg (show ¬ (W a).1 = (W b).1 from hs)];have hc : qaX (W a).2.1 (W b).2.1 = some (if a.natAbs < b.natAbs then -1 else if a.natAbs > b.natAbs then 1 else 0) := qx1 a.natAbs b.natAbs (by have := la; unfold wl at this; omega);rw [hc];simp only [qa];by_cases c1 : a.natAbs < b.natAbs
  ·rw [if_pos c1, if_neg (by omega), if_neg (by omega), qjh (qqO b) (qqO a) (by rw [qe8]; exact lb) (by rw [qe8, qe8]; exact qnj (by omega)) (by rw [da, db]; omega), da, db];simp only [qa];rw [qfB, qdP (v := a + b) (by have h1 := qb7 (m := ((b.natAbs : Int) - a.natAbs).toNat) (n := b.natAbs) (by omega); have h2 := lb; unfold wl at h2; omega) (qfS _) (by omega) (by omega) (by rw [qf6]; rcases sb with ⟨h, _⟩ | ⟨h, _⟩ <;> rw [h] at hs ⊢ <;> omega)];rfl
  ·rw [if_neg c1];by_cases c2 : a.natAbs > b.natAbs
   ·rw [if_pos c2, if_neg (by omega), if_pos (by omega), qjh (qqO a) (qqO b) (by rw [qe8]; exact la) (by rw [qe8, qe8]; exact qnj (by omega)) (by rw [da, db]; omega), da, db];simp only [qa];rw [qfB, qdP (v := a + b) (by have h1 := qb7 (m := ((a.natAbs : Int) - b.natAbs).toNat) (n := a.natAbs) (by omega); have h2 := la; unfold wl at h2; omega) (qfS _) (by omega) (by omega) (by rw [qf6]; rcases sa with ⟨h, _⟩ | ⟨h, _⟩ <;> rw [h] at hs ⊢ <;> omega)];rfl
   ·rw [if_neg c2, if_pos rfl];have : a + b = 0 := by omega
    rw [this, qEq]
theorem qnm (a b : Int) (la : wl a <= 100000) (lb : wl b <= 100000) : qcz (W a) (W b) = some (W (a - b)) := by
 unfold qcz;rw [qsr];simp only [qa];rw [qsu a (-b) la (by rw [qEL]; exact lb)];rfl
theorem qsy (a b : Int) (la : wl a <= 100000) (lb : wl b <= 100000) : qe5 (W a) (W b) = some (a - b).sign := by
 unfold qe5;rw [qnm a b la lb];rfl
theorem qA3 : ∀ {l : List Int} {j : Nat} (v : Int), j < l.length -> dv (l.set j v) = dv l + pw j * (v - l.getD j 0)
 | [], j, v, h => by simp at h
 | d :: l, 0, v, h => by simp [dv, pw] <;> omega
 | d :: l, j + 1, v, h => by
  have ih := qA3 (l := l) (j := j) v (by simpa using h);simp only [List.set_cons_succ, dv, pw, List.getD_cons_succ];rw [ih]; grind
theorem qxy {l : List Int} {j : Nat} {v : Int} (h : dok l) (h0 : 0 <= v) (h1 : v < 1000000000) : dok (l.set j v) := fun d hd => by
 rcases List.mem_or_eq_of_mem_set hd with hd | rfl
 ·exact h d hd
 ·exact ⟨h0, h1⟩
theorem qvW (n : Nat) : dok (List.replicate n 0) := fun d hd => by rw [List.eq_of_mem_replicate hd]; omega
theorem getD_set_ne {l : List Int} {i j : Nat} {v : Int} (h : i ≠ j) : (l.set i v).getD j 0 = l.getD j 0 := by
 simp [List.getElem?_set_ne h]
theorem qxj {l : List Int} {i : Nat} {v : Int} (h : i < l.length) : (l.set i v).getD i 0 = v := by
 simp [List.getElem?_set_self h]
end Go.Proofs.YtbcdgfgacigaoaaGreat
end
section
namespace Go.Proofs.YtbcdgfgacigaoaaGreat
open Go Go.Ab Go.Tx Go.Wide
theorem qCb {a b A B : Int} (h1 : 0 <= a) (h2 : a <= A) (h3 : 0 <= b) (h4 : b <= B) : 0 <= a * b /\ a * b <= A * B :=
 ⟨Int.mul_nonneg h1 h3, Int.mul_le_mul h2 h4 h3 (Int.le_trans h1 h2)⟩
theorem qrz (a b : Int) : -1 <= a.sign * b.sign /\ a.sign * b.sign <= 1 := by
 rw [<- Int.sign_mul]; exact qsH _
theorem qcg (a b : Int) (la : wl a <= 10000) (lb : wl b <= 10000) : qD (W a) (W b) = some (W (a * b)) := by
 unfold qD;refine Ok.eq ?_;rw [qa4];have hn : w64 ((w64 (((W a).2.1.length : Int) + ((W b).2.1.length : Int))) + 1) = ((wl a + wl b + 1 : Nat) : Int) := by
  rw [qe8, qe8, wid (n := (wl a : Int) + (wl b : Int)) (by omega) (by omega), wid (by omega) (by omega)]; omega
 rw [hn, qys ⟨by omega, by omega⟩, qH];simp only [decide_true, cond_true, Int.toNat_natCast];rw [qa4];refine (qg8 (fun s : List Int × Int => ((wl a : Int) - s.2).toNat)
  (fun s => 0 <= s.2 /\ s.2 <= wl a /\ s.1.length = wl a + wl b + 1 /\ dok s.1 /\ (∀ j, s.2.toNat + wl b <= j -> s.1.getD j 0 = 0) /\ dv s.1 = dv ((W a).2.1.take s.2.toNat) * dv (W b).2.1)
  (fun r => dok r /\ r.length = wl a + wl b + 1 /\ dv r = dv (W a).2.1 * dv (W b).2.1) ⟨by simp, by simp, by simp, qvW _, ?_, ?_⟩ ?_).mono ?_
 ·intro j _;by_cases hj : j < wl a + wl b + 1
  ·simp [List.getElem?_replicate, hj]
  ·exact qoR (by simp; omega)
 ·simp only [Int.toNat_zero, List.take_zero, dv, Int.zero_mul];exact qt6 fun d hd => List.eq_of_mem_replicate hd
 ·rintro ⟨out, i⟩ ⟨h0, h1, h2, h3, h4, h5⟩;simp only at h0 h1 h2 h3 h4 h5;obtain ⟨i, rfl⟩ : ∃ n : Nat, i = (n : Int) := ⟨i.toNat, by omega⟩
  simp only [Int.toNat_natCast] at h4 h5;rw [qcF];by_cases hgo : (i : Int) < ((W a).2.1.length : Int)
  ·rw [if_pos hgo, qfG];rw [qe8] at hgo;have ga := qi7 (qqO a) i;refine (qg8 (fun s : List Int × Int × Int => ((wl b : Int) - s.2.2).toNat)
    (fun s => 0 <= s.2.2 /\ s.2.2 <= wl b /\ s.1.length = wl a + wl b + 1 /\ dok s.1 /\ (0 <= s.2.1 /\ s.2.1 < 1000000000) /\ (∀ j, i + wl b <= j -> s.1.getD j 0 = 0) /\
     dv s.1 + pw (i + s.2.2.toNat) * s.2.1 = dv ((W a).2.1.take i) * dv (W b).2.1 + pw i * ((W a).2.1.getD i 0 * dv ((W b).2.1.take s.2.2.toNat)))
    (fun r => r.1.length = wl a + wl b + 1 /\ dok r.1 /\ (0 <= r.2 /\ r.2 < 1000000000) /\ (∀ j, i + wl b <= j -> r.1.getD j 0 = 0) /\
     dv r.1 + pw (i + wl b) * r.2 = dv ((W a).2.1.take i) * dv (W b).2.1 + pw i * ((W a).2.1.getD i 0 * dv (W b).2.1)) ⟨by simp, by simp, h2, h3, ⟨by simp, by simp⟩, h4, by simp [h5, dv]⟩ ?_).mono ?_
   ·rintro ⟨o, c, k⟩ ⟨k0, k1, k2, k3, k4, k5, k6⟩;simp only at k0 k1 k2 k3 k4 k5 k6;obtain ⟨k, rfl⟩ : ∃ n : Nat, k = (n : Int) := ⟨k.toNat, by omega⟩
    simp only [Int.toNat_natCast] at k6;rw [qcF];by_cases hk : (k : Int) < ((W b).2.1.length : Int)
    ·rw [if_pos hk];rw [qe8] at hk;have e1 : w64 ((i : Int) + (k : Int)) = ((i + k : Nat) : Int) := by rw [wid (by omega) (by omega)]; omega
     have gb := qi7 (qqO b) k;have go := qi7 k3 (i + k);have hp := qCb ga.1 (show _ <= 999999999 by omega) gb.1 (show _ <= 999999999 by omega);simp only
     rw [e1, qga (l := o) (by omega) (by omega), qga (l := (W a).2.1) (by omega) (by rw [qe8]; omega), qga (l := (W b).2.1) (by omega) (by rw [qe8]; omega)];simp only [qa, Int.toNat_natCast];have nb := qjW (W b).2.1 k;generalize (W a).2.1.getD i 0 = x at *;generalize (W b).2.1.getD k 0 = y at *;generalize hz : o.getD (i + k) 0 = z at *;generalize hxy : x * y = p at *;rw [wid (n := p) (by omega) (by omega), wid (n := z + p) (by omega) (by omega), wid (n := z + p + c) (by omega) (by omega), wid (n := (k : Int) + 1) (by omega) (by omega)];have hs0 : 0 <= z + p + c := by omega
     rw [Int.tmod_eq_emod_of_nonneg hs0, Int.tdiv_eq_ediv_of_nonneg hs0, wid (by omega) (by omega), qM];have e2 : ((k : Int) + 1).toNat = k + 1 := by omega
     have e3 := Int.emod_add_mul_ediv (z + p + c) 1000000000;dsimp only;refine ⟨⟨by omega, by omega, by rw [List.length_set]; exact k2, qxy k3 (by omega) (by omega), ⟨by omega, by omega⟩, ?_, ?_⟩, by omega⟩
     ·intro j hj;rw [getD_set_ne (by omega)]; exact k5 j hj
     ·rw [e2, qA3 _ (by omega), hz, nb];have e4 : pw (i + (k + 1)) = 1000000000 * pw (i + k) := rfl;rw [e4];have e5 := qux i k;generalize (z + p + c) % 1000000000 = r at *;generalize (z + p + c) / 1000000000 = q at *;have e6 : pw (i + k) * (r + 1000000000 * q) = pw (i + k) * (z + p + c) := by rw [e3]
      have e7 : pw i * (x * (pw k * y)) = pw (i + k) * p := by rw [e5, <- hxy]; grind
      rw [Int.mul_add] at e6;have e8 : pw i * (x * (dv ((W b).2.1.take k) + pw k * y)) = pw i * (x * dv ((W b).2.1.take k)) + pw i * (x * (pw k * y)) := by grind
      rw [e8, e7];grind
    ·rw [if_neg hk, qW];rw [qe8] at hk;have hk' : k = wl b := by omega
     subst hk';rw [List.take_of_length_le (l := (W b).2.1) (by rw [qe8]; exact Nat.le_refl _)] at k6;exact ⟨k2, k3, k4, k5, k6⟩
   ·rintro ⟨o, c⟩ ⟨k2, k3, k4, k5, k6⟩;simp only at k2 k3 k4 k5 k6;have e1 : w64 ((i : Int) + ((W b).2.1.length : Int)) = ((i + wl b : Nat) : Int) := by rw [qe8, wid (by omega) (by omega)]; omega
    simp only
    rw [e1, qga (l := o) (by omega) (by omega)];simp only [qa, Int.toNat_natCast];have hz := k5 (i + wl b) (Nat.le_refl _);rw [hz, wid (n := 0 + c) (by omega) (by omega), wid (n := (i : Int) + 1) (by omega) (by omega), qM];have e2 : ((i : Int) + 1).toNat = i + 1 := by omega
    dsimp only;refine ⟨⟨by omega, by omega, by rw [List.length_set]; exact k2, qxy k3 (by omega) (by omega), ?_, ?_⟩, by omega⟩
    ·intro j hj;rw [e2] at hj;rw [getD_set_ne (by omega)]; exact k5 j (by omega)
    ·rw [e2, qA3 _ (by omega), hz, qjW];grind
  ·rw [if_neg hgo, qW];rw [qe8] at hgo;have hi : i = wl a := by omega
   subst hi;rw [List.take_of_length_le (by rw [qe8]; omega)] at h5;exact ⟨h3, h2, h5⟩
 ·rintro r ⟨h1, h2, h3⟩;rw [qCT, qCT] at h3;have hs := qrz a b;rw [qfB, qfB, wid (by omega) (by omega)];have e1 := Int.sign_mul_natAbs a;have e2 := Int.sign_mul_natAbs b;rw [qdP (v := a * b) (by omega) h1 (by omega) ?_ ?_]
  ·simp [qH]
  ·intro h;rw [h3];rcases Int.mul_eq_zero.1 h with h | h
   ·rw [Int.sign_eq_zero_iff_zero.1 h]; simp
   ·rw [Int.sign_eq_zero_iff_zero.1 h]; simp
  ·rw [h3];conv => lhs; rw [<- e1, <- e2]
   grind
theorem drop_set {l : List Int} {i : Nat} {v : Int} (h : i < l.length) : dv ((l.set i v).drop i) = v + 1000000000 * dv (l.drop (i + 1)) := by
 rw [qyL (by rw [List.length_set]; exact h), qxj h, List.drop_set_of_lt (by omega)]
theorem qtN {a b q L : Int} (hb : 0 < b) (h0 : 0 <= L) (h1 : L < b) (h : a = q * b + L) : a / b = q :=
 ((Int.ediv_emod_unique hb).2 ⟨by rw [h, Int.mul_comm q b]; omega, h0, h1⟩).1
theorem qjt (a b : Int) (hb : 0 < b) (la : wl a <= 5000) (lb : wl b <= 5000) : qaT (W a) (W b) = some (W (a / b)) := by
 unfold qaT;simp only [qcF];by_cases ha : a = 0
 ·subst ha; rw [if_pos (show (W 0).1 = 0 by simp [qfB])]; rw [Int.zero_ediv, qEq]
 rw [if_neg (show ¬ (W a).1 = 0 by rw [qfB]; simpa using ha)];refine Ok.eq ?_;rw [qa4, qys ⟨by omega, by rw [qe8]; omega⟩, qH];simp only [if_true, Int.toNat_natCast];rw [qa4];have hone : qaQ 1 (W b).2.1 = some (W b) := by
  rw [qDO b (by omega) (.inl rfl)]; congr 2; omega
 refine (qg8 (fun s : List Int × List Int × Int => (s.2.2 + 1).toNat)
  (fun s => -1 <= s.2.2 /\ s.2.2 < wl a /\ s.1.length = wl a /\ dok s.1 /\ ∃ L : Nat, s.2.1 = qiZ L /\ (L : Int) < b /\ dv ((W a).2.1.drop (s.2.2 + 1).toNat) = dv (s.1.drop (s.2.2 + 1).toNat) * b + L)
  (fun r => r.1.length = wl a /\ dok r.1 /\ ∃ L : Nat, r.2 = qiZ L /\ (L : Int) < b /\ dv (W a).2.1 = dv r.1 * b + L) ?_ ?_).mono ?_
 ·rw [qe8, wid (by omega) (by omega)];have e1 : ((wl a : Int) - 1 + 1).toNat = wl a := by omega
  dsimp only;refine ⟨by omega, by omega, by simp, qvW _, 0, by simp [qbh], by omega, ?_⟩;rw [e1, List.drop_eq_nil_of_le (by rw [qe8]; omega), List.drop_eq_nil_of_le (by simp)];simp [dv]
 ·rintro ⟨q, left, i⟩ ⟨h0, h1, h2, h3, L, h4, h5, h6⟩;simp only at h0 h1 h2 h3 h4 h5 h6;subst h4;by_cases hgo : i >= 0
  ·rw [if_pos hgo];obtain ⟨i, rfl⟩ : ∃ n : Nat, i = (n : Int) := ⟨i.toNat, by omega⟩
   have e1 : ((i : Int) + 1).toNat = i + 1 := by omega
   rw [e1] at h6;have ga := qi7 (qqO a) i;have hL : (qiZ L).length <= wl b := by unfold wl; exact qb7 (by omega)
   rw [qga (by omega) (by rw [qe8]; omega)];simp only [qa, Int.toNat_natCast];rw [qCA (by simp; omega)];simp only [qa, List.singleton_append];have ht := qyL (l := (W a).2.1) (i := i) (by rw [qe8]; omega);generalize (W a).2.1.getD i 0 = x at *;have hdv : dv (x :: qiZ L) = x + 1000000000 * L := by simp only [dv, qf6]
   rw [qmE (by simp; omega) (qlE.2 ⟨ga, qfS L⟩), hdv];simp only [qa];obtain ⟨M, hM⟩ : ∃ M : Nat, x + 1000000000 * (L : Int) = (M : Int) := ⟨(x + 1000000000 * (L : Int)).toNat, by omega⟩
   rw [hM, Int.toNat_natCast];have hMb : (M : Int) < b * 1000000000 := by omega
   have hMl : (qiZ M).length <= wl b + 1 := qsT (by
    have := qz6 (n := b);simp only [pw]; omega)
   rw [qfG];refine (qg8 (fun s : Int × Int => (s.2 - s.1).toNat)
    (fun s => 0 <= s.1 /\ s.1 <= s.2 /\ s.2 <= 999999999 /\ b * s.1 <= M /\ (M : Int) < b * (s.2 + 1))
    (fun r => 0 <= r /\ r <= 999999999 /\ b * r <= M /\ (M : Int) < b * (r + 1)) ⟨by simp, by simp, by simp, by simp, by simpa using hMb⟩ ?_).mono ?_
   ·rintro ⟨lo, hi⟩ ⟨k0, k1, k2, k3, k4⟩;simp only at k0 k1 k2 k3 k4;by_cases hlh : lo < hi
    ·rw [if_pos hlh, hone];simp only [qa];rw [wid (n := lo + hi) (by omega) (by omega), wid (n := lo + hi + 1) (by omega) (by omega), Int.tdiv_eq_ediv_of_nonneg (by omega), wid (n := (lo + hi + 1) / 2) (by omega) (by omega)];generalize hm : (lo + hi + 1) / 2 = m;have hm1 : lo < m /\ m <= hi := by omega
     rw [qfn (by omega)];simp only [qa];rw [qcg b m (by omega) (Nat.le_trans (qsb (by omega)) (by omega))];simp only [qa];have hbm : 0 <= b * m := Int.mul_nonneg (by omega) (by omega);have hbl : wl (b * m) <= 10000 := by have := qgJ b m; have := qsb (n := m) (by omega); omega
     have hc : qaX (W (b * m)).2.1 (qiZ M) = some (if (b * m).natAbs < M then -1 else if (b * m).natAbs > M then 1 else 0) := qx1 (b * m).natAbs M (by unfold wl at hbl; omega);rw [hc];simp only [qa];by_cases hle : b * m <= M
     ·rw [if_pos (by omega)];simp only [qa, qM];exact ⟨⟨by omega, by omega, by omega, hle, k4⟩, by omega⟩
     ·rw [if_neg (by omega), wid (by omega) (by omega)];simp only [qa, qM];have e9 : m - 1 + 1 = m := by omega
      rw [e9];exact ⟨⟨by omega, by omega, by omega, k3, by omega⟩, by omega⟩
    ·rw [if_neg hlh, qW];have : lo = hi := by omega
     subst this;exact ⟨k0, k2, k3, k4⟩
   ·rintro r ⟨k0, k1, k2, k3⟩;rw [qga (by omega) (by omega)];simp only [qa, Int.toNat_natCast];rw [hone];simp only [qa];rw [qfn (by omega)];simp only [qa];rw [qcg b r (by omega) (Nat.le_trans (qsb (by omega)) (by omega))];simp only [qa];have hbr : 0 <= b * r := Int.mul_nonneg (by omega) (by omega);rw [qjh (qfS M) (qqO _) (by omega) (by
     rw [qe8]; unfold wl; exact qb7 (by omega)) (by rw [qCT, qf6]; omega), qCT, qf6]
    simp only [qa];rw [wid (by omega) (by omega), qM];have e2 : ((i : Int) - 1 + 1).toNat = i := by omega
    dsimp only;have hbr' : ((b * r).natAbs : Int) = b * r := by omega
    rw [Int.mul_add] at k3;refine ⟨⟨by omega, by omega, by rw [List.length_set]; exact h2, qxy h3 (by omega) (by omega), ((M : Int) - (b * r).natAbs).toNat, rfl, by omega, ?_⟩, by omega⟩;rw [e2, ht, h6, drop_set (by omega)];have e3 : (((M : Int) - ((b * r).natAbs : Int)).toNat : Int) = M - b * r := by omega
    rw [e3, <- hM];grind
  ·rw [if_neg hgo, qW];have e1 : (i + 1).toNat = 0 := by omega
   rw [e1] at h6;exact ⟨h2, h3, L, rfl, h5, h6⟩
 ·rintro ⟨q, left⟩ ⟨h1, h2, L, h3, h4, h5⟩;simp only at h1 h2 h3 h5;subst h3;have hq := qnJ h2;rw [qCT] at h5;have hwq : wl (dv q) <= 5000 := Nat.le_trans (qAE (by have := qy4 h2; rw [h1] at this; omega)) la;rcases Int.lt_or_le 0 a with h | h
  ·have hs : a.sign = 1 := Int.sign_eq_one_of_pos h;have e0 : ¬ (W a).1 < 0 := by rw [qfB, hs]; omega
   simp only
   rw [qfB, hs, qdP (v := dv q) (by omega) h2 (.inl rfl) (by omega) (by omega)];simp only [qa];rw [if_neg (by omega)];simp only [qa, cond_false];rw [qH, qtN (q := dv q) (L := L) hb (by omega) h4 (by omega)]
  ·have hs : a.sign = -1 := Int.sign_eq_neg_one_of_neg (by omega);simp only
   rw [qfB, hs, qdP (v := -dv q) (by omega) h2 (.inr (.inl rfl)) (by omega) (by omega)];simp only [qa];rw [if_pos (by omega)];simp only [qa];by_cases h0 : L = 0
   ·have e1 : decide (((qiZ L).length : Int) > 0) = false := by subst h0; simp [qbh]
    rw [e1];simp only [cond_false, qa];rw [qH, qtN (q := -dv q) (L := 0) hb (by omega) hb (by rw [Int.neg_mul]; omega)]
   ·have e1 : decide (((qiZ L).length : Int) > 0) = true := by rw [qgQ h0]; simp
    rw [e1];simp only [cond_true];rw [qfn (by omega)];simp only [qa];rw [qnm _ _ (by rw [qEL]; omega) (by rw [qEE]; omega)];simp only [qa];rw [qH, qtN (q := -dv q - 1) (L := b - L) hb (by omega) (by omega) (by rw [Int.sub_mul, Int.neg_mul]; omega)]
end Go.Proofs.YtbcdgfgacigaoaaGreat
end
section
namespace Go.Proofs.YtbcdgfgacigaoaaGreat
open Go Go.Ab Go.Tx Go.Wide
theorem sign_zero (n : Int) : n.sign = 0 ↔ n = 0 := Int.sign_eq_zero_iff_zero
theorem qDD {u v : Nat} (h : v ≠ 0) : Nat.gcd v (u % v) = Nat.gcd u v := by rw [Nat.gcd_comm v, <- Nat.gcd_rec, Nat.gcd_comm]
theorem qzt (a b : Int) (la : wl a <= 4000) (lb : wl b <= 4000) : qfg (W a) (W b) = some (W (Int.gcd a b)) := by
 unfold qfg;refine Ok.eq ?_;rw [qqv, qqv];simp only [qa];rw [qa4];refine (qg8 (fun s : Int × List Int × Int × List Int => (dv s.2.2.2).toNat)
  (fun s => ∃ u v : Nat, s = ((W u).1, (W u).2.1, (W v).1, (W v).2.1) /\ Nat.gcd u v = Int.gcd a b /\ wl u <= 4000 /\ wl v <= 4000)
  (fun r => r = ((W (Int.gcd a b)).1, (W (Int.gcd a b)).2.1)) ⟨a.natAbs, b.natAbs, rfl, rfl, by unfold wl at *; exact la, by unfold wl at *; exact lb⟩ ?_).mono ?_
 ·rintro _ ⟨u, v, rfl, hg, hu, hv⟩;have hs : qdM ((W v).1, (W v).2.1, ()) = some (v : Int).sign := rfl;simp only
  rw [hs];simp only [qa];by_cases h : v = 0
  ·subst h;simp only [Int.natCast_zero, Int.sign_zero, decide_true, Bool.not_true, cond_false];rw [qW];rw [Nat.gcd_zero_right] at hg;rw [hg]
  ·have hv0 : ¬ (v : Int).sign = 0 := by rw [sign_zero]; omega
   simp only [hv0, decide_false, Bool.not_false, cond_true];have e1 : qaT ((W u).1, (W u).2.1, ()) ((W v).1, (W v).2.1, ()) = some (W ((u : Int) / v)) := qjt u v (by omega) (by omega) (by omega);rw [e1];simp only [qa];have hd := qGo (u : Int) (b := v) (by omega);have e2 : qD (W ((u : Int) / v)) ((W v).1, (W v).2.1, ()) = some (W ((u : Int) / v * v)) := qcg _ _ (by omega) (by omega);rw [e2];simp only [qa];have e3 : qcz ((W u).1, (W u).2.1, ()) (W ((u : Int) / v * v)) = some (W ((u : Int) - (u : Int) / v * v)) := qnm _ _ (by omega) (by have := qgJ ((u : Int) / v) v; omega);rw [e3];simp only [qa];have e4 : (u : Int) - (u : Int) / v * v = ((u % v : Nat) : Int) := by
    have := Int.emod_add_mul_ediv (u : Int) v;have e5 : ((u % v : Nat) : Int) = (u : Int) % v := by simp
    rw [e5, Int.mul_comm]; omega
   rw [e4, qM];have hlt := Nat.mod_lt u (show 0 < v by omega);refine ⟨⟨v, u % v, rfl, by rw [qDD h]; exact hg, hv, Nat.le_trans (qnj (by omega)) hv⟩, ?_⟩;dsimp only;rw [qCT, qCT]; omega
 ·rintro _ rfl;rw [qH]
def RW (n d : Int) : Int × List Int × Int × List Int × Unit := ((W n).1, (W n).2.1, (W d).1, (W d).2.1, ())
def rn (n d : Int) : Int := n / (Int.gcd n d : Int)
def rd_ (n d : Int) : Int := d / (Int.gcd n d : Int)
def RQ (n d : Int) : Int × List Int × Int × List Int × Unit := RW (rn n d) (rd_ n d)
theorem qj6 {n d : Int} (h : 0 < d) : (0 : Int) < Int.gcd n d := by
 have := Int.gcd_pos_of_ne_zero_right n (show d ≠ 0 by omega);omega
theorem qyV (n d : Int) : rn n d * (Int.gcd n d : Int) = n := Int.ediv_mul_cancel (Int.gcd_dvd_left ..)
theorem qw5 (n d : Int) : rd_ n d * (Int.gcd n d : Int) = d := Int.ediv_mul_cancel (Int.gcd_dvd_right ..)
theorem qx9 {n d : Int} (h : 0 < d) : 0 < rd_ n d := by
 have h1 := qw5 n d;have h2 := qj6 (n := n) h;rcases Int.lt_or_le 0 (rd_ n d) with h3 | h3
 ·exact h3
 ·have := Int.mul_le_mul_of_nonneg_right h3 (Int.le_of_lt h2);omega
theorem qkr (n : Int) {g : Int} (hg : 0 < g) (hd : g ∣ n) : (n / g).natAbs <= n.natAbs := by
 obtain ⟨q, rfl⟩ := hd;rw [Int.mul_ediv_cancel_left _ (by omega), Int.natAbs_mul];have : 1 <= g.natAbs := by omega
 have := Nat.mul_le_mul_right q.natAbs this;omega
theorem qGx {n d : Int} (h : 0 < d) : (rn n d).natAbs <= n.natAbs := qkr n (qj6 h) (Int.gcd_dvd_left ..)
theorem qGS {n d : Int} (h : 0 < d) : (rd_ n d).natAbs <= d.natAbs := qkr d (qj6 h) (Int.gcd_dvd_right ..)
theorem qEJ {n d c : Int} (hd : 0 < d) (hc : 0 < c) : RQ (n * c) (d * c) = RQ n d := by
 unfold RQ rn rd_;have hg : (Int.gcd (n * c) (d * c) : Int) = Int.gcd n d * c := by
                                  rw [Int.gcd_mul_right]; have : (c.natAbs : Int) = c := by omega
                                  rw [Int.natCast_mul, this]
 rw [hg, Int.mul_ediv_mul_of_pos_left _ _ hc, Int.mul_ediv_mul_of_pos_left _ _ hc]
theorem qxW {n d m k : Int} (hd : 0 < d) (hk : 0 < k) (h : n * k = m * d) : RQ n d = RQ m k := by
 rw [<- qEJ (n := n) hd hk, <- qEJ (n := m) hk hd, h, Int.mul_comm d k]
theorem qi9 {n d : Int} (hd : 0 < d) (ln : wl n <= 2000) (ld : wl d <= 2000) : qci (W n) (W d) = some (RQ n d) := by
 unfold qci;rw [qw4];have hs : d.sign = 1 := Int.sign_eq_one_of_pos hd;simp only [qa, hs];have e0 : decide ((1 : Int) < 0) = false := by decide
 simp only [e0, cond_false, qa];have e1 : qfg ((W n).1, (W n).2.1, ()) ((W d).1, (W d).2.1, ()) = some (W (Int.gcd n d)) := qzt n d (by omega) (by omega);rw [e1];simp only [qa];have hg := qj6 (n := n) hd;have hgd : ((Int.gcd n d : Nat) : Int).natAbs <= d.natAbs := by
  have := Nat.le_of_dvd (show 0 < d.natAbs by omega) (Nat.gcd_dvd_right n.natAbs d.natAbs);simpa [Int.gcd] using this
 have hgl : wl (Int.gcd n d : Int) <= 2000 := Nat.le_trans (qnj hgd) ld;rw [qfn (by omega)];simp only [qa];rw [qsy _ _ (by omega) (by rw [qEE]; omega)];simp only [qa, qcF];by_cases h1 : (Int.gcd n d : Int) = 1
 ·rw [if_pos (by rw [h1]; rfl)];unfold RQ rn rd_ RW;rw [h1]; simp
 ·rw [if_neg (by rw [sign_zero]; omega)];have e2 : qaT ((W n).1, (W n).2.1, ()) (W (Int.gcd n d)) = some (W (rn n d)) := qjt n _ hg (by omega) (by omega);have e3 : qaT ((W d).1, (W d).2.1, ()) (W (Int.gcd n d)) = some (W (rd_ n d)) := qjt d _ hg (by omega) (by omega);rw [e2];simp only [qa];rw [e3];rfl
theorem qzs {n d : Int} (hd : 0 < d) (hn : -9223372036854775807 <= n /\ n <= 9223372036854775807) (hd2 : d <= 9223372036854775807) : qgM n d = some (RQ n d) := by
 unfold qgM;rw [qfn hn];simp only [qa];rw [qfn (by omega)];simp only [qa];rw [qi9 hd (Nat.le_trans (qsb (by omega)) (by omega)) (Nat.le_trans (qsb (by omega)) (by omega))];rfl
theorem qz0 {n d : Int} (h : 0 < d) : wl (rn n d) <= wl n := qnj (qGx h)
theorem qzx {n d : Int} (h : 0 < d) : wl (rd_ n d) <= wl d := qnj (qGS h)
theorem qw1 {n d m k : Int} (hd : 0 < d) (hk : 0 < k) (l1 : wl n <= 400) (l2 : wl d <= 400) (l3 : wl m <= 400) (l4 : wl k <= 400) :
  qed (RQ n d) (RQ m k) = some (RQ (n * k + m * d) (d * k)) := by
 unfold qed;have b1 := qz0 (n := n) hd;have b2 := qzx (n := n) hd;have b3 := qz0 (n := m) hk;have b4 := qzx (n := m) hk;have e1 : qD ((RQ n d).1, (RQ n d).2.1, ()) ((RQ m k).2.2.1, (RQ m k).2.2.2.1, ()) = some (W (rn n d * rd_ m k)) := qcg _ _ (by omega) (by omega);have e2 : qD ((RQ m k).1, (RQ m k).2.1, ()) ((RQ n d).2.2.1, (RQ n d).2.2.2.1, ()) = some (W (rn m k * rd_ n d)) := qcg _ _ (by omega) (by omega);have e3 : qD ((RQ n d).2.2.1, (RQ n d).2.2.2.1, ()) ((RQ m k).2.2.1, (RQ m k).2.2.2.1, ()) = some (W (rd_ n d * rd_ m k)) := qcg _ _ (by omega) (by omega);have c1 := qgJ (rn n d) (rd_ m k);have c2 := qgJ (rn m k) (rd_ n d);have c3 := qgJ (rd_ n d) (rd_ m k);have c4 := qEp (rn n d * rd_ m k) (rn m k * rd_ n d);rw [e1, e2, e3];simp only [qa];rw [qsu _ _ (by omega) (by omega)];simp only [qa];have p1 := qx9 (n := n) hd;have p2 := qx9 (n := m) hk;rw [qi9 (Int.mul_pos p1 p2) (by omega) (by omega)];simp only [qa];rw [qxW (Int.mul_pos p1 p2) (Int.mul_pos hd hk)];have f1 := qyV n d;have f2 := qw5 n d;have f3 := qyV m k;have f4 := qw5 m k;generalize (Int.gcd n d : Int) = g at *;generalize (Int.gcd m k : Int) = h at *;generalize rn n d = n1 at *;generalize rd_ n d = d1 at *;generalize rn m k = m1 at *;generalize rd_ m k = k1 at *;subst f1 f2 f3 f4;grind
theorem qxc {n d m k : Int} (hd : 0 < d) (hk : 0 < k) (l1 : wl n <= 400) (l2 : wl d <= 400) (l3 : wl m <= 400) (l4 : wl k <= 400) :
  qdR (RQ n d) (RQ m k) = some (n * k - m * d).sign := by
 unfold qdR;have b1 := qz0 (n := n) hd;have b2 := qzx (n := n) hd;have b3 := qz0 (n := m) hk;have b4 := qzx (n := m) hk;have e1 : qD ((RQ n d).1, (RQ n d).2.1, ()) ((RQ m k).2.2.1, (RQ m k).2.2.2.1, ()) = some (W (rn n d * rd_ m k)) := qcg _ _ (by omega) (by omega);have e2 : qD ((RQ m k).1, (RQ m k).2.1, ()) ((RQ n d).2.2.1, (RQ n d).2.2.2.1, ()) = some (W (rn m k * rd_ n d)) := qcg _ _ (by omega) (by omega);have c1 := qgJ (rn n d) (rd_ m k);have c2 := qgJ (rn m k) (rd_ n d);rw [e1, e2];simp only [qa];rw [qsy _ _ (by omega) (by omega)];simp only [qa];have f1 := qyV n d;have f2 := qw5 n d;have f3 := qyV m k;have f4 := qw5 m k;have g1 := qj6 (n := n) hd;have g2 := qj6 (n := m) hk;have key : n * k - m * d = (rn n d * rd_ m k - rn m k * rd_ n d) * (Int.gcd n d * Int.gcd m k) := by
  have h : ∀ g h n1 d1 m1 k1 : Int, (n1 * g) * (k1 * h) - (m1 * h) * (d1 * g) = (n1 * k1 - m1 * d1) * (g * h) := by intros; grind
  have := h (Int.gcd n d) (Int.gcd m k) (rn n d) (rd_ n d) (rn m k) (rd_ m k);rw [f1, f2, f3, f4] at this;exact this
 rw [key, Int.sign_mul, Int.sign_eq_one_of_pos (Int.mul_pos g1 g2), Int.mul_one]
end Go.Proofs.YtbcdgfgacigaoaaGreat
end
section
namespace Go.Proofs.YtbcdgfgacigaoaaGreat.Mat
open Go Go.Ab Go.Tx Go.Proofs.YtbcdgfgacigaoaaGreat Go.Wide
def qv8 (r : Rg) (t d : Nat -> G) (i : Nat) : G := qdL (qkj r t d i) (d i)
def qwX (r : Rg) (t d : List G) : List G := mkL r.2.1.length (qv8 r (fun k => t.getD k g0) fun k => d.getD k g0)
theorem qFg {r : Rg} (h : 0 <= r.2.2.2.2.1 /\ r.2.2.2.2.1 <= 1000) (z : Int) : -r.2.2.2.2.1 <= clF r z /\ clF r z <= r.2.2.2.2.1 := by
 unfold clF; omega
theorem qEO {r : Rg} (h : 0 <= r.2.2.2.2.1 /\ r.2.2.2.2.1 <= 1000) (t d : Nat -> G) (i : Nat) : Bd 1000 (qkj r t d i) := by
 have h1 := qFg h (qq4 r t d i).1;have h2 := qFg h (qq4 r t d i).2.1;unfold Bd qkj;simp only
 omega
abbrev OR (r : Rg) : Mx × Mx × Int × Int × Int × Int × Mx × Unit := (r.1, r.2.1, r.2.2.1, r.2.2.2.1, r.2.2.2.2.1, qq1 r.2.1, mx r.2.1.length r.2.1.length (qnN r.2.1), ())
theorem que {r : Rg} {t d : Nat -> G} (h : CorB r t d) :
  qbE (OR r) (mkL r.2.1.length t) (mkL r.2.1.length d) = some (if qku (mkL r.2.1.length (qv8 r t d)) r.2.1.length = 0 then (mkL r.2.1.length (qv8 r t d), 0) else ([], 22)) := by
 have hn3 := h.n3;unfold qbE;rw [qtX h, qa, qK];refine Ok.eq ?_;rw [qa4];refine (qa8 r.2.1.length (fun i (s : List G × Int) => s = (mkL r.2.1.length (fun j => if j < i then qv8 r t d j else qkj r t d j), (i : Int))) (fun q => q = mkL r.2.1.length (qv8 r t d)) ?_ ?_).mono ?_
 ·congr 1
 ·rintro i s hi rfl;by_cases hlt : i < r.2.1.length
  ·have e1 : decide ((i : Int) < (r.2.1.length : Int)) = true := decide_eq_true (by omega);have hx : idx (mkL r.2.1.length d) (i : Int) = some (d i) := qaj (qax _ hlt);have hy : idx (mkL r.2.1.length (fun j => if j < i then qv8 r t d j else qkj r t d j)) (i : Int) = some (qkj r t d i) := by
    rw [qaj (qax _ hlt), if_neg (Nat.lt_irrefl i)]
   simp only [e1, cond_true, hx, hy, qa, Int.toNat_natCast];rw [qpo (qEO h.step t d i) (h.dB i hlt) (by omega), qa, wid (by omega) (by omega), qM];refine ⟨hlt, ?_⟩;congr 1
   rw [qBf _ _ hlt];refine qbG fun k hk => ?_;by_cases c : k = i
   ·subst c;rw [if_pos rfl, if_pos (by omega)]; rfl
   ·rw [if_neg c];by_cases c2 : k < i
    ·rw [if_pos c2, if_pos (by omega)]
    ·rw [if_neg c2, if_neg (by omega)]
  ·have : i = r.2.1.length := by omega
   subst this;have e1 : decide ((r.2.1.length : Int) < (r.2.1.length : Int)) = false := by simp
   simp only [e1, cond_false];rw [qW];exact qbG fun k hk => if_pos hk
 ·rintro q rfl;refine ok_eq.2 ?_;rw [qK, qmZ (by rw [qK]; omega), qa];by_cases c : qku (mkL r.2.1.length (qv8 r t d)) r.2.1.length = 0
  ·rw [decide_eq_true c, if_pos c]; rfl
  ·rw [decide_eq_false c, if_neg c]; rfl
theorem qzJ {r : Rg} {t d : List G} (hE : qn4 r = 0) (ht : qku t r.2.1.length = 0) (hd : qku d r.2.1.length = 0) :
  qbE (OR r) t d = some (if qku (qwX r t d) r.2.1.length = 0 then (qwX r t d, 0) else ([], 22)) := by
 obtain ⟨tl, tB⟩ := qrT ht;obtain ⟨dl, dB⟩ := qrT hd;have e1 := qmp t g0;have e2 := qmp d g0;rw [tl] at e1;rw [dl] at e2;have := que (qGR hE (t := fun k => t.getD k g0) (d := fun k => d.getD k g0) (fun k hk => tB _ (qd6 (by omega))) (fun k hk => dB _ (qd6 (by omega))));rw [<- e1, <- e2] at this;exact this
structure Three (r : Rg) (t s0 s1 s2 s3 : List G) : Prop where
 z0 : qku s0 r.2.1.length = 0
 z1 : qku s1 r.2.1.length = 0
 z2 : qku s2 r.2.1.length = 0
 z3 : qku s3 r.2.1.length = 0
 e1 : s1 = qwX r t s0
 e2 : s2 = qwX r t s1
 e3 : s3 = qwX r t s2
theorem qwU {r : Rg} {t d : List G} (hp : r.1.length <= 1000000000) (hpr : ∀ x ∈ r.1, x.length <= 1000000000) (hm : r.2.1.length <= 1000000000) (hmr : ∀ x ∈ r.2.1, x.length <= 1000000000) (hd : r.2.2.2.1 <= 9223372036854775807) (ht : t.length <= 1000000000) (hd2 : d.length <= 1000000000) (hE : qAf r t d = 0) :
  Ok (qeV r t d 3) fun q => q = ([], 22) \/ ∃ s1 s2 s3, Three r t d s1 s2 s3 /\ q = ([s1, s2, s3], 0) := by
 obtain ⟨y, e1, e2⟩ := qtT hp hpr hm hmr hd ht hd2;have e1' : qca (r.1, r.2.1, r.2.2.1, r.2.2.2.1, r.2.2.2.2.1, ()) t d = some (y, qAf r t d) := e1;have hy := e2 hE;subst hy;unfold qAf at hE;by_cases c1 : qn4 r = 0
 case neg => rw [if_neg c1] at hE; exact absurd hE c1
 rw [if_pos c1] at hE;by_cases c2 : qku t r.1.length = 0
 case neg => rw [if_neg c2] at hE; exact absurd hE c2
 rw [if_pos c2] at hE;have hl := (qsm c1).2.2.1;have hE' : qAf r t d = 0 := by unfold qAf; rw [if_pos c1, if_pos c2, hE]
 rw [hl] at c2 hE;unfold qeV;rw [e1', qa, qqf, qa, qiW, qa, qEr, qa];simp only [hE', if_true];have e9 : (if decide ((0 : Int) <= 3 /\ (3 : Int) <= 20) = true then (0 : Int) else 2) = 0 := by decide
 rw [e9, decide_eq_true (show (0 : Int) = 0 from rfl), Bool.not_true, cond_false];refine qwI.2 ?_;have key : ∀ s : List G, qku s r.2.1.length = 0 -> qbE (OR r) t s = some (if qku (qwX r t s) r.2.1.length = 0 then (qwX r t s, 0) else ([], 22)) := fun s hs => qzJ c1 c2 hs;refine (qa8 3 (fun i (s : List G × List (List G) × Int) => s.2.2 = (i : Int) /\ qku s.1 r.2.1.length = 0 /\ ((i = 0 /\ s.1 = d /\ s.2.1 = []) \/ (i = 1 /\ s.1 = qwX r t d /\ s.2.1 = [qwX r t d]) \/ (i = 2 /\ ∃ s1, qku s1 r.2.1.length = 0 /\ s1 = qwX r t d /\ s.1 = qwX r t s1 /\ s.2.1 = [s1, qwX r t s1]) \/ (i = 3 /\ ∃ s1 s2 s3, Three r t d s1 s2 s3 /\ s.2.1 = [s1, s2, s3])))
  (fun q : List (List G) ⊕ (List (List G) × Int) => match q with
   | .inl a => ∃ s1 s2 s3, Three r t d s1 s2 s3 /\ a = [s1, s2, s3]
   | .inr b => b = ([], 22)) ⟨rfl, hE, .inl ⟨rfl, rfl, rfl⟩⟩ ?_).mono ?_
 ·rintro i ⟨s, L, j⟩ hi ⟨h1, h2, h3⟩;simp only at h1 h2 h3;subst h1;by_cases hlt : i < 3
  ·have e1 : decide ((i : Int) < 3) = true := decide_eq_true (by omega);simp only [e1, cond_true];rw [key s h2, qa];by_cases c : qku (qwX r t s) r.2.1.length = 0
   case neg =>
    rw [if_neg c];simp only
    rw [decide_eq_false (show ¬ (22 : Int) = 0 by omega), Bool.not_false, cond_true, qW]
   rw [if_pos c];simp only
   have hL : L.length <= 3 := by
    rcases h3 with ⟨_, _, h⟩ | ⟨_, _, h⟩ | ⟨_, _, _, _, _, h⟩ | ⟨h0, _⟩
    ·rw [h]; simp
    ·rw [h]; simp
    ·rw [h]; simp
    ·omega
   simp only [decide_true, Bool.not_true, cond_false];rw [qc6 (by omega), qa, wid (by omega) (by omega), qM];refine ⟨hlt, by simp, c, ?_⟩;rcases h3 with ⟨h0, ha, hb⟩ | ⟨h0, ha, hb⟩ | ⟨h0, s1, hs1, he, ha, hb⟩ | ⟨h0, _⟩
   ·subst h0 ha hb; exact .inr (.inl ⟨rfl, rfl, rfl⟩)
   ·subst h0 ha hb; exact .inr (.inr (.inl ⟨rfl, _, h2, rfl, rfl, rfl⟩))
   ·subst h0 ha hb;exact .inr (.inr (.inr ⟨rfl, s1, _, _, ⟨hE, hs1, h2, c, he, rfl, rfl⟩, rfl⟩))
   ·omega
  ·have : i = 3 := by omega
   subst this;have e1 : decide (((3 : Nat) : Int) < 3) = false := by decide
   simp only [e1, cond_false];rw [qW];rcases h3 with ⟨h0, _⟩ | ⟨h0, _⟩ | ⟨h0, _⟩ | ⟨_, s1, s2, s3, hT, hb⟩
   ·cases h0
   ·cases h0
   ·cases h0
   ·exact ⟨s1, s2, s3, hT, hb⟩
 ·rintro (a | b) h
  ·obtain ⟨s1, s2, s3, hT, rfl⟩ := h;exact qH.2 (.inr ⟨s1, s2, s3, hT, rfl⟩)
  ·exact .inl h
def qvZ (n : Nat) (z : Nat -> G) : Int := qte n fun i => qaH (z i)
theorem qAG {n : Nat} {f : Nat -> Int} {i : Nat} (h : i < n) : f i <= qte n f := by
 induction n with
 | zero => omega
 | succ n ih =>
  simp only [qte];by_cases c : i = n
  ·subst c; omega
  ·have := ih (by omega); omega
theorem qk7 {n : Nat} {f : Nat -> Int} : 0 <= qte n f := by
 induction n with
 | zero => simp [qte]
 | succ n ih => simp only [qte] <;> omega
theorem qCI (a b : G) : qaH (qdL a b) <= qaH a + qaH b := by unfold qaH qdL; simp only <;> omega
theorem qBq (a b : G) : qaH (qgu a b) <= qaH a + qaH b := by unfold qaH qgu; simp only <;> omega
theorem qv4 (a : G) : 0 <= qaH a := by unfold qaH; omega
theorem qCD (a b : G) : qaH (qao a b) <= qaH a * qaH b := by
 have h1 := Int.natAbs_mul a.1 b.1;have h2 := Int.natAbs_mul a.2.1 b.2.1;have h3 := Int.natAbs_mul a.1 b.2.1;have h4 := Int.natAbs_mul a.2.1 b.1;have e : qaH a * qaH b = ((a.1.natAbs * b.1.natAbs : Nat) : Int) + ((a.2.1.natAbs * b.2.1.natAbs : Nat) : Int) + ((a.1.natAbs * b.2.1.natAbs : Nat) : Int) + ((a.2.1.natAbs * b.1.natAbs : Nat) : Int) := by
  unfold qaH;simp only [Int.natCast_mul];grind
 rw [e];unfold qaH qao;simp only
 omega
theorem qxI (s : Int) (a : G) (h : 0 <= s) : qaH (s * a.1, s * a.2.1, ()) = s * qaH a := by
 unfold qaH;simp only [Int.natAbs_mul, Int.natCast_mul];have e : (s.natAbs : Int) = s := by omega
 rw [e]; grind
theorem qBe {n : Nat} {f : Nat -> G} {p : Nat -> Int} (h : ∀ k, k < n -> qaH (f k) <= p k) : qaH (qeY n f) <= qq3 n p := by
 induction n with
 | zero => simp [qeY, qq3, qaH, g0]
 | succ n ih =>
  simp only [qeY, qq3];have h1 := ih fun k hk => h k (by omega);have h2 := h n (by omega);have h3 := qCI (qeY n f) (f n);omega
theorem qza {n : Nat} {p : Nat -> Int} (c : Int) : qq3 n (fun k => p k * c) = qq3 n p * c := by
 induction n with
 | zero => simp [qq3]
 | succ n ih => simp only [qq3]; rw [ih, Int.add_mul]
theorem qyA (a b c : G) : qao (qgu a b) c = qgu (qao a c) (qao b c) := qo4 (by simp only [qao, qgu]; grind) (by simp only [qao, qgu]; grind)
theorem qEh {n : Nat} (f h : Nat -> G) : qeY n (fun k => qgu (f k) (h k)) = qgu (qeY n f) (qeY n h) := by
 induction n with
 | zero => rfl
 | succ n ih => simp only [qeY, ih]; exact qo4 (by simp only [qdL, qgu]; omega) (by simp only [qdL, qgu]; omega)
theorem quL (z : G) {s : Int} (h : 0 <= s) : qaH (qao z (s, 0, ())) = s * qaH z := by
 have e : qao z (s, 0, ()) = (s * z.1, s * z.2.1, ()) := qo4 (by simp only [qao]; grind) (by simp only [qao]; grind);rw [e, qxI s z h]
theorem quW {n : Nat} {M : Nat -> Nat -> G} {v : Nat -> G} {B : Int} {i : Nat} (hB : 0 <= B) (hv : ∀ k, k < n -> qaH (v k) <= B) (hi : i < n) : qaH (qbw n M v i) <= qwQ n n M * B := by
 have h1 : qaH (qbw n M v i) <= qq3 n fun k => qaH (M i k) * B := qBe fun k hk => by
  have h2 := qCD (M i k) (v k);have h3 := Int.mul_le_mul_of_nonneg_left (hv k hk) (qv4 (M i k));omega
 rw [qza] at h1;have h4 : qq3 n (fun k => qaH (M i k)) <= qwQ n n M := qAG (f := fun i => qq3 n fun k => qaH (M i k)) hi;have h5 := Int.mul_le_mul_of_nonneg_right h4 hB;omega
theorem qws {n : Nat} {f : Nat -> Int} {Q B : Int} (hQ : 0 <= Q) (hB : 0 <= B) (h : ∀ i, i < n -> Q * f i <= B) : Q * qte n f <= B := by
 induction n with
 | zero => simp only [qte, Int.mul_zero]; exact hB
 | succ n ih =>
  simp only [qte];have h1 := ih fun i hi => h i (by omega);have h2 := h n (by omega);by_cases c : qte n f <= f n
  ·rw [Int.max_eq_right c]; exact h2
  ·rw [Int.max_eq_left (by omega)]; exact h1
theorem qA6 {a Q : Int} (hQ : 0 < Q) : -Q <= 2 * (Q * nr a Q - a) /\ 2 * (Q * nr a Q - a) <= Q := by
 have h2 := Int.emod_nonneg a (show Q ≠ 0 by omega);have h3 := Int.emod_lt_of_pos a hQ;have h4 := Int.mul_ediv_add_emod a Q;unfold nr;generalize a / Q = q at *;generalize a % Q = r at *;split
 ·rw [Int.mul_add, Int.mul_one]; omega
 ·omega
theorem qxV {a Q : Int} (hQ : 0 < Q) : -Q <= 2 * (Q * rnd a Q - a) /\ 2 * (Q * rnd a Q - a) <= Q := by
 unfold rnd;split
 ·have h := qA6 (a := 0 - a) hQ;have e : Q * (0 - nr (0 - a) Q) = -(Q * nr (0 - a) Q) := by rw [Int.zero_sub, Int.mul_neg]
  rw [e];omega
 ·exact qA6 hQ
theorem qGn {r : Rg} {z : Int} (hs : 0 <= r.2.2.2.2.1) (h : ¬ ((clF r z).natAbs : Int) = r.2.2.2.2.1) : clF r z = roF r z := by
 unfold clF at *;generalize roF r z = x at *;omega
def qAl (r : Rg) (t d : Nat -> G) (k : Nat) : G := qgu (qao (qkj r t d k) (qez r, 0, ())) (qao (qq4 r t d k) (r.2.2.1, 0, ()))
theorem qCV {r : Rg} {t d : Nat -> G} (hQ : 0 < qez r) (hs : 0 <= r.2.2.2.2.1) {k : Nat} (h1 : ¬ ((qkj r t d k).1.natAbs : Int) = r.2.2.2.2.1) (h2 : ¬ ((qkj r t d k).2.1.natAbs : Int) = r.2.2.2.2.1) : qaH (qAl r t d k) <= qez r := by
 have e : qq1 r.2.1 * r.2.2.2.1 = qez r := Int.mul_comm _ _;have e1 : (qkj r t d k).1 = roF r (qq4 r t d k).1 := qGn hs h1;have e2 : (qkj r t d k).2.1 = roF r (qq4 r t d k).2.1 := qGn hs h2;have n1 := qxV (a := (qq4 r t d k).1 * r.2.2.1) hQ;have n2 := qxV (a := (qq4 r t d k).2.1 * r.2.2.1) hQ;have f1 : (qAl r t d k).1 = qez r * rnd ((qq4 r t d k).1 * r.2.2.1) (qez r) - (qq4 r t d k).1 * r.2.2.1 := by
  unfold qAl qgu qao;simp only
  rw [e1];unfold roF;rw [e]; grind
 have f2 : (qAl r t d k).2.1 = qez r * rnd ((qq4 r t d k).2.1 * r.2.2.1) (qez r) - (qq4 r t d k).2.1 * r.2.2.1 := by
  unfold qAl qgu qao;simp only
  rw [e2];unfold roF;rw [e]; grind
 unfold qaH;omega
theorem qCm (r : Rg) (t d : Nat -> G) {i : Nat} (hi : i < r.2.1.length) :
  qao (qcc r.2.1.length (ent r.1) t (qv8 r t d) i) (qez r, 0, ()) = qgu (qbw r.2.1.length (qCq r) (qcc r.2.1.length (ent r.1) t d) i) (qbw r.2.1.length (ent r.1) (qAl r t d) i) := by
 have h1 : qbw r.2.1.length (ent r.1) (qv8 r t d) i = qdL (qbw r.2.1.length (ent r.1) (qkj r t d) i) (qbw r.2.1.length (ent r.1) d i) := quR r.2.1.length (ent r.1) (fun j _ => qkj r t d j) (fun j _ => d j) i 0;have h2 : qbw r.2.1.length (ent r.1) (fun k => qao (qkj r t d k) (qez r, 0, ())) i = qao (qbw r.2.1.length (ent r.1) (qkj r t d) i) (qez r, 0, ()) := qsz r.2.1.length (ent r.1) (fun j _ => qkj r t d j) (qez r, 0, ()) i 0;have h3 : qbw r.2.1.length (ent r.1) (fun k => qao (qkj r t d k) (qez r, 0, ())) i = qdL (qbw r.2.1.length (ent r.1) (fun k => qao (qq4 r t d k) (r.2.2.1, 0, ())) i) (qbw r.2.1.length (ent r.1) (qAl r t d) i) := by
  have e : qbw r.2.1.length (ent r.1) (fun k => qao (qkj r t d k) (qez r, 0, ())) i = qbw r.2.1.length (ent r.1) (fun k => qdL (qao (qq4 r t d k) (r.2.2.1, 0, ())) (qAl r t d k)) i := qcV fun k hk => by
   congr 1
   unfold qAl;exact qo4 (by simp only [qdL, qgu]; omega) (by simp only [qdL, qgu]; omega)
  rw [e];exact quR r.2.1.length (ent r.1) (fun j _ => qao (qq4 r t d j) (r.2.2.1, 0, ())) (fun j _ => qAl r t d j) i 0
 have h4 : qbw r.2.1.length (ent r.1) (fun k => qao (qq4 r t d k) (r.2.2.1, 0, ())) i = qao (qbw r.2.1.length (ent r.1) (qq4 r t d) i) (r.2.2.1, 0, ()) := qsz r.2.1.length (ent r.1) (fun j _ => qq4 r t d j) (r.2.2.1, 0, ()) i 0;have h5 : qbw r.2.1.length (ent r.1) (qq4 r t d) i = qbw r.2.1.length (qdr r.2.1.length (ent r.1) (qnN r.2.1)) (qcc r.2.1.length (ent r.1) t d) i := qxa r.2.1.length (ent r.1) (qnN r.2.1) (fun j _ => qcc r.2.1.length (ent r.1) t d j) i 0;have h6 : qbw r.2.1.length (fun i k => qao (qdr r.2.1.length (ent r.1) (qnN r.2.1) i k) (r.2.2.1, 0, ())) (qcc r.2.1.length (ent r.1) t d) i = qao (qbw r.2.1.length (qdr r.2.1.length (ent r.1) (qnN r.2.1)) (qcc r.2.1.length (ent r.1) t d) i) (r.2.2.1, 0, ()) := qzQ r.2.1.length (qdr r.2.1.length (ent r.1) (qnN r.2.1)) (fun j _ => qcc r.2.1.length (ent r.1) t d j) (r.2.2.1, 0, ()) i 0;have h7 : qbw r.2.1.length (qgy (qez r)) (qcc r.2.1.length (ent r.1) t d) i = qao (qcc r.2.1.length (ent r.1) t d i) (qez r, 0, ()) := qwv (k := 0) (qez r) (fun j _ => qcc r.2.1.length (ent r.1) t d j) hi;have h8 : qbw r.2.1.length (qCq r) (qcc r.2.1.length (ent r.1) t d) i = qgu (qbw r.2.1.length (qgy (qez r)) (qcc r.2.1.length (ent r.1) t d) i) (qbw r.2.1.length (fun i k => qao (qdr r.2.1.length (ent r.1) (qnN r.2.1) i k) (r.2.2.1, 0, ())) (qcc r.2.1.length (ent r.1) t d) i) := by
  have e : qbw r.2.1.length (qCq r) (qcc r.2.1.length (ent r.1) t d) i = qeY r.2.1.length fun k => qgu (qao (qgy (qez r) i k) (qcc r.2.1.length (ent r.1) t d k)) (qao (qao (qdr r.2.1.length (ent r.1) (qnN r.2.1) i k) (r.2.2.1, 0, ())) (qcc r.2.1.length (ent r.1) t d k)) := qcV fun k hk => qyA _ _ _;rw [e, qEh];rfl
 have h9 : qcc r.2.1.length (ent r.1) t (qv8 r t d) i = qgu (qcc r.2.1.length (ent r.1) t d i) (qbw r.2.1.length (ent r.1) (qkj r t d) i) := by
  unfold qcc;rw [h1];exact qo4 (by simp only [qdL, qgu]; omega) (by simp only [qdL, qgu]; omega)
 rw [h9, qyA, <- h2, h3, h4, h5, <- h6, h8, h7];exact qo4 (by simp only [qdL, qgu]; omega) (by simp only [qdL, qgu]; omega)
theorem shrink {r : Rg} {t d : Nat -> G} (hQ : 0 < qez r) (hs : 0 <= r.2.2.2.2.1)
  (hu : ∀ k, k < r.2.1.length -> ¬ ((qkj r t d k).1.natAbs : Int) = r.2.2.2.2.1 /\ ¬ ((qkj r t d k).2.1.natAbs : Int) = r.2.2.2.2.1) :
  qez r * qvZ r.2.1.length (qcc r.2.1.length (ent r.1) t (qv8 r t d)) <= qrd r * qvZ r.2.1.length (qcc r.2.1.length (ent r.1) t d) + qwQ r.2.1.length r.2.1.length (ent r.1) * qez r := by
 have n0 : 0 <= qvZ r.2.1.length (qcc r.2.1.length (ent r.1) t d) := qk7;have c0 : 0 <= qrd r := qk7;have r0 : 0 <= qwQ r.2.1.length r.2.1.length (ent r.1) := qk7;have p1 := Int.mul_nonneg c0 n0;have p2 := Int.mul_nonneg r0 (show 0 <= qez r by omega);refine qws (by omega) (by omega) fun i hi => ?_;rw [<- quL _ (show 0 <= qez r by omega), qCm r t d hi];have h1 := qBq (qbw r.2.1.length (qCq r) (qcc r.2.1.length (ent r.1) t d) i) (qbw r.2.1.length (ent r.1) (qAl r t d) i);have h2 : qaH (qbw r.2.1.length (qCq r) (qcc r.2.1.length (ent r.1) t d) i) <= qrd r * qvZ r.2.1.length (qcc r.2.1.length (ent r.1) t d) := quW n0 (fun k hk => qAG (f := fun i => qaH (qcc r.2.1.length (ent r.1) t d i)) hk) hi;have h3 : qaH (qbw r.2.1.length (ent r.1) (qAl r t d) i) <= qwQ r.2.1.length r.2.1.length (ent r.1) * qez r := quW (by omega) (fun k hk => qCV hQ hs (hu k hk).1 (hu k hk).2) hi;omega
theorem qzL {r : Rg} (hG : 1 <= qmD r) {x y R : Int} (h : qez r * x <= qrd r * y + R * qez r) : x * (con r).2.1 <= (con r).1 * y + R * (con r).2.1 := by
 have d1 : qmD r ∣ qrd r := by
  have h1 : Nat.gcd (qrd r).natAbs (qez r).natAbs ∣ (qrd r).natAbs := Nat.gcd_dvd_left _ _;exact Int.ofNat_dvd_left.2 h1
 have d2 : qmD r ∣ qez r := by
  have h1 : Nat.gcd (qrd r).natAbs (qez r).natAbs ∣ (qez r).natAbs := Nat.gcd_dvd_right _ _;exact Int.ofNat_dvd_left.2 h1
 have e1 : (con r).1 * qmD r = qrd r := Int.tdiv_mul_cancel d1;have e2 : (con r).2.1 * qmD r = qez r := Int.tdiv_mul_cancel d2;generalize (con r).1 = A at *;generalize (con r).2.1 = C at *;rw [<- e1, <- e2] at h;have h2 : (x * C) * qmD r <= (A * y + R * C) * qmD r := by
  have f1 : C * qmD r * x = (x * C) * qmD r := by grind
  have f2 : A * qmD r * y + R * (C * qmD r) = (A * y + R * C) * qmD r := by grind
  omega
 exact Int.le_of_mul_le_mul_right h2 (by omega)
end Go.Proofs.YtbcdgfgacigaoaaGreat.Mat
end
section
namespace Go.Proofs.YtbcdgfgacigaoaaGreat.Mat
open Go Go.Ab Go.Tx Go.Proofs.YtbcdgfgacigaoaaGreat Go.Wide
theorem qkV {n : Int} (h : -9223372036854775807 <= n /\ n <= 9223372036854775807) : qbb n = some (RQ n 1) := by
 unfold qbb;rw [qfn h, qa, qfn (by omega), qa];unfold RQ RW rn rd_;have e : ((Int.gcd n 1 : Nat) : Int) = 1 := by rw [Int.gcd_one]; rfl
 rw [e, Int.ediv_one, Int.ediv_one]
theorem qwm {n d m k : Int} (hd : 0 < d) (hk : 0 < k) (l1 : wl n <= 400) (l2 : wl d <= 400) (l3 : wl m <= 400) (l4 : wl k <= 400) :
  qei (RQ n d) (RQ m k) = some (RQ (n * m) (d * k)) := by
 unfold qei;have b1 := qz0 (n := n) hd;have b2 := qzx (n := n) hd;have b3 := qz0 (n := m) hk;have b4 := qzx (n := m) hk;have e1 : qD ((RQ n d).1, (RQ n d).2.1, ()) ((RQ m k).1, (RQ m k).2.1, ()) = some (W (rn n d * rn m k)) := qcg _ _ (by omega) (by omega);have e3 : qD ((RQ n d).2.2.1, (RQ n d).2.2.2.1, ()) ((RQ m k).2.2.1, (RQ m k).2.2.2.1, ()) = some (W (rd_ n d * rd_ m k)) := qcg _ _ (by omega) (by omega);have c1 := qgJ (rn n d) (rn m k);have c3 := qgJ (rd_ n d) (rd_ m k);rw [e1, e3];simp only [qa];have p1 := qx9 (n := n) hd;have p2 := qx9 (n := m) hk;rw [qi9 (Int.mul_pos p1 p2) (by omega) (by omega)];simp only [qa];rw [qxW (Int.mul_pos p1 p2) (Int.mul_pos hd hk)];have f1 := qyV n d;have f2 := qw5 n d;have f3 := qyV m k;have f4 := qw5 m k;generalize (Int.gcd n d : Int) = g at *;generalize (Int.gcd m k : Int) = h at *;generalize rn n d = n1 at *;generalize rd_ n d = d1 at *;generalize rn m k = m1 at *;generalize rd_ m k = k1 at *;subst f1 f2 f3 f4;grind
theorem qB2 {n : Nat} {z : Nat -> G} {B : Int} (hn : n <= 1000) (hB : 0 <= B) (hB2 : B <= 4000000000000000000) (hz : ∀ k, k < n -> Bd B (z k)) : qhB (mkL n z) = some (qvZ n z) := by
 unfold qhB;rw [qK];refine Ok.eq ?_;rw [qa4];refine (qa8 n (fun i (s : Int × Int) => s = (qte i (fun k => qaH (z k)), (i : Int))) (fun q => q = qvZ n z) rfl ?_).mono (fun a ha => qH.2 ha);rintro i s hi rfl;by_cases hlt : i < n
 ·have e1 : decide ((i : Int) < (n : Int)) = true := decide_eq_true (by omega);simp only [e1, cond_true];rw [qaj (qax z hlt), qa, qsE (hz i hlt) hB2, qa, wid (by omega) (by omega), qM];exact ⟨hlt, rfl⟩
 ·have : i = n := by omega
  subst this;have e1 : decide ((i : Int) < (i : Int)) = false := by simp
  simp only [e1, cond_false];rw [qW];rfl
theorem qAA {n : Nat} {z : Nat -> G} {B : Int} (hB : 0 <= B) (hz : ∀ k, k < n -> Bd B (z k)) : 0 <= qvZ n z /\ qvZ n z <= 2 * B := qth (by omega) fun i hi => (qid (hz i hi)).2
theorem qk3 {l : List G} {n : Nat} (h : n <= 1000000000) : qbv l (n : Int) = some (qku l n) := by
 by_cases c : l.length = n
 ·exact qta (by omega)
 ·unfold qbv qku;rw [decide_eq_false (show ¬ (l.length : Int) = (n : Int) by omega), Bool.not_false, cond_true, if_neg c]
theorem qBO {r : Rg} {t d : List G} (hp : r.1.length <= 1000000000) (hpr : ∀ x ∈ r.1, x.length <= 1000000000) (hm : r.2.1.length <= 1000000000) (hmr : ∀ x ∈ r.2.1, x.length <= 1000000000) (hd : r.2.2.2.1 <= 9223372036854775807) :
  qeZ r t d = some (qAf r t d) := by
 unfold qeZ qAf;rw [qAV hp hpr hm hmr hd, qa];by_cases c1 : qn4 r = 0
 case neg => rw [decide_eq_false c1, Bool.not_false, cond_true, if_neg c1]
 rw [decide_eq_true c1, Bool.not_true, cond_false, if_pos c1, qk3 hp, qa];by_cases c2 : qku t r.1.length = 0
 case neg => rw [decide_eq_false c2, Bool.not_false, cond_true, if_neg c2]
 rw [decide_eq_true c2, Bool.not_true, cond_false, if_pos c2, qk3 hp]; rfl
theorem qC8 {m : Mx} (h : qj2 m = 0) : qfo m = some (qwQ m.length m.length (ent m)) /\ 0 <= qwQ m.length m.length (ent m) /\ qwQ m.length m.length (ent m) <= 120 := by
 obtain ⟨m1, m3, mR, mB⟩ := qvj h;have hA := qo6 mB mR;have e := qu9 (by omega) hA (by omega) (by omega) (by omega) (by omega);rw [<- quc mR] at e;refine ⟨e, ?_⟩;unfold qwQ;refine qth (by omega) fun i hi => ?_;have := (qqc (n := m.length) (f := fun k => qaH (ent m i k)) fun k hk => qid (hA i k hi hk)).2;have h4 : (m.length : Int) * (2 * 20) <= 3 * (2 * 20) := Int.mul_le_mul_of_nonneg_right (by omega) (by omega);omega
theorem qx1 {c : G} {x y R : Int} (hC : 1 <= c.2.1) (hC2 : c.2.1 <= 1000000000) (hA : -1000000000 <= c.1 /\ c.1 <= 1000000000) (hx : 0 <= x /\ x <= 1000000000) (hy : 0 <= y /\ y <= 1000000000) (hR : 0 <= R /\ R <= 1000000000) (h : x * c.2.1 <= c.1 * y + R * c.2.1) :
  ((qbb x).bind fun x35 =>
   (qe3 c).bind fun x36 =>
   (qbb y).bind fun x37 =>
   (qei x36 x37).bind fun x38 =>
   (some R).bind fun x39 =>
   (qbb x39).bind fun x40 =>
   (qed x38 x40).bind fun x41 =>
   (qdR x35 x41).bind fun x42 =>
   some (decide (x42 > 0))) = some false := by
 obtain ⟨A, C, _⟩ := c;simp only at hC hC2 hA h;have w : ∀ n : Int, n.natAbs <= 1000000000 -> wl n <= 3 := fun n hn => qsb (by omega);have w1 : wl 1 <= 3 := w 1 (by decide);have wA := w A (by omega);have wC := w C (by omega);have wx := w x (by omega);have wy := w y (by omega);have wR := w R (by omega);have m1 := qgJ A y;have m2 := qgJ C 1;have m3 := qgJ (A * y) 1;have m4 := qgJ R (C * 1);have m5 := qEp (A * y * 1) (R * (C * 1));have m6 := qgJ (C * 1) 1;unfold qe3;simp only
 rw [qkV (by omega), qa, qzs (by omega) (by omega) (by omega)];simp only [qa];rw [qkV (by omega), qa, qwm (by omega) (by omega) (by omega) (by omega) (by omega) (by omega), qa, qkV (by omega), qa, qw1 (by omega) (by omega) (by omega) (by omega) (by omega) (by omega), qa, qxc (by omega) (by omega) (by omega) (by omega) (by omega) (by omega), qa];have e : x * (C * 1 * 1) - (A * y * 1 + R * (C * 1)) * 1 <= 0 := by
  simp only [Int.mul_one] <;> omega
 have e2 : ¬ (x * (C * 1 * 1) - (A * y * 1 + R * (C * 1)) * 1).sign > 0 := by
  intro hh;have := Int.sign_pos_iff.1 hh;omega
 rw [decide_eq_false e2]
theorem qCw (a b : G) : qgu (qdL a b) b = a := qo4 (by simp only [qdL, qgu]; omega) (by simp only [qdL, qgu]; omega)
def Un (r : Rg) (t d : Nat -> G) (k : Nat) : Prop := ¬ ((qkj r t d k).1.natAbs : Int) = r.2.2.2.2.1 /\ ¬ ((qkj r t d k).2.1.natAbs : Int) = r.2.2.2.2.1
theorem quM {r : Rg} (hs : 0 <= r.2.2.2.2.1 /\ r.2.2.2.2.1 <= 1000) (z : Int) : qa6 (clF r z) (w64 (0 - r.2.2.2.2.1)) r.2.2.2.2.1 = some true := by
 have := qFg hs z;rw [qjc, wid (by omega) (by omega), decide_eq_true (by omega)]
theorem qpp (r : Rg) (t d : List G) (hd : r.2.2.2.1 <= 9223372036854775807) : qd3 r t d = some true := by
 unfold qd3;rw [show qkR = some true from rfl, qa, Bool.not_true, cond_false];have er : ((r.1, r.2.1, r.2.2.1, r.2.2.2.1, r.2.2.2.2.1, ()) : Rg) = r := rfl;try rw [er]
 refine Ok.eq ?_;rw [qa4];refine (Ok.bind (P := fun b : Bool => b = true -> qCS r.1 5 /\ qCS r.2.1 5) (Q := fun b : Bool => b = false -> (qCS r.1 5 /\ qCS r.2.1 5) /\ qAf r t d = 0) (qB8 r) fun b hb => ?_).mono fun b hb => ?_
 ·cases b with
  | false => exact qH.2 (by simp)
  | true =>
   rw [Bool.not_true, cond_false];obtain ⟨⟨ha5, har⟩, ⟨hb5, hbr⟩⟩ := hb rfl;rw [qBO (by omega) (fun x h => by have := har x h; omega) (by omega) (fun x h => by have := hbr x h; omega) hd, qa];refine qH.2 fun h => ⟨⟨⟨ha5, har⟩, ⟨hb5, hbr⟩⟩, ?_⟩
   by_cases c : qAf r t d = 0
   ·exact c
   ·rw [decide_eq_false c] at h; cases h
 cases b with
 | true => exact qH.2 rfl
 | false =>
 rw [cond_false];obtain ⟨⟨⟨ha5, har⟩, ⟨hb5, hbr⟩⟩, hE⟩ := hb rfl;have hp : r.1.length <= 1000000000 := by omega
 have hm : r.2.1.length <= 1000000000 := by omega
 have hpr : ∀ x ∈ r.1, x.length <= 1000000000 := fun x h => by have := har x h; omega
 have hmr : ∀ x ∈ r.2.1, x.length <= 1000000000 := fun x h => by have := hbr x h; omega
 obtain ⟨hR, hC, et, ed⟩ := qEK hE;have tl : t.length = r.2.1.length := by have h := congrArg List.length et; rw [qK] at h; exact h
 have dl : d.length = r.2.1.length := by have h := congrArg List.length ed; rw [qK] at h; exact h
 have hB := qGM hR;obtain ⟨hmE, hI, hl, _⟩ := qsm hR;have hst := qx7 hR;have hn1 := hC.n1;have hn3 := hC.n3;rw [qy2 hp hpr hm hmr, qa, qha (by omega), qa, qha (by omega), qa];refine Ok.bind (qwU hp hpr hm hmr hd (by omega) (by omega) hE) fun q hq => ?_;rcases hq with rfl | ⟨s1, s2, s3, hT, rfl⟩
 ·exact qH.2 rfl
 show Ok (bif !(decide ((0 : Int) = 0)) then _ else bif !(decide (((3 : Nat) : Int) = 3)) then _ else _) _;rw [decide_eq_true (show (0 : Int) = 0 from rfl), Bool.not_true, cond_false, decide_eq_true (show ((3 : Nat) : Int) = 3 from rfl), Bool.not_true, cond_false];dsimp only;rw [qa, qn1 hp hpr hm hmr hd, if_neg (show ¬ (qn4 r ≠ 0) from fun hh => hh hR), qa, dl];have hx10 : ((if qis (con r) then (con r, (0 : Int)) else (((0, 0, ()) : G), (8 : Int))).2 = 0 /\ (if qis (con r) then (con r, (0 : Int)) else (((0, 0, ()) : G), (8 : Int))).1 = con r /\ qis (con r)) \/ (if qis (con r) then (con r, (0 : Int)) else (((0, 0, ()) : G), (8 : Int))).2 = 8 := by
  by_cases c : qis (con r)
  ·rw [if_pos c]; exact .inl ⟨rfl, rfl, c⟩
  ·rw [if_neg c]; exact .inr rfl
 generalize (if qis (con r) then (con r, (0 : Int)) else (((0, 0, ()) : G), (8 : Int))) = x10 at hx10 ⊢;have e11 : (bif !(decide (x10.2 = 0)) then some (!(decide (x10.2 = 8))) else some false) = some false := by
  rcases hx10 with ⟨h, _⟩ | h <;> rw [h] <;> rfl
 rw [e11, qa, cond_false];have hS : ∀ i : Nat, i < 3 -> idx [s1, s2, s3] (i : Int) = some ([d, s1, s2, s3].getD (i + 1) []) /\ [d, s1, s2, s3].getD (i + 1) [] = qwX r t ([d, s1, s2, s3].getD i []) /\ qku ([d, s1, s2, s3].getD i []) r.2.1.length = 0 /\ qku ([d, s1, s2, s3].getD (i + 1) []) r.2.1.length = 0 := fun i hi =>
  match i, hi with
  | 0, _ => ⟨qaj rfl, hT.e1, hT.z0, hT.z1⟩
  | 1, _ => ⟨qaj rfl, hT.e2, hT.z1, hT.z2⟩
  | 2, _ => ⟨qaj rfl, hT.e3, hT.z2, hT.z3⟩
 generalize hSS : (fun i : Nat => [d, s1, s2, s3].getD i []) = S;have hS' : ∀ i : Nat, i < 3 -> idx [s1, s2, s3] (i : Int) = some (S (i + 1)) /\ S (i + 1) = qwX r t (S i) /\ qku (S i) r.2.1.length = 0 /\ qku (S (i + 1)) r.2.1.length = 0 := by rw [<- hSS]; exact hS
 have hS0 : S 0 = d := by rw [<- hSS]; rfl
 clear hS hSS;refine qwI.2 ?_;refine (qa8 3 (fun i (s : List G × Int) => s = (S i, (i : Int))) (fun q : Unit ⊕ Bool => match q with
  | .inl _ => True
  | .inr _ => False) (by rw [hS0]; rfl) ?_).mono ?_
 ·rintro i s hi rfl;by_cases hlt : i < 3
  ·obtain ⟨f1, f2, f3, f4⟩ := hS' i hlt;have e1 : decide ((i : Int) < ([s1, s2, s3].length : Int)) = true := decide_eq_true (by simp; omega);simp only [e1, cond_true, f1, qa];rw [qk3 hm, qa, f4, decide_eq_true (show (0 : Int) = 0 from rfl), Bool.not_true, cond_false, qC5];obtain ⟨bl, bB⟩ := qrT f3;obtain ⟨al, aB⟩ := qrT f4;have eb := qmp (S i) g0;rw [bl] at eb;have hCi : CorB r (fun k => t.getD k g0) (fun k => (S i).getD k g0) := qGR hR hC.tB (fun k hk => bB _ (qd6 (by omega)));have ea : S (i + 1) = mkL r.2.1.length (qv8 r (fun k => t.getD k g0) (fun k => (S i).getD k g0)) := f2;generalize hb : (fun k => (S i).getD k g0) = b at eb hCi ea;have aB' : ∀ k, k < r.2.1.length -> Bd 10000 (qv8 r (fun k => t.getD k g0) b k) := fun k hk => aB _ (by rw [ea]; exact qxJ hk);refine (qa8 r.2.1.length (fun k (s : Bool × Int) => s.2 = (k : Int) /\ (s.1 = false -> ∀ j, j < k -> Un r (fun k => t.getD k g0) b j)) (fun q => match q with
    | .inl p => p = false -> ∀ j, j < r.2.1.length -> Un r (fun k => t.getD k g0) b j
    | .inr _ => False) ⟨rfl, fun _ j hj => by omega⟩ ?_).mono ?_
   ·rintro k ⟨lim, kk⟩ hk ⟨h1, h2⟩;simp only at h1 h2;subst h1;by_cases hlt2 : k < r.2.1.length
    ·have e2 : decide ((k : Int) < (r.2.1.length : Int)) = true := decide_eq_true (by omega);have i1 : idx (S (i + 1)) (k : Int) = some (qv8 r (fun k => t.getD k g0) b k) := by rw [ea]; exact qaj (qax _ hlt2)
     have i2 : idx (S i) (k : Int) = some (b k) := by rw [eb]; exact qaj (qax _ hlt2)
     simp only [e2, cond_true, i1, i2, qa];rw [qCi (aB' k hlt2) (hCi.dB k hlt2) (by omega), qa];have e3 : qgu (qv8 r (fun k => t.getD k g0) b k) (b k) = qkj r (fun k => t.getD k g0) b k := qCw _ _;rw [e3];have w1 : qa6 (qkj r (fun k => t.getD k g0) b k).1 (w64 (0 - r.2.2.2.2.1)) r.2.2.2.2.1 = some true := quM hst _;have w2 : qa6 (qkj r (fun k => t.getD k g0) b k).2.1 (w64 (0 - r.2.2.2.2.1)) r.2.2.2.2.1 = some true := quM hst _;have cb := qEO hst (fun k => t.getD k g0) b k;unfold Bd at cb;have z1 : qbk (qkj r (fun k => t.getD k g0) b k).1 = some ((qkj r (fun k => t.getD k g0) b k).1.natAbs : Int) := qpJ (by omega);have z2 : qbk (qkj r (fun k => t.getD k g0) b k).2.1 = some ((qkj r (fun k => t.getD k g0) b k).2.1.natAbs : Int) := qpJ (by omega);simp only [w1, w2, z1, z2, qa, Bool.not_true, cond_false];cases lim with
     | true =>
      simp only [cond_true, qa];rw [wid (by omega) (by omega), qM];exact ⟨hlt2, by simp, fun h => by cases h⟩
     | false =>
      rw [cond_false];by_cases c1 : ((qkj r (fun k => t.getD k g0) b k).1.natAbs : Int) = r.2.2.2.2.1
      ·rw [decide_eq_true c1, cond_true, qa, wid (by omega) (by omega), qM];exact ⟨hlt2, by simp, fun h => by cases h⟩
      ·rw [decide_eq_false c1, cond_false, qa, wid (by omega) (by omega), qM];refine ⟨hlt2, by simp, fun h j hj => ?_⟩;by_cases c2 : j = k
       ·subst c2; exact ⟨c1, of_decide_eq_false h⟩
       ·exact h2 rfl j (by omega)
    ·have : k = r.2.1.length := by omega
     subst this;have e2 : decide ((r.2.1.length : Int) < (r.2.1.length : Int)) = false := by simp
     simp only [e2, cond_false];rw [qW];exact h2
   ·rintro (p | q) hq
    case inr => exact hq.elim
    simp only at hq ⊢;rcases hx10 with ⟨z, zc, zs⟩ | z
    case inr =>
     rw [z, decide_eq_false (show ¬ (8 : Int) = 0 by omega), cond_false, qa, cond_false, qa];simp only [Sum.elim_inl, f1, qa];rw [wid (by omega) (by omega), qM];exact ⟨hlt, rfl⟩
    rw [z, decide_eq_true (show (0 : Int) = 0 from rfl), cond_true, qa];cases p with
    | true =>
     rw [Bool.not_true, cond_false, qa];simp only [Sum.elim_inl, f1, qa];rw [wid (by omega) (by omega), qM];exact ⟨hlt, rfl⟩
    | false =>
     rw [Bool.not_false, cond_true];have l1 := qAt (r := r) hC.pm hC.pB hCi.dB hCi.tB hn1 hn3;have l2 := qAt (r := r) hC.pm hC.pB aB' hCi.tB hn1 hn3;rw [<- et, <- eb] at l1;rw [<- et, <- ea] at l2;have b1 : ∀ k, k < r.2.1.length -> Bd 1210000 (qcc r.2.1.length (ent r.1) (fun k => t.getD k g0) b k) := fun k hk => qts hC.pB hCi.dB hCi.tB hn3 hk;have b2 : ∀ k, k < r.2.1.length -> Bd 1210000 (qcc r.2.1.length (ent r.1) (fun k => t.getD k g0) (qv8 r (fun k => t.getD k g0) b) k) := fun k hk => qts hC.pB aB' hCi.tB hn3 hk;rw [l1, qa, qB2 (by omega) (by omega) (by omega) b1, qa, l2, qa, qB2 (by omega) (by omega) (by omega) b2, qa, zc];have hq1 := qEG hB;obtain ⟨q1, q2, q3⟩ := qC8 hmE;have k1 := qAA (by omega) b1;have k2 := qAA (by omega) b2;have hc := hB.qB;have hfin := qzL hq1.1 (shrink (t := fun k => t.getD k g0) (d := b) (by omega) hst.1 (hq rfl));rw [hl] at q1 q2 q3;have hcmp := qx1 (c := con r) hq1.2.2.1 zs.2 zs.1 (by omega) (by omega) (by omega) hfin;rw [decide_eq_false (show ¬ (con r).2.1 < 1 by omega), cond_false, q1, hcmp, qa, cond_false, qa];simp only [Sum.elim_inl, f1, qa];rw [wid (by omega) (by omega), qM];exact ⟨hlt, rfl⟩
  ·have : i = 3 := by omega
   subst this;have e1 : decide (((3 : Nat) : Int) < ([s1, s2, s3].length : Int)) = false := by simp
   simp only [e1, cond_false];rw [qW];trivial
 ·rintro (p | q) hq
  ·exact qH.2 rfl
  ·exact hq.elim
end Go.Proofs.YtbcdgfgacigaoaaGreat.Mat
namespace Go.Proofs.YtbcdgfgacigaoaaGreat
open Go Go.Ab Go.Tx
theorem qhR : ∀ x : denP ([Ty.pair (.sl (.sl (.pair I (.pair I .unit)))) (.pair (.sl (.sl (.pair I (.pair I .unit)))) (.pair I (.pair I (.pair I .unit)))), .sl (.pair I (.pair I .unit)), .sl (.pair I (.pair I .unit))].map .ty), qGk maxLen [.pair (.sl (.sl (.pair I (.pair I .unit)))) (.pair (.sl (.sl (.pair I (.pair I .unit)))) (.pair I (.pair I (.pair I .unit)))), .sl (.pair I (.pair I .unit)), .sl (.pair I (.pair I .unit))] x -> qbD.F x = some true := by
 intro ⟨a0, a1, a2⟩ hr;exact Mat.qpp a0 a1 a2 hr.1.2.2.2.1.2
end Go.Proofs.YtbcdgfgacigaoaaGreat
end
section
namespace Go.Proofs.YtbcdgfgacigaoaaGreat.driveShrinks
open Go Go.Ab Go.Tx Go.ChangeShapes Go.WideShapes Go.ChangeAt Go.RowKit
theorem hlib : ∀ g h args r, Lb g = some h -> h args = some r -> qdK Tryz.prog g args [] r [] := fun g h args r hg hr => by
 unfold Lb at hg;split at hg
 ·rename_i e;subst e;cases hg;cases args with
  | nil => cases hr; exact qDo
  | cons a l => cases hr
 ·cases hg
set_option maxRecDepth 100000 in
theorem contract (H : Type) (enc : TypeId × Value -> H) (W : World) (base : Nat) (args : Array Value) (ds gs : List (DataW H)) (before : List MemPlace)
  (hval : ∀ (j : Nat) t v, Tryz.f7.params[j]? = some t -> args[j]? = some v -> Value.okWide Tryz.prog W .any base t v)
  (hW : DataW.Whole enc Tryz.prog Tryz.f7.params.toList Rows.driveShrinksSpec.vars false W args.toList ds gs before) :
  Calls Tryz.prog 7 args W fun e W' => ∃ v, e = .returned v /\ Rows.driveShrinksSpec.post enc Tryz.prog Tryz.f7 false true false false W args v W' :=
 qvd (τs := [(.pair (.sl (.sl (.pair I (.pair I .unit)))) (.pair (.sl (.sl (.pair I (.pair I .unit)))) (.pair I (.pair I (.pair I .unit))))), (.sl (.pair I (.pair I .unit))), (.sl (.pair I (.pair I .unit)))]) (ts := [38, 39, 39]) (tb := 4) (F := qbD.F) follows qdW hlib qDI Tryz.func7 (by kernel_rfl) (by kernel_rfl) (by kernel_rfl) (by kernel_rfl) (by kernel_rfl) (by kernel_rfl) Tryz.underlying4 qkl qhR rfl
  (fun H ds h => by
   match ds, h with
   | [d1, d2, d3], _ => rfl) H enc W base args ds gs before hval hW
set_option maxRecDepth 100000 in
theorem lifted (os : Os) (started : os.Started) (H : Type) (enc : TypeId × Value -> H) :
  ReturnsInHanded {} Tryz.checked os 7 .any (Rows.driveShrinksSpec.pre6 enc Tryz.prog Tryz.f7 Rows.driveShrinksRow.domain false) (Rows.driveShrinksSpec.post enc Tryz.prog Tryz.f7 false true false false) := by
 refine returnsInHanded_of_change (C := Tryz.checked) own started (by kernel_rfl) Tryz.func7
  (ChangeSpec.witness6 (enc := enc) (C := Tryz.checked) false ⟨#[], #[.agg #[.slice none 0 0, .slice none 0 0, .int .i64 0, .int .i64 0, .int .i64 0], .slice none 0 0, .slice none 0 0], []⟩ 8 (by kernel_rfl) (by kernel_rfl) (by kernel_rfl) (by kernel_rfl)) ?_
 intro W base args ds gs before hval hW _ _;exact contract H enc W base args ds gs before hval hW
theorem proved : Rows.DriveShrinksSaid :=
 OpenClaim.holds_of_wide 7 Tryz.f7 rfl rfl rfl rfl rfl rfl rfl ⟨rfl, rfl, rfl, rfl, rfl⟩ rfl rfl rfl rfl rfl (by kernel_rfl) Tryz.func7 (by kernel_rfl)
  (of_decide_eq_true (by kernel_rfl)) (by unfold Func.isWrapper; first | (rw [if_pos (by decide +kernel)]; kernel_rfl) | (rw [if_neg (by decide +kernel)]; exact ⟨rfl, rfl⟩))
  (fun os started H enc _ => lifted os started H enc)
end Go.Proofs.YtbcdgfgacigaoaaGreat.driveShrinks
end
