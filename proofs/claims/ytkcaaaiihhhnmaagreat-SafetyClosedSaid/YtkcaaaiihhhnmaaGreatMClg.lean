/-
  ONE LAW OF A CHAPTER: its program side is run by an interpreter that is proved sound; what it computes is shown to be what the law says. No conditions. Part 7 of 7.
-/
import Derived.Test.YtkcaaaiihhhnmaaGreatMClf
set_option linter.unusedSimpArgs false
set_option linter.unusedVariables false
set_option linter.unnecessarySimpa false
section
namespace Go.Proofs.YtkcaaaiihhhnmaaGreat
open Go Go.Ab Go.Tx
theorem qy2 (a b : Int) : cmp_Less_int a b = some (decide (a < b)) := by
 unfold cmp_Less_int cmp_isNaN_int;simp
theorem qyQ {n : Nat} (h : n < 1000000) : qq8 .u64 (n : Int) 1 = some ((n / 2 : Nat) : Int) := by
 unfold qq8;rw [if_pos (by omega)];have e : min (1 : Int).toNat (IntKind.bits .u64) = 1 := by
  show min 1 64 = 1;rfl
 rw [e, show ((2 : Int) ^ 1) = 2 from rfl, Int.fdiv_eq_ediv_of_nonneg _ (by omega)]
 norm_cast
theorem wrap_u64 {n : Int} (h0 : 0 <= n) (h : n < 1000000) : IntKind.wrap .u64 n = n := by
 show n % (2 ^ 64 : Int) = n;omega
def asc (l : List Int) : Prop := ∀ (i j : Nat) a b, i < j -> l[i]? = some a -> l[j]? = some b -> a < b
theorem qq2 {l : List Int} (hs : asc l) (hl : l.length <= 1000) (t : Int) : ∃ p, qO l t = some (p, decide (t ∈ l)) := by
 unfold qO;have k1 : Ok (qU (fun (s2 : (Int × Int)) =>
   bif decide (s2.1 < s2.2) then
    (qq8 .u64 (IntKind.wrap .u64 (w64 (s2.1 + s2.2))) (1 : Int)).bind fun x3 =>
    (idx l (w64 (x3))).bind fun x4 =>
    (cmp_Less_int x4 t).bind fun x5 =>
    (bif x5 then
      some (w64 ((w64 (x3)) + 1), s2.2)
     else
      some (s2.1, w64 (x3))).bind fun (p6 : (Int × Int)) =>
    some (.inl (p6.1, p6.2))
   else
    some (.inr s2.1)) (0, (l.length : Int))) (fun r : Int => ∃ n : Nat, r = (n : Int) /\ n <= l.length /\ (∀ k a, k < n -> l[k]? = some a -> a < t) /\ ∀ k a, n <= k -> l[k]? = some a -> t <= a) := by
  refine qy0 (fun s : Int × Int => (s.2 - s.1).toNat) (fun s : Int × Int => ∃ i j : Nat, s = ((i : Int), (j : Int)) /\ i <= j /\ j <= l.length /\ (∀ k a, k < i -> l[k]? = some a -> a < t) /\ ∀ k a, j <= k -> l[k]? = some a -> t <= a) _ ⟨0, l.length, rfl, by omega, by omega, by omega, fun k a hk ha => by have := qaE ha; omega⟩ ?_;rintro s ⟨i, j, rfl, h1, h2, h3, h4⟩;by_cases hlt : i < j
  ·have h0 : decide ((i : Int) < (j : Int)) = true := by simp <;> omega
   simp only [h0, cond_true];rw [wq (n := (i : Int) + (j : Int)) (by omega) (by omega), wrap_u64 (by omega) (by omega), show (i : Int) + (j : Int) = ((i + j : Nat) : Int) by omega, qyQ (by omega)];simp only [qa];rw [wq (n := (((i + j) / 2 : Nat) : Int)) (by omega) (by omega)];obtain ⟨a, ha⟩ : ∃ a, l[(i + j) / 2]? = some a := ⟨_, List.getElem?_eq_getElem (by omega)⟩
   rw [qaf ha];simp only [qa, qy2];rw [wq (n := (((i + j) / 2 : Nat) : Int) + 1) (by omega) (by omega)];by_cases c : a < t
   ·simp only [c, decide_true, cond_true, qa];rw [qeA];refine ⟨⟨(i + j) / 2 + 1, j, by simp, by omega, h2, fun k b hk hb => ?_, h4⟩, by simp only; omega⟩;by_cases e : k = (i + j) / 2
    ·subst e; rw [ha] at hb; cases hb; exact c
    ·have := hs k _ b a (by omega) hb ha; omega
   ·simp only [c, decide_false, cond_false, qa];rw [qeA];refine ⟨⟨i, (i + j) / 2, rfl, by omega, by omega, h3, fun k b hk hb => ?_⟩, by simp only; omega⟩;by_cases e : k = (i + j) / 2
    ·subst e; rw [ha] at hb; cases hb; omega
    ·have := hs _ k a b (by omega) ha hb; omega
  ·have h0 : decide ((i : Int) < (j : Int)) = false := by simp <;> omega
   simp only [h0, cond_false];rw [qdC];exact ⟨i, rfl, by omega, h3, fun k a hk ha => h4 k a (by omega) ha⟩
 obtain ⟨r, e1, n, rfl, hn, h3, h4⟩ := k1;rw [e1];simp only [qa];by_cases hlt : n < l.length
 ·have h0 : decide ((n : Int) < (l.length : Int)) = true := by simp <;> omega
  obtain ⟨a, ha⟩ : ∃ a, l[n]? = some a := ⟨_, List.getElem?_eq_getElem hlt⟩
  simp only [h0, cond_true, qaf ha, qa];by_cases c : a = t
  ·subst c;have : a ∈ l := List.mem_of_getElem? ha;exact ⟨n, by simp [this]⟩
  ·have : t ∉ l := fun hm => by
    obtain ⟨k, hk⟩ := List.mem_iff_getElem?.1 hm;by_cases e : k < n
    ·have := h3 k t e hk; omega
    ·by_cases e2 : k = n
     ·subst e2; rw [ha] at hk; cases hk; exact c rfl
     ·have h5 := h4 n a (by omega) ha;have := hs n k a t (by omega) ha hk; omega
   exact ⟨n, by simp [c, this, qcc]⟩
 ·have h0 : decide ((n : Int) < (l.length : Int)) = false := by simp <;> omega
  have : t ∉ l := fun hm => by
   obtain ⟨k, hk⟩ := List.mem_iff_getElem?.1 hm;have := h3 k t (by have := qaE hk; omega) hk; omega
  exact ⟨n, by simp only [h0, cond_false, qa, this, decide_false]⟩
def qvn (m : Mc) (s : Nat) : Bool := m.2.2.1.any fun t => hold t s
theorem qv4 {m : Mc} (hv : VM m) {n : Nat} (hn : n < 256) : qay (bm m) (n : Int) = some (qvn m n) := by
 unfold qay;have h4 := hv.h4;have h8 := hv.f8;have key := qvY (m.2.2.1.map bt) (fun x => qar x (n : Int)) (fun x => decide (∃ t ∈ m.2.2.1, bt t = x /\ hold t n = true)) (fun x hx => by
  obtain ⟨t, ht, rfl⟩ := List.mem_map.1 hx;rw [qlc ((hv.ht t ht).ok h8) hn];congr 1
  rw [Bool.eq_iff_iff, decide_eq_true_iff];constructor
  ·intro h; exact ⟨t, ht, rfl, h⟩
  ·rintro ⟨t2, ht2, e, h⟩;have a1 := qlc ((hv.ht t ht).ok h8) hn;have a2 := qlc ((hv.ht t2 ht2).ok h8) hn;rw [e, a1] at a2;rw [Option.some.inj a2]; exact h) (by simp; omega)
 refine key.trans ?_;congr 1
 unfold qvn;rw [Bool.eq_iff_iff, List.any_eq_true, List.any_eq_true];constructor
 ·rintro ⟨x, hx, h⟩;obtain ⟨t, ht, _, h⟩ := of_decide_eq_true h;exact ⟨t, ht, h⟩
 ·rintro ⟨t, ht, h⟩;exact ⟨bt t, List.mem_map.2 ⟨t, ht, rfl⟩, decide_eq_true ⟨t, ht, rfl, h⟩⟩
theorem qu2 {m : Mc} (hv : VM m) {n : Nat} (hn : n < 256) : qeR m (n : Int) = some (qvn m n) := by
 unfold qeR;have h4 := hv.h4;have h8 := hv.f8;rw [qg6 m.2.2.1.length _ (fun j => ∃ t, m.2.2.1[j]? = some t /\ hold t n = true) true (qvn m n = true) (by
  unfold qvn;rw [List.any_eq_true];constructor
  ·rintro ⟨t, ht, h⟩;obtain ⟨j, hj⟩ := List.mem_iff_getElem?.1 ht;exact ⟨j, qaE hj, t, hj, h⟩
  ·rintro ⟨j, _, t, hj, h⟩;exact ⟨t, List.mem_of_getElem? hj, h⟩) (fun i hi => by
  obtain ⟨t, ht⟩ : ∃ t, m.2.2.1[i]? = some t := ⟨_, List.getElem?_eq_getElem hi⟩
  rw [qaf ht];simp only [qa];rw [qtl ((hv.ht t (List.mem_of_getElem? ht)).ok h8) hn];simp only [qa];by_cases c : hold t n = true
  ·simp [c, ht]
  ·have c' : hold t n = false := by simpa using c
   simp only [c', cond_false, ht, qb, exists_eq_left', qf, if_false];rw [wq (by omega) (by omega)])]
 by_cases c : qvn m n = true
 ·simp [c]
 ·simp [c]
def seE (p : Int) (l : List Int) (i : Nat) (n : Int) : Int := if 0 <= n /\ n <= p - 1 then (if 0 < i /\ n <= l.getD (i - 1) 0 then 9 else 0) else 2
def opens (m : Mc) (l : List Int) (n : Nat) : Prop := ∃ a ∈ m.2.1, hold (qcS a) n = true /\ (((qsk (dos a) n : Nat) : Int) ∉ l)
instance (m : Mc) (l : List Int) (n : Nat) : Decidable (opens m l n) := by unfold opens; infer_instance
def clE (m : Mc) (l : List Int) (_ : Nat) (n : Int) : Int := if qvn m n.toNat = true then 22 else if opens m l n.toNat then 21 else 0
def qpd (m : Mc) (s : Int) (l : List Int) : Int × Int :=
 if (qaJ (seE ((2 ^ m.1.length : Nat) : Int) l) 0 l).2 = 0 then (if s ∈ l then qaJ (clE m l) 0 l else (0, 6)) else qaJ (seE ((2 ^ m.1.length : Nat) : Int) l) 0 l
theorem qzI {m : Mc} (hv : VM m) {l : List Int} (h : (qaJ (seE ((2 ^ m.1.length : Nat) : Int) l) 0 l).2 = 0) : asc l /\ ∀ x ∈ l, ∃ n : Nat, x = (n : Int) /\ n < 256 /\ n < 2 ^ m.1.length := by
 obtain ⟨p1, p2⟩ := qkh hv;generalize 2 ^ m.1.length = p at p1 p2 h ⊢;have h1 := qd0.1 h;have hstep : ∀ (i : Nat) a b, l[i]? = some a -> l[i + 1]? = some b -> a < b := fun i a b ha hb => by
  have := h1 (i + 1) b hb;unfold seE at this;split at this
  ·simp only [Nat.zero_add] at this;rw [show i + 1 - 1 = i from rfl, qaT ha] at this;split at this
   ·omega
   ·rename_i hn; simp only [Nat.zero_lt_succ, true_and] at hn; omega
  ·omega
 constructor
 ·intro i j a b hij ha hb;obtain ⟨d, rfl⟩ : ∃ d, j = i + 1 + d := ⟨j - (i + 1), by omega⟩
  clear hij;induction d generalizing b with
  | zero => exact hstep i a b ha hb
  | succ d ih =>
   have hlt := qaE hb;obtain ⟨c, hc⟩ : ∃ c, l[i + 1 + d]? = some c := ⟨_, List.getElem?_eq_getElem (by omega)⟩
   have := ih c hc;have := hstep _ c b hc hb;omega
 ·intro x hx;obtain ⟨i, hi⟩ := List.mem_iff_getElem?.1 hx;have := h1 i x hi;unfold seE at this;split at this
  ·exact ⟨x.toNat, by omega, by omega, by omega⟩
  ·omega
theorem qna {m : Mc} (hb : MB m) (s : Int) (l : List Int) (hl : l.length <= 1000) : qbq m s l = some (if stE m s = 0 then qpd m s l else (0, stE m s)) := by
 unfold qbq;rw [qqD hb];simp only [qa];by_cases h : stE m s = 0
 ·obtain ⟨hv, _, ho, n, rfl, hn, hn2⟩ := qx5 hb h;have h8 := hv.f8; have h10 := hv.a10;obtain ⟨p1, p2⟩ := qkh hv;simp only [h, decide_true, Bool.not_true, cond_false, if_true, ho];unfold qpd;have hbm : (bm m).2.2.2.1 = ((2 ^ m.1.length : Nat) : Int) := rfl;rw [hbm];obtain ⟨r1, e1, q1⟩ := qpb l (seE ((2 ^ m.1.length : Nat) : Int) l) (fun i (p : Int) => p = if i = 0 then -1 else l.getD (i - 1) 0) (fun (s2 : Int × Int) => (idx l s2.1).bind fun x4 =>
      (qn x4 (0 : Int) (w64 (((2 ^ m.1.length : Nat) : Int) - 1))).bind fun x5 =>
      (qm x5 (2 : Int)).bind fun x6 =>
      (qm (decide (x4 > s2.2)) (9 : Int)).bind fun x7 =>
      (qx ([x6, x7])).bind fun x8 =>
      bif !(decide (x8 = 0)) then
       some (.inr (.inr (s2.1, x8, x4)))
      else
       some (.inl (w64 (s2.1 + 1), x4))) (-1) rfl (by
   rintro i a p ha rfl;have hlt := qaE ha;refine ⟨a, by simp [ha], ?_⟩;generalize 2 ^ m.1.length = q at p1 p2 ⊢;rw [wq (by omega) (by omega), qaf ha];simp only [qa, wit, unl];rw [qyh _ (by simp)];simp only [qa];rw [wq (by omega) (by omega)];unfold seE;by_cases c1 : 0 <= a /\ a <= (q : Int) - 1
   ·by_cases c2 : i = 0
    ·subst c2;have c3 : a > -1 := by omega
     simp [c1, c3, qiz]
    ·have c4 : 0 < i := by omega
     by_cases c3 : a <= l.getD (i - 1) 0
     ·have c3' : ¬ a > l.getD (i - 1) 0 := by omega
      simp only [c1, c2, c3, c3', c4, and_self, decide_true, decide_false, if_true, if_false, qf, qiz];rfl
     ·have c3' : a > l.getD (i - 1) 0 := by omega
      simp only [c1, c2, c3, c3', c4, and_self, and_false, decide_true, decide_false, if_true, if_false, qf, qiz];rfl
   ·simp only [c1, decide_false, if_false, qf, qiz];rfl)
  rw [e1];simp only [qa];by_cases E1 : (qaJ (seE ((2 ^ m.1.length : Nat) : Int) l) 0 l).2 = 0
  ·have E1' : r1.2.1 = 0 := by rw [<- q1] at E1; exact E1
   obtain ⟨hasc, hel⟩ := qzI hv E1;rw [if_pos E1];simp only [E1', decide_true, Bool.not_true, cond_false];obtain ⟨p, hp⟩ := qq2 hasc hl (n : Int);rw [hp];simp only [qa];by_cases hm : (n : Int) ∈ l
   ·simp only [hm, decide_true, Bool.not_true, cond_false, if_true];have e3 := qso l (fun _ x14 => (qay (bm m) x14).bind fun x15 =>
         bif x15 then
          some 22
         else
          (qU (fun (s17 : Int) =>
            bif decide (s17 < ((bm m).1.length : Int)) then
             ((idx (bm m).1 s17).bind fun x18 =>
              (qq8 .i64 (0 : Int) s17).bind fun x19 =>
              bif decide (qra .i64 x19 (1 : Int) = 0) then
               (qar x18 x14).bind fun x20 =>
               bif x20 then
                (idx (bm m).2.1 s17).bind fun x21 =>
                (qbj x21 x14).bind fun x22 =>
                (qO l x22).bind fun x23 =>
                bif !x23.2 then
                 some (.inr (.inr (.inr 21)))
                else
                 some (.inl ())
               else
                some (.inl ())
              else
               some (.inl ())).bind (Sum.elim (fun (p24 : Unit) =>
             some (.inl (w64 (s17 + 1)))) some)
            else
             some (.inr (.inl ()))) 0).bind (Sum.elim (fun (p25 : Unit) =>
          some 0) some)) (clE m l) (fun i a ha => by
     obtain ⟨k, rfl, hk, _⟩ := hel a (List.mem_of_getElem? ha);rw [qv4 hv hk];simp only [qa];unfold clE;rw [Int.toNat_natCast];by_cases c : qvn m k = true
     ·simp [c]
     ·have c' : qvn m k = false := by simpa using c
      simp only [c', cond_false, qf, if_false];rw [show ((bm m).1.length : Int) = ((m.2.1.length : Nat) : Int) by simp [bm]];rw [qg6 m.2.1.length _ (fun j => ∃ a, m.2.1[j]? = some a /\ hold (qcS a) k = true /\ (((qsk (dos a) k : Nat) : Int) ∉ l)) (21 : Int) (opens m l k) (by
       unfold opens;constructor
       ·rintro ⟨t, ht, h⟩;obtain ⟨j, hj⟩ := List.mem_iff_getElem?.1 ht;exact ⟨j, qaE hj, t, hj, h⟩
       ·rintro ⟨j, _, t, hj, h⟩;exact ⟨t, List.mem_of_getElem? hj, h⟩) (fun i hi => by
       obtain ⟨a, ha⟩ : ∃ a, m.2.1[i]? = some a := ⟨_, List.getElem?_eq_getElem hi⟩
       have hm := List.mem_of_getElem? ha;have i1 : (bm m).1[i]? = some (bt (qcS a)) := by simp [bm, ha]
       have i2 : (bm m).2.1[i]? = some (bt (dos a)) := by simp [bm, ha]
       rw [qaf i1, qaf i2, qxR (by omega)];simp only [qa];rw [and_zero, qlc ((hv.nd a hm).ok h8) hk, qyD ((hv.ds a hm).ok h8) hk];simp only [decide_true, cond_true, qa];by_cases d : hold (qcS a) k = true
       ·obtain ⟨p, hp⟩ := qq2 hasc hl ((qsk (dos a) k : Nat) : Int);simp only [d, cond_true, hp, qa, ha, qb, exists_eq_left', true_and];by_cases d2 : ((qsk (dos a) k : Nat) : Int) ∈ l
        ·simp only [d2, decide_true, Bool.not_true, cond_false, qa, Sum.elim_inl, not_true, if_false]; rw [wq (by omega) (by omega)]
        ·simp [d2]
       ·have d' : hold (qcS a) k = false := by simpa using d
        simp only [d', cond_false, qa, Sum.elim_inl, ha, qb, exists_eq_left', qf, false_and, if_false];rw [wq (by omega) (by omega)])]
      by_cases d : opens m l k
      ·simp [d]
      ·simp [d]) (by omega)
    rw [e3];rfl
   ·simp [hm]
  ·have E1' : r1.2.1 ≠ 0 := by rw [<- q1] at E1; exact E1
   rw [if_neg E1];simp only [E1', decide_false, Bool.not_false, cond_true];rw [q1]
 ·simp [h]
theorem qmu {m : Mc} (hb : MB m) {s : Int} (h : stE m s = 0) (l : List Int) (hl : l.length <= 1000) : qbK m s l = some (qpd m s l) := by
 obtain ⟨hv, _, ho, n, rfl, hn, hn2⟩ := qx5 hb h;have h8 := hv.f8; have h10 := hv.a10;obtain ⟨p1, p2⟩ := qkh hv;unfold qbK qpd;rw [qaH l _ (fun i a => if seE ((2 ^ m.1.length : Nat) : Int) l i a = 0 then none else some ((i : Int), seE ((2 ^ m.1.length : Nat) : Int) l i a)) (fun i a hi => by
  have hlt := qaE hi;rw [qaf hi];simp only [qa];have hst : qbF m a = some (decide (0 <= a /\ a <= ((2 ^ m.1.length : Nat) : Int) - 1)) := by
   unfold qbF;rw [qhu (by omega) (by omega)];simp only [qa, Int.toNat_natCast, Wit];generalize 2 ^ m.1.length = p at p1 p2 ⊢;rw [wq (by omega) (by omega)]
  rw [hst];simp only [qa];generalize 2 ^ m.1.length = p at p1 p2 ⊢;unfold seE;by_cases c1 : 0 <= a /\ a <= (p : Int) - 1
  ·by_cases c2 : 0 < i
   ·have c2' : (i : Int) > 0 := by omega
    have e1 : ((i : Int) - 1) = ((i - 1 : Nat) : Int) := by omega
    obtain ⟨b, hb⟩ : ∃ b, l[i - 1]? = some b := ⟨_, List.getElem?_eq_getElem (by omega)⟩
    rw [wq (n := (i : Int) - 1) (by omega) (by omega), e1, qaf hb, qaT hb];by_cases c3 : a <= b
    ·simp [c1, c2, c2', c3, stp]
    ·simp only [c1, c2, c2', c3, and_self, and_false, decide_true, decide_false, Bool.not_true, cond_false, cond_true, qa, if_true, if_false, stp];rw [wq (by omega) (by omega)]
   ·have c2' : ¬ (i : Int) > 0 := by omega
    simp only [c1, c2, c2', and_self, false_and, decide_true, decide_false, Bool.not_true, cond_false, cond_true, qa, if_true, if_false, stp];rw [wq (by omega) (by omega)]
  ·simp [c1, stp]), q7]
 have f1 := qcW (seE ((2 ^ m.1.length : Nat) : Int) l) l 0;cases hf1 : qbl (fun i a => if seE ((2 ^ m.1.length : Nat) : Int) l i a = 0 then none else some ((i : Int), seE ((2 ^ m.1.length : Nat) : Int) l i a)) 0 l with
 | some r =>
  rw [hf1] at f1;simp only at f1;have hr : r.2 ≠ 0 := by
   obtain ⟨i, a, _, h2, _⟩ := qaC hf1;split at h2
   ·cases h2
   ·rename_i h; cases h2; exact h
  simp only
  rw [f1, if_neg (by rw [<- Option.some.inj f1]; exact hr)]
 | none =>
  rw [hf1] at f1;simp only at f1 ⊢;have E1 : (qaJ (seE ((2 ^ m.1.length : Nat) : Int) l) 0 l).2 = 0 := by rw [<- Option.some.inj f1]
  obtain ⟨hasc, hel⟩ := qzI hv E1;rw [if_pos E1, qvE _ _ (by omega)];simp only [qa];by_cases hm : (n : Int) ∈ l
  ·simp only [hm, decide_true, Bool.not_true, cond_false, if_true];rw [qaH l _ (fun i a => if clE m l i a = 0 then none else some ((i : Int), clE m l i a)) (fun i a hi => by
    have hlt := qaE hi;obtain ⟨k, rfl, hk, _⟩ := hel a (List.mem_of_getElem? hi);rw [qaf hi];simp only [qa];rw [qu2 hv hk];simp only [qa];unfold clE;rw [Int.toNat_natCast];by_cases c : qvn m k = true
    ·simp [c, stp]
    ·have c' : qvn m k = false := by simpa using c
     simp only [c', cond_false, qf, if_false];rw [qg6 m.2.1.length _ (fun j => ∃ a, m.2.1[j]? = some a /\ hold (qcS a) k = true /\ (((qsk (dos a) k : Nat) : Int) ∉ l)) (.inr (.inr ((i : Int), 21)) : Int ⊕ (Unit ⊕ (Int × Int))) (opens m l k) (by
      unfold opens;constructor
      ·rintro ⟨t, ht, h⟩;obtain ⟨j, hj⟩ := List.mem_iff_getElem?.1 ht;exact ⟨j, qaE hj, t, hj, h⟩
      ·rintro ⟨j, _, t, hj, h⟩;exact ⟨t, List.mem_of_getElem? hj, h⟩) (fun j hj => by
      obtain ⟨a, ha⟩ : ∃ a, m.2.1[j]? = some a := ⟨_, List.getElem?_eq_getElem hj⟩
      have hm := List.mem_of_getElem? ha;rw [qyM ha ((hv.nd a hm).ok h8) ((hv.ds a hm).ok h8) hk];simp only [qa, ha, qb, exists_eq_left'];by_cases d : hold (qcS a) k = true
      ·simp only [d, if_true, cond_true, true_and];rw [qvE _ _ (by omega)];simp only [qa];by_cases d2 : ((qsk (dos a) k : Nat) : Int) ∈ l
       ·simp only [d2, decide_true, Bool.not_true, cond_false, not_true, if_false]; rw [wq (by omega) (by omega)]
       ·simp [d2]
      ·simp only [d, if_false, cond_false, qa, qf, false_and];rw [wq (by omega) (by omega)])]
     by_cases d : opens m l k
     ·simp [d, stp]
     ·simp only [d, if_false, if_true, qa, Sum.elim_inl, stp]; rw [wq (by omega) (by omega)]), q7]
   rw [<- qcW (clE m l) l 0];cases qbl (fun i a => if clE m l i a = 0 then none else some ((i : Int), clE m l i a)) 0 l <;> rfl
  ·simp [hm]
theorem qkR (m : Mc) (s : Int) (l : List Int) : qcN m s l = some true := by
 unfold qcN qib;simp only [qa, Bool.not_true, cond_false];obtain ⟨b, e, hb⟩ := qzx m;rw [e];cases b with
 | false => simp
 | true =>
  have hb := hb rfl;simp only [qa, Bool.not_true, cond_false];by_cases hl : (l.length : Int) > 300
  ·simp [hl]
  ·simp only [hl, decide_false, cond_false, qyU hb, qa];rw [qh3 _ (by omega)];simp only [qa];rw [qna hb _ _ (by omega), qrE hb];simp only [qa];by_cases h : stE m s = 0
   ·rw [qmu hb h _ (by omega)];simp [h]
   ·simp [h]
theorem qfG (x : denP ([(.pair (.sl .str) (.pair (.sl (.pair .str (.pair (.sl I) (.pair (.sl I) (.pair (.sl I) (.pair (.sl I) .unit)))))) (.pair (.sl (.pair (.sl I) (.pair (.sl I) .unit))) .unit))), I, (.sl I)].map Pm.ty)) (hx : qzs maxLen [(.pair (.sl .str) (.pair (.sl (.pair .str (.pair (.sl I) (.pair (.sl I) (.pair (.sl I) (.pair (.sl I) .unit)))))) (.pair (.sl (.pair (.sl I) (.pair (.sl I) .unit))) .unit))), I, (.sl I)] x) : qaS.F x = some true :=
 qkR x.1 x.2.1 x.2.2
end Go.Proofs.YtkcaaaiihhhnmaaGreat
end
section
namespace Go.Proofs.YtkcaaaiihhhnmaaGreat.safetyClosed
open Go Go.Ab Go.Tx Go.ChangeShapes Go.WideShapes Go.ChangeAt Go.RowKit
theorem hlib : ∀ g h args r, Lb g = some h -> h args = some r -> qbP Tryz.prog g args [] r [] := fun g h args r hg hr => by
 unfold Lb at hg;split at hg
 ·rename_i e;subst e;cases hg;cases args with
  | nil => cases hr; exact qwY
  | cons a l => cases hr
 ·cases hg
set_option maxRecDepth 100000 in
theorem contract (H : Type) (enc : TypeId × Value -> H) (W : World) (base : Nat) (args : Array Value) (ds gs : List (DataW H)) (before : List MemPlace)
  (hval : ∀ (j : Nat) t v, Tryz.f11.params[j]? = some t -> args[j]? = some v -> Value.okWide Tryz.prog W .any base t v)
  (hW : DataW.Whole enc Tryz.prog Tryz.f11.params.toList Rows.safetyClosedSpec.vars false W args.toList ds gs before) :
  Calls Tryz.prog 11 args W fun e W' => ∃ v, e = .returned v /\ Rows.safetyClosedSpec.post enc Tryz.prog Tryz.f11 false true false false W args v W' :=
 qpR (τs := [(.pair (.sl .str) (.pair (.sl (.pair .str (.pair (.sl I) (.pair (.sl I) (.pair (.sl I) (.pair (.sl I) .unit)))))) (.pair (.sl (.pair (.sl I) (.pair (.sl I) .unit))) .unit))), I, (.sl I)]) (ts := [86, 3, 46]) (tb := 4) (F := qaS.F) follows qb2 hlib qxy Tryz.func11 (by kernel_rfl) (by kernel_rfl) (by kernel_rfl) (by kernel_rfl) (by kernel_rfl) (by kernel_rfl) Tryz.underlying4 qhD qfG rfl
  (fun H ds h => by
   match ds, h with
   | [d1, d2, d3], _ => rfl) H enc W base args ds gs before hval hW
set_option maxRecDepth 100000 in
theorem lifted (os : Os) (started : os.Started) (H : Type) (enc : TypeId × Value -> H) :
  ReturnsInHanded {} Tryz.checked os 11 .any (Rows.safetyClosedSpec.pre6 enc Tryz.prog Tryz.f11 Rows.safetyClosedRow.domain false) (Rows.safetyClosedSpec.post enc Tryz.prog Tryz.f11 false true false false) := by
 refine returnsInHanded_of_change (C := Tryz.checked) own started (by kernel_rfl) Tryz.func11
  (ChangeSpec.witness6 (enc := enc) (C := Tryz.checked) false ⟨#[], #[.agg #[.slice none 0 0, .slice none 0 0, .slice none 0 0], .int .i64 0, .slice none 0 0], []⟩ 8 (by kernel_rfl) (by kernel_rfl) (by kernel_rfl) (by kernel_rfl)) ?_
 intro W base args ds gs before hval hW _ _;exact contract H enc W base args ds gs before hval hW
theorem proved : Rows.SafetyClosedSaid :=
 OpenClaim.holds_of_wide 11 Tryz.f11 rfl rfl rfl rfl rfl rfl rfl ⟨rfl, rfl, rfl, rfl, rfl⟩ rfl rfl rfl rfl rfl (by kernel_rfl) Tryz.func11 (by kernel_rfl)
  (of_decide_eq_true (by kernel_rfl)) (by unfold Func.isWrapper; first | (rw [if_pos (by decide +kernel)]; kernel_rfl) | (rw [if_neg (by decide +kernel)]; exact ⟨rfl, rfl⟩))
  (fun os started H enc _ => lifted os started H enc)
end Go.Proofs.YtkcaaaiihhhnmaaGreat.safetyClosed
end
