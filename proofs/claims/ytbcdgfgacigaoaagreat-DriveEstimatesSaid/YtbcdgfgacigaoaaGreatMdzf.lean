/-
  ONE LAW OF A CHAPTER: its program side is run by an interpreter that is proved sound; what it computes is shown to be what the law says. No conditions. Part 6 of 7.
-/
import Derived.Test.YtbcdgfgacigaoaaGreatMdze
import Derived.Test.YtbcdgfgacigaoaaGreatProg
import Derived.KernelRfl
set_option linter.unusedSimpArgs false
set_option linter.unusedVariables false
set_option linter.unnecessarySimpa false
section
namespace Go.Tx
open Go
theorem qkO {n : Int} (h1 : -9223372036854775808 <= n) (h2 : n <= 9223372036854775807) : IntKind.wrap .i64 n = n := by
 rw [IntKind.wrap_i64]; omega
theorem qh3 {α : Type} (l : List α) : idx l 0 = l[0]? := by simp [idx]
theorem qam {α : Type} {l : List α} {i : Nat} {a : α} (h : l[i]? = some a) : idx l (i : Int) = some a := by simp [idx, h]
theorem quh {α : Type} {l l2 : List α} (h : l.length + l2.length <= 4294967296) : app l l2 = some (l ++ l2) := by simp [app, h]
section
variable {σ ρ : Type} {f : σ -> Option (σ ⊕ ρ)}
theorem qkI : ∀ {n m : Nat} {s : σ} {r : ρ}, qih f n s = some r -> n <= m -> qih f m s = some r
 | 0, m, s, r, h, _ => by simp [qih] at h
 | n + 1, 0, s, r, h, hm => by omega
 | n + 1, m + 1, s, r, h, hm => by
  simp only [qih] at h ⊢;cases hf : f s with
  | none => rw [hf] at h; cases h
  | some x =>
   rw [hf] at h;cases x with
   | inl s' => exact qkI h (by omega)
   | inr r' => exact h
theorem qpI {n : Nat} {s : σ} {r : ρ} (h : qih f n s = some r) : qp f s = some r := by
 have hex : ∃ n r, qih f n s = some r := ⟨n, r, h⟩
 cases hl : qp f s with
 | none => exfalso; unfold qp at hl; rw [dif_pos hex] at hl; cases hl
 | some r' =>
  obtain ⟨m, hm⟩ := qhR hl;have h1 := qkI h (Nat.le_max_left n m);have h2 := qkI hm (Nat.le_max_right n m);rw [<- h1, <- h2]
theorem qnA {s s' : σ} (h : f s = some (.inl s')) : qp f s = qp f s' := by
 cases hl : qp f s' with
 | some r =>
  obtain ⟨n, hn⟩ := qhR hl;exact qpI (n := n + 1) (by simp [qih, h, hn])
 | none =>
  cases hl2 : qp f s with
  | none => rfl
  | some r =>
   obtain ⟨n, hn⟩ := qhR hl2;cases n with
   | zero => simp [qih] at hn
   | succ n =>
    simp only [qih, h] at hn;rw [qpI hn] at hl;cases hl
theorem qeP {s : σ} {r : ρ} (h : f s = some (.inr r)) : qp f s = some r := qpI (n := 1) (by simp [qih, h])
theorem qzu (n : Nat) (I : Nat -> σ -> Prop) (Q : ρ -> Prop)
  (hs : ∀ i s, i <= n -> I i s -> (∃ s', f s = some (.inl s') /\ i < n /\ I (i + 1) s') \/ (∃ r, f s = some (.inr r) /\ Q r)) {s : σ} (h0 : I 0 s) : ∃ r, qp f s = some r /\ Q r := by
 have h : ∀ k i s, n - i = k -> i <= n -> I i s -> ∃ r, qp f s = some r /\ Q r := by
  intro k;induction k with
  | zero =>
   intro i s hk hi hI;rcases hs i s hi hI with ⟨s', _, h, _⟩ | ⟨r, h, hq⟩
   ·omega
   ·exact ⟨r, qeP h, hq⟩
  | succ k ih =>
   intro i s hk hi hI;rcases hs i s hi hI with ⟨s', h, hlt, hI'⟩ | ⟨r, h, hq⟩
   ·obtain ⟨r, hr, hq⟩ := ih (i + 1) s' (by omega) (by omega) hI';exact ⟨r, by rw [qnA h, hr], hq⟩
   ·exact ⟨r, qeP h, hq⟩
 exact h n 0 s (by omega) (by omega) h0
end
def qd4 {α ρ : Type} (g : Nat -> α -> Option ρ) : Nat -> List α -> Option ρ
 | _, [] => none
 | k, a :: l => match g k a with
  | some r => some r
  | none => qd4 g (k + 1) l
def qyr {ρ : Type} : Option ρ -> Unit ⊕ ρ
 | some r => .inr r
 | none => .inl ()
def stp {ρ : Type} (i : Nat) : Option ρ -> Int ⊕ (Unit ⊕ ρ)
 | some r => .inr (.inr r)
 | none => .inl ((i : Int) + 1)
theorem qxk {α ρ : Type} (l : List α) {f : Int -> Option (Int ⊕ (Unit ⊕ ρ))} (g : Nat -> α -> Option ρ)
  (h : ∀ (i : Nat) (a : α), l[i]? = some a -> f i = some (stp i (g i a)))
  (he : f l.length = some (.inr (.inl ()))) : qp f 0 = some (qyr (qd4 g 0 l)) := by
 have key : ∀ (l2 l1 : List α), l1 ++ l2 = l -> qp f (l1.length : Nat) = some (qyr (qd4 g l1.length l2)) := by
  intro l2;induction l2 with
  | nil =>
   intro l1 e;have : l1 = l := by simpa using e
   subst this;rw [qeP he]; rfl
  | cons a l2 ih =>
   intro l1 e;have hi : l[l1.length]? = some a := by rw [<- e]; simp
   have hf := h _ _ hi;simp only [qd4];cases hg : g l1.length a with
   | some r => rw [hg] at hf; rw [qeP hf]; rfl
   | none =>
    rw [hg] at hf;rw [qnA hf];have := ih (l1 ++ [a]) (by simp [e]);simpa using this
 simpa using key l [] rfl
end Go.Tx
end
section
namespace Go.Tx
open Go
def Ok {α : Type} (o : Option α) (Q : α -> Prop) : Prop := ∃ a, o = some a /\ Q a
section
variable {α β σ ρ τ : Type}
theorem qR {a : α} {Q : α -> Prop} : Ok (some a) Q ↔ Q a := ⟨fun ⟨_, h, hq⟩ => by cases h; exact hq, fun h => ⟨a, rfl, h⟩⟩
theorem ok_none {Q : α -> Prop} : Ok (none : Option α) Q ↔ False := ⟨fun ⟨_, h, _⟩ => (by cases h), fun h => h.elim⟩
theorem ok_eq {o : Option α} {a : α} : Ok o (fun r => r = a) ↔ o = some a := ⟨fun ⟨_, h, hq⟩ => by rw [h, hq], fun h => ⟨a, h, rfl⟩⟩
theorem Ok.eq {o : Option α} {a : α} (h : Ok o (fun r => r = a)) : o = some a := ok_eq.1 h
theorem Ok.mono {o : Option α} {P Q : α -> Prop} (h : Ok o P) (hq : ∀ a, P a -> Q a) : Ok o Q := by obtain ⟨a, h1, h2⟩ := h; exact ⟨a, h1, hq a h2⟩
theorem Ok.bind {o : Option α} {k : α -> Option β} {P : α -> Prop} {Q : β -> Prop} (h : Ok o P) (hk : ∀ a, P a -> Ok (k a) Q) : Ok (o.bind k) Q := by
 obtain ⟨a, h1, h2⟩ := h; rw [h1]; exact hk a h2
theorem qdC {o : Option α} {k : α -> Option β} {Q : β -> Prop} : Ok (o.bind k) Q ↔ Ok o fun a => Ok (k a) Q := by
 cases o with
 | none => simp [ok_none]
 | some a => simp [qR]
theorem qb7 {l : List α} {n : Int} (d : α) (h0 : 0 <= n) (h1 : n < l.length) : idx l n = some (l.getD n.toNat d) := by
 unfold idx;rw [if_pos h0];have : n.toNat < l.length := by omega
 simp [this]
theorem qzz {l l2 : List α} (h : l.length + l2.length <= 4294967296) : app l l2 = some (l ++ l2) := quh h
theorem qbd {l : List α} {a : α} (h : l.length <= 4294967295) : app l [a] = some (l ++ [a]) := quh (by simp; omega)
theorem qsx {l2 : List α} (h : l2.length <= 4294967296) : app [] l2 = some l2 := by rw [quh (by simpa using h)]; rfl
theorem qtZ {l : List α} {a b : Int} (h : 0 <= a /\ a <= b /\ b <= l.length) : slc l a b = some ((l.take b.toNat).drop a.toNat) := by unfold slc; rw [if_pos h]
theorem qzH {z : α} {n : Int} (h : 0 <= n /\ n <= 4294967296) : mkS z n = some (List.replicate n.toNat z) := by unfold mkS; rw [if_pos h]
def Rnd (o : Option (σ ⊕ ρ)) (I : σ -> Prop) (Q : ρ -> Prop) : Prop := Ok o fun x => match x with
 | .inl s => I s
 | .inr r => Q r
theorem qae {s : σ} {I : σ -> Prop} {Q : ρ -> Prop} : Rnd (some (.inl s)) I Q ↔ I s := qR
theorem q8 {r : ρ} {I : σ -> Prop} {Q : ρ -> Prop} : Rnd (some (.inr r) : Option (σ ⊕ ρ)) I Q ↔ Q r := qR
theorem qkc {o : Option α} {k : α -> Option (σ ⊕ ρ)} {I : σ -> Prop} {Q : ρ -> Prop} : Rnd (o.bind k) I Q ↔ Ok o fun a => Rnd (k a) I Q := qdC
theorem qav {f : σ -> Option (σ ⊕ ρ)} (n : Nat) (I : Nat -> σ -> Prop) (Q : ρ -> Prop) {s : σ} (h0 : I 0 s)
  (hs : ∀ i s, i <= n -> I i s -> Rnd (f s) (fun s' => i < n /\ I (i + 1) s') Q) : Ok (qp f s) Q := by
 obtain ⟨r, h1, h2⟩ := qzu n I Q (fun i s hi hI => by
  obtain ⟨x, hx, h⟩ := hs i s hi hI;cases x with
  | inl s' => exact .inl ⟨s', hx, h⟩
  | inr r => exact .inr ⟨r, hx, h⟩) h0
 exact ⟨r, h1, h2⟩
theorem qm0 {o : Option (α ⊕ β)} {k : α -> Option β} {Q : β -> Prop} : Ok (o.bind (Sum.elim k some)) Q ↔ Ok o fun x => match x with
  | .inl a => Ok (k a) Q
  | .inr b => Q b := by
 rw [qdC];cases o with
 | none => simp [ok_none]
 | some x => cases x <;> simp [qR]
end
theorem quF {α σ ρ : Type} {o : Option (α ⊕ (σ ⊕ ρ))} {k : α -> Option (σ ⊕ ρ)} {I : σ -> Prop} {Q : ρ -> Prop} : Rnd (o.bind (Sum.elim k some)) I Q ↔ Ok o fun x => match x with
  | .inl a => Rnd (k a) I Q
  | .inr b => match b with
   | .inl s => I s
   | .inr r => Q r := by
 cases o with
 | none => simp [Rnd, ok_none]
 | some x => cases x with
  | inl a => simp only [qa, Sum.elim_inl, qR]
  | inr b => simp only [qa, Sum.elim_inr, qR]; unfold Rnd; rw [qR]
theorem qfD {α : Type} {l : List α} {i : Nat} {a d : α} (h : l[i]? = some a) : l.getD i d = a := by simp [h]
theorem qbh {α : Type} {l : List α} {i : Nat} (d : α) (h : i < l.length) : l.take (i + 1) = l.take i ++ [l.getD i d] := by
 rw [List.take_add_one]; simp [h]
end Go.Tx
end
section
namespace Go.Tx
open Go
section
variable {α β ρ τ : Type}
theorem qhw {l : List α} {i : Nat} {a : α} (h : l[i]? = some a) : i < l.length := (List.getElem?_eq_some_iff.1 h).1
theorem qgk (l : List α) (K : Int -> Option (Int ⊕ (Unit ⊕ ρ))) (g : Nat -> α -> Option ρ) (h : ∀ (i : Nat) (a : α), l[i]? = some a -> K i = some (stp i (g i a))) :
  qp (fun s => bif decide (s < (l.length : Int)) then K s else some (.inr (.inl ()))) 0 = some (qyr (qd4 g 0 l)) := by
 refine qxk l g (fun i a hi => ?_) ?_
 ·have := qhw hi;have e : decide ((i : Int) < (l.length : Int)) = true := by simp <;> omega
  simp only [e, cond_true];exact h i a hi
 ·simp
theorem qdA {o : Option ρ} {k : Unit -> Option ρ} : (some (qyr o)).bind (Sum.elim k some) = (match o with
  | some r => some r
  | none => k ()) := by cases o <;> rfl
theorem qfP {g : Nat -> α -> Option ρ} : ∀ {l : List α} {k : Nat}, qd4 g k l = none ↔ ∀ i a, l[i]? = some a -> g (k + i) a = none
 | [], k => by simp [qd4]
 | a :: l, k => by
  simp only [qd4];cases hg : g k a with
  | some r =>
   simp only [reduceCtorEq, false_iff];intro h;have := h 0 a rfl;simp [hg] at this
  | none =>
   simp only
   rw [qfP (l := l) (k := k + 1)];constructor
   ·intro h i b hb;cases i with
    | zero => simp at hb; subst hb; simpa using hg
    | succ i => have := h i b (by simpa using hb); rw [<- this]; congr 1; omega
   ·intro h i b hb;have := h (i + 1) b (by simpa using hb);rw [<- this]; congr 1; omega
theorem qf1 {g : Nat -> α -> Option ρ} {r : ρ} : ∀ {l : List α} {k : Nat}, qd4 g k l = some r -> ∃ i a, l[i]? = some a /\ g (k + i) a = some r /\ ∀ j b, j < i -> l[j]? = some b -> g (k + j) b = none
 | [], k, h => by simp [qd4] at h
 | a :: l, k, h => by
  simp only [qd4] at h;cases hg : g k a with
  | some r' =>
   rw [hg] at h;simp only [qb] at h;subst h;exact ⟨0, a, rfl, by simpa using hg, fun j b hj => by omega⟩
  | none =>
   rw [hg] at h;obtain ⟨i, b, h1, h2, h3⟩ := qf1 (l := l) (k := k + 1) h;refine ⟨i + 1, b, by simpa using h1, by rw [<- h2]; congr 1; omega, fun j c hj hc => ?_⟩;cases j with
   | zero => simp at hc; subst hc; simpa using hg
   | succ j => have := h3 j c (by omega) (by simpa using hc); rw [<- this]; congr 1; omega
theorem qz0 (l : List α) (pf : α -> Option Bool) (p : α -> Bool) (h : ∀ x ∈ l, pf x = some (p x)) (hl : l.length <= 1000000000) :
  ((qp (fun (s2 : Int) =>
   bif decide (s2 < (l.length : Int)) then
    (idx l s2).bind fun x3 =>
    (pf x3).bind fun x4 =>
    bif x4 then
     some (.inr (.inr s2))
    else
     some (.inl (IntKind.wrap .i64 (s2 + 1)))
   else
    some (.inr (.inl ()))) 0).bind (Sum.elim (fun (p5 : Unit) =>
  some (-1)) some)).bind (fun x1 => some (decide (x1 >= 0))) = some (l.any p) := by
 rw [qgk l _ (fun i a => if p a then some (i : Int) else none) (fun i a hi => by
  have := qhw hi;rw [qam hi];simp only [qa];rw [h a (List.mem_of_getElem? hi)];simp only [qa];cases hp : p a
  ·simp only [cond_false, qf, if_false, stp]; rw [qkO (by omega) (by omega)]
  ·simp [stp]), qdA]
 cases hf : qd4 (fun i a => if p a then some (i : Int) else none) 0 l with
 | none =>
  rw [qfP] at hf;have : l.any p = false := by
   rw [List.any_eq_false];intro x hx;obtain ⟨i, hi⟩ := List.mem_iff_getElem?.1 hx;have := hf i x hi;simpa using this
  rw [this]; rfl
 | some r =>
  obtain ⟨i, a, h1, h2, _⟩ := qf1 hf;have hp : p a = true := by
   cases hp : p a
   ·simp [hp] at h2
   ·rfl
  have : l.any p = true := List.any_eq_true.2 ⟨a, List.mem_of_getElem? h1, hp⟩;rw [this];simp only [hp, if_true, qb] at h2;simp only [qa];have : decide (r >= 0) = true := by simp <;> omega
  rw [this]
def qyv : List Int -> Int
 | [] => 0
 | e :: l => if e = 0 then qyv l else e
theorem qoE : ∀ (l : List Int) (k : Nat), qd4 (fun _ e => if e = 0 then none else some e) k l = if qyv l = 0 then none else some (qyv l)
 | [], k => rfl
 | e :: l, k => by
  simp only [qd4, qyv];by_cases h : e = 0
  ·simp only [h, if_true]; exact qoE l (k + 1)
  ·simp [h]
theorem qwZ (l : List Int) (hl : l.length <= 1000000000) :
  (qp (fun (s2 : Int) =>
   bif decide (s2 < (l.length : Int)) then
    (idx l s2).bind fun x3 =>
    bif !(decide (x3 = 0)) then
     some (.inr (.inr x3))
    else
     some (.inl (IntKind.wrap .i64 (s2 + 1)))
   else
    some (.inr (.inl ()))) 0).bind (Sum.elim (fun (p4 : Unit) => some 0) some) = some (qyv l) := by
 rw [qgk l _ (fun _ e => if e = 0 then none else some e) (fun i a hi => by
  have := qhw hi;rw [qam hi];simp only [qa];by_cases h : a = 0
  ·simp only [h, decide_true, Bool.not_true, cond_false, if_true, stp]; rw [qkO (by omega) (by omega)]
  ·simp [h, stp]), qdA, qoE]
 by_cases h : qyv l = 0
 ·simp [h]
 ·simp [h]
end
end Go.Tx
end
section
namespace Go.Tx
open Go
theorem qmD {f : Int × Int -> Option ((Int × Int) ⊕ Int)} (hf : ∀ s, f s = if s.2 = 0 then some (.inr s.1) else some (.inl (s.2, s.1.tmod s.2))) : ∀ (n : Nat) (a b : Int), b.natAbs <= n -> ∃ r, qp f (a, b) = some r /\ r.natAbs = Int.gcd a b := by
 intro n;induction n with
 | zero =>
  intro a b hb;have : b = 0 := by omega
  subst this;exact ⟨a, qeP (by rw [hf]; simp), by simp⟩
 | succ n ih =>
  intro a b hb;by_cases h0 : b = 0
  ·subst h0;exact ⟨a, qeP (by rw [hf]; simp), by simp⟩
  ·have hlt : (a.tmod b).natAbs < b.natAbs := by
    rw [Int.natAbs_tmod]; exact Nat.mod_lt _ (by omega)
   obtain ⟨r, h1, h2⟩ := ih b (a.tmod b) (by omega);refine ⟨r, by rw [qnA (s' := (b, a.tmod b)) (by rw [hf]; simp [h0])]; exact h1, ?_⟩;rw [h2];unfold Int.gcd;rw [Int.natAbs_tmod, Nat.gcd_comm, <- Nat.gcd_rec, Nat.gcd_comm]
def qgb : Nat -> List Int -> Nat
 | g, [] => g
 | g, n :: l => qgb (Nat.gcd g n.natAbs) l
def qxK (l : List Int) : Nat := qgb 0 l
theorem qcU (g : Nat) (n : Int) : ∀ (l : List Int), qgb g (l ++ [n]) = Nat.gcd (qgb g l) n.natAbs := by
 intro l;induction l generalizing g with
 | nil => rfl
 | cons m l ih => simp only [List.cons_append, qgb]; exact ih _
theorem qyW (a b : Int) : qxK [a, b] = Int.gcd a b := by simp [qxK, qgb, Int.gcd]
theorem qoR (a b c : Int) : qxK [a, b, c] = Nat.gcd (Int.gcd a b) c.natAbs := by simp [qxK, qgb, Int.gcd]
theorem qhG {B : Nat} : ∀ {l : List Int} {g : Nat}, g <= B -> (∀ x ∈ l, x.natAbs <= B) -> qgb g l <= B
 | [], g, hg, _ => hg
 | n :: l, g, hg, h => by
  simp only [qgb];refine qhG ?_ fun x hx => h x (by simp [hx]);have h1 := h n (by simp);by_cases hg0 : g = 0
  ·subst hg0; simpa using h1
  ·exact Nat.le_trans (Nat.le_of_dvd (by omega) (Nat.gcd_dvd_left g n.natAbs)) hg
theorem qrh : ∀ {l : List Int} {g : Nat}, qgb g l = 0 ↔ g = 0 /\ ∀ x ∈ l, x = 0
 | [], g => by simp [qgb]
 | n :: l, g => by
  simp only [qgb, qrh (l := l), Nat.gcd_eq_zero_iff, List.mem_cons, forall_eq_or_imp];constructor
  ·rintro ⟨⟨h1, h2⟩, h3⟩; exact ⟨h1, by omega, h3⟩
  ·rintro ⟨h1, h2, h3⟩; exact ⟨⟨h1, by omega⟩, h3⟩
theorem qcs : ∀ (l : List Int) (g : Nat), qgb g l ∣ g
 | [], g => Nat.dvd_refl g
 | n :: l, g => Nat.dvd_trans (qcs l _) (Nat.gcd_dvd_left ..)
theorem qib : ∀ {l : List Int} {g : Nat} {x : Int}, x ∈ l -> ((qgb g l : Nat) : Int) ∣ x
 | n :: l, g, x, hx => by
  rcases List.mem_cons.1 hx with rfl | hx
  ·have h1 := Nat.dvd_trans (qcs l (Nat.gcd g x.natAbs)) (Nat.gcd_dvd_right ..);exact Int.ofNat_dvd_left.2 h1
  ·exact qib (l := l) hx
theorem qpR {d : Nat} : ∀ {l : List Int} {g : Nat}, d ∣ g -> (∀ x ∈ l, (d : Int) ∣ x) -> d ∣ qgb g l
 | [], g, hg, _ => hg
 | n :: l, g, hg, h => qpR (l := l) (Nat.dvd_gcd hg (Int.ofNat_dvd_left.1 (h n (by simp)))) fun x hx => h x (by simp [hx])
theorem qrH (l : List Int) (hl : l.length <= 1000000000) (hb : ∀ x ∈ l, x.natAbs <= 4611686018427387904) :
  (qp (fun (s2 : (Int × Int)) =>
   bif decide (s2.2 < (l.length : Int)) then
    (idx l s2.2).bind fun x3 =>
    (qp (fun (s5 : (Int × Int)) =>
      bif !(decide (s5.2 = 0)) then
       bif decide (s5.2 = 0) then
        none
       else
        some (.inl (s5.2, s5.1.tmod s5.2))
      else
       some (.inr s5.1)) (s2.1, x3)).bind fun (p6 : Int) =>
    some (.inl (p6, IntKind.wrap .i64 (s2.2 + 1)))
   else
    some (.inr s2.1)) (0, 0)).bind (fun (p7 : Int) => some (max p7 (IntKind.wrap .i64 (0 - p7)))) = some (qxK l : Int) := by
 refine Ok.eq ?_;rw [qdC];refine (qav l.length (fun i (s : Int × Int) => s.2 = (i : Int) /\ s.1.natAbs = qxK (l.take i)) (fun r : Int => r.natAbs = qxK l) ⟨rfl, rfl⟩ ?_).mono ?_
 ·rintro i ⟨g, s⟩ hi ⟨h1, h2⟩;simp only at h1 h2;subst h1;by_cases hlt : i < l.length
  ·have e0 : decide ((i : Int) < (l.length : Int)) = true := by simp <;> omega
   simp only [e0, cond_true];rw [qb7 0 (by omega) (by omega)];simp only [qa, Int.toNat_natCast];obtain ⟨r, h3, h4⟩ := qmD (f := fun (s5 : (Int × Int)) => bif !(decide (s5.2 = 0)) then bif decide (s5.2 = 0) then none else some (.inl (s5.2, s5.1.tmod s5.2)) else some (.inr s5.1)) (fun s => by
    by_cases h : s.2 = 0 <;> simp [h]) (l.getD i 0).natAbs g (l.getD i 0) (Nat.le_refl _)
   rw [h3];simp only [qa];rw [qkO (by omega) (by omega), qae];refine ⟨hlt, by simp, ?_⟩;rw [h4, qbh 0 hlt];unfold qxK at h2 ⊢;rw [qcU, <- h2];rfl
  ·have : i = l.length := by omega
   subst this;have e0 : decide ((l.length : Int) < (l.length : Int)) = false := by simp
   simp only [e0, cond_false];rw [q8];simpa using h2
 ·intro r hr;have hle : qxK l <= 4611686018427387904 := qhG (by omega) hb;rw [qkO (by omega) (by omega), qR];omega
theorem qyF (a b : Int) (ha : a.natAbs <= 4611686018427387904) (hb : b.natAbs <= 4611686018427387904) :
  Ok (qp (fun (s2 : (Int × Int)) =>
   bif !(decide (s2.2 = 0)) then
    bif decide (s2.2 = 0) then
     none
    else
     some (.inl (s2.2, s2.1.tmod s2.2))
   else
    some (.inr s2.1)) (a, b)) fun r => r.natAbs = Int.gcd a b := by
 obtain ⟨r, h1, h2⟩ := qmD (f := fun (s2 : (Int × Int)) => bif !(decide (s2.2 = 0)) then bif decide (s2.2 = 0) then none else some (.inl (s2.2, s2.1.tmod s2.2)) else some (.inr s2.1)) (fun s => by
  by_cases h : s.2 = 0 <;> simp [h]) b.natAbs a b (Nat.le_refl _)
 exact ⟨r, h1, h2⟩
theorem qwU {a b : Int} {B : Nat} (ha : a.natAbs <= B) (hb : b.natAbs <= B) : Int.gcd a b <= B := by
 have := qhG (B := B) (l := [a, b]) (g := 0) (by omega) (by simp [ha, hb]);have e := qyW a b;unfold qxK at e;omega
end Go.Tx
end
section
namespace Go.Tx
open Go
section
variable {α : Type}
theorem sq_nonneg (z : Int) : 0 <= z * z := by
 rcases Int.le_total 0 z with hz | hz
 ·exact Int.mul_nonneg hz hz
 ·have := Int.mul_nonneg (show 0 <= -z by omega) (show 0 <= -z by omega); rwa [Int.neg_mul_neg] at this
theorem qqv {z : Int} (h : z * z = 0) : z = 0 := by
 rcases Int.mul_eq_zero.1 h with h | h <;> exact h
theorem qbE {a b A B : Int} (h1 : -A <= a /\ a <= A) (h2 : -B <= b /\ b <= B) : -(A * B) <= a * b /\ a * b <= A * B := by
 have hA : 0 <= A := by omega
 have hB : 0 <= B := by omega
 have e : (a * b).natAbs = a.natAbs * b.natAbs := Int.natAbs_mul a b;have h3 : a.natAbs * b.natAbs <= A.natAbs * B.natAbs := Nat.mul_le_mul (by omega) (by omega);have h4 : ((A.natAbs * B.natAbs : Nat) : Int) = A * B := by
  rw [Int.natCast_mul]; congr 1 <;> omega
 omega
end
end Go.Tx
end
section
namespace Go.Tx
open Go
section
variable {α β : Type}
def mkL (n : Nat) (f : Nat -> α) : List α := (List.range n).map f
theorem qv (n : Nat) (f : Nat -> α) : (mkL n f).length = n := by simp [mkL]
theorem qbH {n : Nat} (f : Nat -> α) {k : Nat} (h : k < n) : (mkL n f)[k]? = some (f k) := by simp [mkL, h]
theorem qqD {n : Nat} (f : Nat -> α) {k : Nat} (d : α) (h : k < n) : (mkL n f).getD k d = f k := qfD (qbH f h)
theorem ql4 (f : Nat -> α) : mkL 0 f = [] := rfl
theorem qcA (n : Nat) (f : Nat -> α) : mkL (n + 1) f = mkL n f ++ [f n] := by simp [mkL, List.range_succ]
theorem qbC {n : Nat} {f g : Nat -> α} (h : ∀ k, k < n -> f k = g k) : mkL n f = mkL n g := List.map_congr_left fun k hk => h k (by simpa using hk)
theorem qk0 {n : Nat} {f : Nat -> α} {x : α} (h : x ∈ mkL n f) : ∃ k, k < n /\ x = f k := by
 obtain ⟨k, hk, rfl⟩ := List.mem_map.1 h;exact ⟨k, by simpa using hk, rfl⟩
theorem qqk {n : Nat} {f : Nat -> α} {k : Nat} (h : k < n) : f k ∈ mkL n f := List.mem_map.2 ⟨k, by simpa using h, rfl⟩
theorem quG (l : List α) (d : α) : l = mkL l.length fun k => l.getD k d := by
 apply List.ext_getElem?;intro k;by_cases h : k < l.length
 ·rw [qbH _ h]; simp [h]
 ·rw [List.getElem?_eq_none (by omega), List.getElem?_eq_none (by rw [qv]; omega)]
theorem qo3 {l : List α} {n : Nat} {f : Nat -> α} (hl : l.length = n) (h : ∀ k, k < n -> l[k]? = some (f k)) : l = mkL n f := by
 apply List.ext_getElem?;intro k;by_cases hk : k < n
 ·rw [qbH _ hk, h k hk]
 ·rw [List.getElem?_eq_none (by omega), List.getElem?_eq_none (by rw [qv]; omega)]
theorem qaD {l : List α} {i : Nat} {d : α} (h : i < l.length) : l.getD i d ∈ l := by
 have : l[i]? = some (l.getD i d) := by simp [h]
 exact List.mem_of_getElem? this
theorem qfJ {l : List α} {i : Nat} (d : α) (h : i < l.length) : l[i]? = some (l.getD i d) := by simp [h]
theorem qiE {K : List β × Int -> Option ((List β × Int) ⊕ List β)} (n : Nat) (f : Nat -> β)
  (h : ∀ i, i < n -> K (mkL i f, (i : Int)) = some (.inl (mkL i f ++ [f i], (i : Int) + 1))) (he : K (mkL n f, (n : Int)) = some (.inr (mkL n f))) : qp K ([], 0) = some (mkL n f) := by
 refine Ok.eq (qav n (fun i (s : List β × Int) => s = (mkL i f, (i : Int))) (fun r => r = mkL n f) rfl ?_);rintro i s hi rfl;by_cases hlt : i < n
 ·rw [h i hlt, qae];exact ⟨hlt, by rw [qcA]; rfl⟩
 ·have : i = n := by omega
  subst this;rw [he, q8]
theorem qAg {K : List β × Int -> Option ((List β × Int) ⊕ List β)} (l : List α) (f : α -> β)
  (h : ∀ (i : Nat) a out, l[i]? = some a -> out.length = i -> K (out, (i : Int)) = some (.inl (out ++ [f a], (i : Int) + 1))) (he : ∀ out, out.length = l.length -> K (out, (l.length : Int)) = some (.inr out)) : qp K ([], 0) = some (l.map f) := by
 refine Ok.eq (qav l.length (fun i (s : List β × Int) => s = ((l.take i).map f, (i : Int))) (fun r => r = l.map f) (by simp) ?_);rintro i s hi rfl;by_cases hlt : i < l.length
 ·have ha : l[i]? = some l[i] := by simp [hlt]
  rw [h i _ _ ha (by simp; omega), qae];refine ⟨hlt, ?_⟩;have e : (l.take (i + 1)).map f = (l.take i).map f ++ [f l[i]] := by rw [List.take_add_one, ha]; simp only [List.map_append, Option.toList_some, List.map_cons, List.map_nil]
  rw [e]; rfl
 ·have : i = l.length := by omega
  subst this;rw [he _ (by simp), q8];simp
theorem qtY {l m : List α} (d : α) : (l.length = m.length /\ ∀ i, i < l.length -> l.getD i d = m.getD i d) ↔ l = m := by
 constructor
 ·rintro ⟨h1, h2⟩;rw [quG l d, quG m d, h1];exact qbC fun k hk => h2 k (by omega)
 ·rintro rfl; exact ⟨rfl, fun _ _ => rfl⟩
theorem qrT [DecidableEq α] {l m : List α} (d : α) (hl : l.length = m.length) (hb : l.length <= 1000000000) (e : α -> α -> Bool) (he : ∀ a b, a ∈ l -> b ∈ m -> (e a b = true ↔ a = b)) {K : Int -> Option (Int ⊕ (Unit ⊕ Bool))}
  (h : ∀ i, i < l.length -> K (i : Int) = some (if e (l.getD i d) (m.getD i d) = true then .inl ((i : Int) + 1) else .inr (.inr false))) :
  (qp (fun s => bif decide (s < (l.length : Int)) then K s else some (.inr (.inl ()))) 0).bind (Sum.elim (fun (p5 : Unit) => some true) some) = some (decide (l = m)) := by
 refine Ok.eq (qm0.2 ?_);refine (qav l.length (fun i (s : Int) => s = (i : Int) /\ ∀ j, j < i -> l.getD j d = m.getD j d) (fun r => (r = .inl () /\ ∀ j, j < l.length -> l.getD j d = m.getD j d) \/ (r = .inr false /\ ∃ j, j < l.length /\ l.getD j d ≠ m.getD j d)) ⟨rfl, by simp⟩ ?_).mono ?_
 ·rintro i s hi ⟨rfl, hI⟩;by_cases hlt : i < l.length
  ·have e0 : decide ((i : Int) < (l.length : Int)) = true := by simp <;> omega
   simp only [e0, cond_true];rw [h i hlt];have hm := he (l.getD i d) (m.getD i d) (qaD hlt) (qaD (by omega));by_cases c : e (l.getD i d) (m.getD i d) = true
   ·rw [if_pos c, qae];refine ⟨hlt, by simp, fun j hj => ?_⟩;by_cases hji : j < i
    ·exact hI j hji
    ·have : j = i := by omega
     subst this; exact hm.1 c
   ·rw [if_neg c, q8];exact .inr ⟨rfl, i, hlt, fun h => c (hm.2 h)⟩
  ·have : i = l.length := by omega
   subst this;have e0 : decide ((l.length : Int) < (l.length : Int)) = false := by simp
   simp only [e0, cond_false];rw [q8];exact .inl ⟨rfl, hI⟩
 ·rintro r (⟨rfl, h1⟩ | ⟨rfl, j, hj, hne⟩)
  ·simp only [qR]; rw [eq_comm, decide_eq_true_iff]; exact (qtY d).1 ⟨hl, h1⟩
  ·simp only; rw [eq_comm, decide_eq_false_iff_not]
   exact fun h => hne (by rw [h])
end
end Go.Tx
end
section
namespace Go.Tx
open Go
abbrev G := Int × Int × Unit
def g0 : G := (0, 0, ())
def g1 : G := (1, 0, ())
def qeE (a b : G) : G := (a.1 + b.1, a.2.1 + b.2.1, ())
def qjo (a b : G) : G := (a.1 - b.1, a.2.1 - b.2.1, ())
def qK (a b : G) : G := (a.1 * b.1 - a.2.1 * b.2.1, a.1 * b.2.1 + a.2.1 * b.1, ())
def qi7 (a : G) : G := (-a.1, -a.2.1, ())
def qag (a : G) : G := (a.1, -a.2.1, ())
theorem qqR {a b : G} (h1 : a.1 = b.1) (h2 : a.2.1 = b.2.1) : a = b := by
 obtain ⟨x, y, _⟩ := a; obtain ⟨x', y', _⟩ := b; simp only at h1 h2; rw [h1, h2]
theorem qya {a b : G} : a = b ↔ a.1 = b.1 /\ a.2.1 = b.2.1 := ⟨fun h => by rw [h]; exact ⟨rfl, rfl⟩, fun h => qqR h.1 h.2⟩
theorem qBe (a : G) : (a.1, a.2.1, ()) = a := rfl
def Bd (B : Int) (a : G) : Prop := (-B <= a.1 /\ a.1 <= B) /\ (-B <= a.2.1 /\ a.2.1 <= B)
theorem Bd.mono {A B : Int} {a : G} (h : Bd A a) (hAB : A <= B) : Bd B a := by unfold Bd at *; omega
theorem qqn {B : Int} (h : 0 <= B) : Bd B g0 := by unfold Bd g0; simp <;> omega
theorem qzO {B : Int} (h : 1 <= B) : Bd B g1 := by unfold Bd g1; simp <;> omega
theorem Bd.add {A B : Int} {a b : G} (h : Bd A a) (h' : Bd B b) : Bd (A + B) (qeE a b) := by unfold Bd qeE at *; simp only <;> omega
theorem Bd.sub {A B : Int} {a b : G} (h : Bd A a) (h' : Bd B b) : Bd (A + B) (qjo a b) := by unfold Bd qjo at *; simp only <;> omega
theorem Bd.neg {A : Int} {a : G} (h : Bd A a) : Bd A (qi7 a) := by unfold Bd qi7 at *; simp only <;> omega
theorem Bd.qzf {A : Int} {a : G} (h : Bd A a) : Bd A (qag a) := by unfold Bd qag at *; simp only <;> omega
theorem Bd.mul {A B : Int} {a b : G} (h : Bd A a) (h' : Bd B b) : Bd (2 * (A * B)) (qK a b) := by
 obtain ⟨h1, h2⟩ := h;obtain ⟨h3, h4⟩ := h';have p1 := qbE h1 h3;have p2 := qbE h2 h4;have p3 := qbE h1 h4;have p4 := qbE h2 h3;unfold Bd qK;simp only
 generalize A * B = Q at *;omega
theorem qvn {n : Int} (h1 : -9223372036854775808 <= n) (h2 : n <= 9223372036854775807) : IntKind.wrap .i64 n = n := qkO h1 h2
theorem qAX {A B : Int} {a b : G} (h : Bd A a) (h' : Bd B b) (hb : 2 * (A * B) <= 9000000000000000000) :
  ((IntKind.wrap .i64 (IntKind.wrap .i64 (a.1 * b.1) - IntKind.wrap .i64 (a.2.1 * b.2.1)), IntKind.wrap .i64 (IntKind.wrap .i64 (a.1 * b.2.1) + IntKind.wrap .i64 (a.2.1 * b.1)), ()) : G) = qK a b := by
 obtain ⟨h1, h2⟩ := h;obtain ⟨h3, h4⟩ := h';have p1 := qbE h1 h3;have p2 := qbE h2 h4;have p3 := qbE h1 h4;have p4 := qbE h2 h3;unfold qK;generalize A * B = Q at *;rw [qvn (n := a.1 * b.1) (by omega) (by omega), qvn (n := a.2.1 * b.2.1) (by omega) (by omega), qvn (n := a.1 * b.2.1) (by omega) (by omega), qvn (n := a.2.1 * b.1) (by omega) (by omega), qvn (by omega) (by omega), qvn (by omega) (by omega)]
theorem qAW {A B : Int} {a b : G} (h : Bd A a) (h' : Bd B b) (hb : A + B <= 9000000000000000000) :
  ((IntKind.wrap .i64 (a.1 + b.1), IntKind.wrap .i64 (a.2.1 + b.2.1), ()) : G) = qeE a b := by
 unfold Bd at h h';unfold qeE;rw [qvn (by omega) (by omega), qvn (by omega) (by omega)]
theorem qx9 {A B : Int} {a b : G} (h : Bd A a) (h' : Bd B b) (hb : A + B <= 9000000000000000000) :
  ((IntKind.wrap .i64 (a.1 - b.1), IntKind.wrap .i64 (a.2.1 - b.2.1), ()) : G) = qjo a b := by
 unfold Bd at h h';unfold qjo;rw [qvn (by omega) (by omega), qvn (by omega) (by omega)]
theorem qqX (a : G) : qeE g0 a = a := qqR (by simp [qeE, g0]) (by simp [qeE, g0])
theorem qvh (a b c : G) : qK (qK a b) c = qK a (qK b c) := qqR (by simp only [qK]; grind) (by simp only [qK]; grind)
theorem qyP (a b c : G) : qK (qeE a b) c = qeE (qK a c) (qK b c) := qqR (by simp only [qK, qeE]; grind) (by simp only [qK, qeE]; grind)
theorem qx0 (a : G) : qK g0 a = g0 := qqR (by simp [qK, g0]) (by simp [qK, g0])
theorem qsX (a b : G) : qjo a b = qeE a (qi7 b) := qqR (by simp only [qjo, qeE, qi7]; omega) (by simp only [qjo, qeE, qi7]; omega)
theorem qm9 (a : G) : qjo g0 a = qi7 a := qqR (by simp [qjo, qi7, g0]) (by simp [qjo, qi7, g0])
def qn0 : Nat -> (Nat -> G) -> G
 | 0, _ => g0
 | n + 1, f => qeE (qn0 n f) (f n)
theorem qpC {n : Nat} {f h : Nat -> G} (e : ∀ k, k < n -> f k = h k) : qn0 n f = qn0 n h := by
 induction n with
 | zero => rfl
 | succ n ih => simp only [qn0]; rw [ih fun k hk => e k (by omega), e n (by omega)]
theorem Bd.sum {B : Int} {f : Nat -> G} : ∀ {n : Nat}, (∀ k, k < n -> Bd B (f k)) -> Bd (n * B) (qn0 n f)
 | 0, _ => qqn (by simp)
 | n + 1, h => by
  have h1 := Bd.sum (n := n) fun k hk => h k (by omega);have e : ((n + 1 : Nat) : Int) * B = n * B + B := by rw [Int.natCast_add, Int.add_mul]; simp
  rw [e];exact h1.add (h n (by omega))
theorem qhL (n : Nat) (hn : n <= 1000) {A : Int} (hA : 0 <= A) (hAn : n * A <= 9000000000000000000) (f : Nat -> G) (hf : ∀ k, k < n -> Bd A (f k)) {K : Int × Int × Int -> Option ((Int × Int × Int) ⊕ (Int × Int))}
  (h : ∀ k, k < n -> ∀ a b : Int, Bd (k * A) (a, b, ()) -> K ((k : Int), a, b) = some (.inl (IntKind.wrap .i64 ((k : Int) + 1), (qeE (a, b, ()) (f k)).1, (qeE (a, b, ()) (f k)).2.1)))
  (he : ∀ a b : Int, K ((n : Int), a, b) = some (.inr (a, b))) : qp K (0, 0, 0) = some ((qn0 n f).1, (qn0 n f).2.1) := by
 refine Ok.eq (qav n (fun i (s : Int × Int × Int) => s = ((i : Int), (qn0 i f).1, (qn0 i f).2.1)) (fun r => r = ((qn0 n f).1, (qn0 n f).2.1)) rfl ?_);rintro i s hi rfl;by_cases hlt : i < n
 ·have hb : Bd (i * A) (qn0 i f) := Bd.sum fun k hk => hf k (by omega);rw [h i hlt _ _ hb, qvn (by omega) (by omega), qae];exact ⟨hlt, rfl⟩
 ·have : i = n := by omega
  subst this;rw [he, q8]
abbrev Mx := List (List G)
def mx (n c : Nat) (f : Nat -> Nat -> G) : Mx := mkL n fun i => mkL c fun k => f i k
def ent (m : Mx) (i k : Nat) : G := (m.getD i []).getD k g0
def qBj (n c : Nat) (m : Mx) : Prop := m.length = n /\ ∀ r ∈ m, r.length = c
theorem qaX (n c : Nat) (f : Nat -> Nat -> G) : (mx n c f).length = n := qv _ _
theorem qw4 {n c i : Nat} (f : Nat -> Nat -> G) (h : i < n) : (mx n c f).getD i [] = mkL c fun k => f i k := qqD _ _ h
theorem qgo {n c i : Nat} (f : Nat -> Nat -> G) (h : i < n) : (mx n c f)[i]? = some (mkL c fun k => f i k) := qbH _ h
theorem qqz {n c : Nat} {f h : Nat -> Nat -> G} (e : ∀ i k, i < n -> k < c -> f i k = h i k) : mx n c f = mx n c h := qbC fun i hi => qbC fun k hk => e i k hi hk
theorem qqN (n c : Nat) (f : Nat -> Nat -> G) : qBj n c (mx n c f) := ⟨qaX _ _ _, fun r hr => by obtain ⟨i, hi, rfl⟩ := qk0 hr; exact qv _ _⟩
theorem qxH {n c : Nat} {m : Mx} (h : qBj n c m) : m = mx n c (ent m) := by
 refine qo3 h.1 fun i hi => ?_;rw [qfJ [] (by rw [h.1]; exact hi)];congr 1
 refine qo3 (h.2 _ (qaD (by rw [h.1]; exact hi))) fun k hk => ?_;rw [qfJ g0 (by rw [h.2 _ (qaD (by rw [h.1]; exact hi))]; exact hk)];rfl
def BdM (B : Int) (m : Mx) : Prop := ∀ r ∈ m, ∀ z ∈ r, Bd B z
def BdF (B : Int) (n c : Nat) (f : Nat -> Nat -> G) : Prop := ∀ i k, i < n -> k < c -> Bd B (f i k)
theorem qwr {B : Int} {n c : Nat} {m : Mx} (h : BdM B m) (hr : qBj n c m) : BdF B n c (ent m) := fun i k hi hk => by
 have h1 : m.getD i [] ∈ m := qaD (by rw [hr.1]; exact hi);exact h _ h1 _ (qaD (by rw [hr.2 _ h1]; exact hk))
theorem qzV {B : Int} {n c : Nat} {f : Nat -> Nat -> G} : BdM B (mx n c f) ↔ BdF B n c f := by
 constructor
 ·intro h i k hi hk;exact h _ (qqk (f := fun i => mkL c fun k => f i k) hi) _ (qqk (f := fun k => f i k) hk)
 ·intro h r hr z hz;obtain ⟨i, hi, rfl⟩ := qk0 hr;obtain ⟨k, hk, rfl⟩ := qk0 hz;exact h i k hi hk
theorem qhz (n c : Nat) (hn : n <= 1000) (hc : c <= 1000) (ask : Int -> Int -> Option G) (f : Nat -> Nat -> G) (h : ∀ i k, i < n -> k < c -> ask i k = some (f i k)) :
  ((mkS ([] : List G) (n : Int)).bind fun x1 =>
   bif decide ((n : Int) = (n : Int)) then
    (qp (fun (s3 : (Mx × Int)) =>
      bif decide (s3.2 < (x1.length : Int)) then
       (qp (fun (s5 : (Mx × Int)) =>
         bif decide (s5.2 < (c : Int)) then
          (idx s5.1 s3.2).bind fun x6 =>
          (ask s3.2 s5.2).bind fun x7 =>
          (idx s5.1 s3.2).bind fun x8 =>
          (app x8 ([x7])).bind fun x9 =>
          (idx s5.1 s3.2).bind fun x10 =>
          bif decide (s3.2 = s3.2) then
           let l11 : Mx := List.set s5.1 s3.2.toNat x9
           some (.inl (l11, IntKind.wrap .i64 (s5.2 + 1)))
          else
           none
         else
          some (.inr s5.1)) (s3.1, 0)).bind fun (p12 : Mx) =>
       some (.inl (p12, IntKind.wrap .i64 (s3.2 + 1)))
      else
       some (.inr s3.1)) (x1, 0)).bind fun (p13 : Mx) =>
    some p13
   else
    none) = some (mx n c f) := by
 have e1 : decide ((n : Int) = (n : Int)) = true := by simp
 rw [qzH (by omega), qa, e1, cond_true];have hlen : (List.replicate ((n : Int).toNat) ([] : List G)).length = n := by simp
 rw [hlen];let row (i : Nat) : List G := mkL c fun k => f i k
 refine Ok.eq ?_;rw [qdC];refine (qav n (fun i (s : Mx × Int) => s = (mkL n fun j => if j < i then row j else [], (i : Int))) (fun r => r = mx n c f) ?_ ?_).mono (fun a ha => by rw [ha]; exact qR.2 rfl)
 ·congr 1
  refine (qo3 (by simp) fun k hk => ?_);simp [hk]
 ·rintro i s hi rfl;by_cases hlt : i < n
  ·have e0 : decide ((i : Int) < (n : Int)) = true := by simp <;> omega
   simp only [e0, cond_true];rw [qkc];refine (qav c (fun k (s : Mx × Int) => s = (mkL n fun j => if j < i then row j else if j = i then (row i).take k else [], (k : Int))) (fun r => r = mkL n fun j => if j < i + 1 then row j else []) ?_ ?_).mono ?_
   ·congr 1
    refine qbC fun j hj => ?_;by_cases c1 : j < i
    ·rw [if_pos c1, if_pos c1]
    ·rw [if_neg c1, if_neg c1]; simp
   ·rintro k s hk rfl;by_cases hlt2 : k < c
    ·have e2 : decide ((k : Int) < (c : Int)) = true := by simp <;> omega
     have hat : idx (mkL n fun j => if j < i then row j else if j = i then (row i).take k else []) (i : Int) = some ((row i).take k) := by
      rw [qam (qbH _ hlt)];simp
     simp only [e2, cond_true, hat, qa, h i k hlt hlt2, decide_true, Int.toNat_natCast];have hrl : (row i).length = c := qv _ _;rw [qbd (by simp [hrl]; omega)];simp only [qa];rw [qvn (by omega) (by omega), qae];refine ⟨hlt2, ?_⟩;congr 1
     refine qo3 (by simp [qv]) fun j hj => ?_;rw [List.getElem?_set, qv];by_cases c1 : i = j
     ·subst c1;rw [if_pos rfl, if_pos hj];simp only [Nat.lt_irrefl, if_false, if_true];rw [qbh g0 (by rw [hrl]; exact hlt2)];have : (row i).getD k g0 = f i k := qqD _ _ hlt2;rw [this]
     ·rw [if_neg c1, qbH _ hj];have : ¬ j = i := fun e => c1 e.symm;simp [this]
    ·have : k = c := by omega
     subst this;have e2 : decide ((k : Int) < (k : Int)) = false := by simp
     simp only [e2, cond_false];rw [q8];refine qbC fun j hj => ?_;by_cases c1 : j < i
     ·rw [if_pos c1, if_pos (by omega)]
     ·rw [if_neg c1];by_cases c2 : j = i
      ·subst c2;rw [if_pos rfl, if_pos (by omega), List.take_of_length_le (by rw [show (row j).length = k from qv _ _]; omega)]
      ·rw [if_neg c2, if_neg (by omega)]
   ·rintro r rfl;rw [qvn (by omega) (by omega), qae];exact ⟨hlt, rfl⟩
  ·have : i = n := by omega
   subst this;have e0 : decide ((i : Int) < (i : Int)) = false := by simp
   simp only [e0, cond_false];rw [q8];exact qbC fun j hj => by rw [if_pos hj]
def skip (r i : Nat) : Nat := if i < r then i else i + 1
def minor (f : Nat -> Nat -> G) (r c i k : Nat) : G := f (skip r i) (skip c k)
theorem qwO {α : Type} {n c : Nat} (f : Nat -> α) (h : c < n) : ((mkL n f).take c).drop 0 ++ ((mkL n f).take n).drop (c + 1) = mkL (n - 1) fun k => f (skip c k) := by
 refine qo3 (by simp [qv]; omega) fun k hk => ?_;have hl : (mkL n f).length = n := qv _ _;rw [List.drop_zero, List.take_of_length_le (l := mkL n f) (i := n) (by omega)];unfold skip;by_cases c1 : k < c
 ·rw [List.getElem?_append_left (by rw [List.length_take]; omega), List.getElem?_take_of_lt c1, qbH f (by omega), if_pos c1]
 ·rw [List.getElem?_append_right (by rw [List.length_take]; omega), List.length_take, hl, Nat.min_eq_left (by omega), List.getElem?_drop, if_neg c1];rw [show c + 1 + (k - c) = k + 1 by omega, qbH f (by omega)]
def qfK : Nat -> (Nat -> Nat -> G) -> G
 | 0, _ => g1
 | n + 1, f => qn0 (n + 1) fun k => if k % 2 = 1 then qi7 (qK (f 0 k) (qfK n (minor f 0 k))) else qK (f 0 k) (qfK n (minor f 0 k))
theorem qc8 {B : Int} {n : Nat} {f : Nat -> Nat -> G} {r c : Nat} (h : BdF B (n + 1) (n + 1) f) : BdF B n n (minor f r c) := fun i k hi hk => h _ _ (by unfold skip; split <;> omega) (by unfold skip; split <;> omega)
def dB (B : Int) : Nat -> Int
 | 0 => 1
 | n + 1 => ((n + 1 : Nat) : Int) * (2 * (B * dB B n))
theorem qjP {B : Int} (h : 0 <= B) : ∀ n, 0 <= dB B n
 | 0 => by simp [dB]
 | n + 1 => by
  simp only [dB];have := Int.mul_nonneg h (qjP h n);exact Int.mul_nonneg (by omega) (by omega)
theorem qnr {B : Int} (hB : 0 <= B) : ∀ (n : Nat) (f : Nat -> Nat -> G), BdF B n n f -> Bd (dB B n) (qfK n f)
 | 0, f, _ => qzO (by simp [dB])
 | n + 1, f, h => by
  simp only [qfK, dB];refine Bd.sum fun k hk => ?_;have h1 := (h 0 k (by omega) hk).mul (qnr hB n _ (qc8 (r := 0) (c := k) h));split
  ·exact h1.neg
  ·exact h1
def qe1 (n : Nat) (f h : Nat -> Nat -> G) (i k : Nat) : G := qn0 n fun j => qK (f i j) (h j k)
end Go.Tx
end
section
set_option maxRecDepth 100000
namespace Go.Proofs.YtbcdgfgacigaoaaGreat
open Go Go.Ab Go.Tx
noncomputable section
@[reducible] def I : Ty := .int .i64
@[reducible] def w64 (n : Int) : Int := IntKind.wrap .i64 n
def qx7 : List (List Tmp × FuncId × Kind × Join) -> List Tmp -> FuncId -> Kind -> Option Join
 | [], _, _, _ => none
 | (c, f, k, j) :: l, c', f', k' => if f = f' then (if k = k' then (if c = c' then some j else qx7 l c' f' k') else qx7 l c' f' k') else qx7 l c' f' k'
def qto : Nat := 12
def qbV (js : List (List Tmp × FuncId × Kind × Join)) (inl : List (List Tmp × FuncId × Tmp)) : TH where
 lib := fun g => decide (g = qto)
 join := qx7 js
 inl := fun c f d => inl.any fun (c', f', d') => decide (f = f') && decide (d = d') && decide (c = c')
def Lb : FuncId -> Option (List V -> Option V) := fun g => if g = qto then some (fun args => match args with
  | [] => some (.val (.bool true))
  | _ => none) else none
theorem hJ {js : List (List Tmp × FuncId × Kind × Join)} {inl : List (List Tmp × FuncId × Tmp)} : ∀ g, (qbV js inl).lib g = false -> Lb g = none := fun g h => by
 simp only [qbV, decide_eq_false_iff_not] at h;simp [Lb, h]
def KT (e : Entry) (j : TH) (l : List Entry) (n : Nat) : Prop := ∀ x : denP e.ps, fnT Tryz.prog Hn.hints j (qvg l) n e.g (qjN e.ps x) e.rs = e.F x
abbrev OT (e : Entry) : Prop := qeg Tryz.prog Hn.hints Lb e
theorem entK {e : Entry} {j : TH} {l : List Entry} {n : Nat} (h : TOk Tryz.prog Hn.hints Lb (qvg l)) (hj : ∀ g, j.lib g = false -> Lb g = none) (k : KT e j l n) : OT e := qpM h hj n e.g e.ps e.rs e.F k
abbrev gT : Ty := .pair I (.pair I .unit)
def qi5 : Option Bool := some true
def qde : Entry := ⟨12, [], [(.bool, 0)], fun _ => qi5⟩
theorem qpP : qeg Tryz.prog Hn.hints Lb qde := fun x y h vs hv => by
 obtain rfl : true = y := Option.some.inj h;simp only [qde, qjN, RVL] at hv;subst hv;refine ⟨.val (.bool true), ⟨1, fun m hm => ?_⟩, by simp [qqa, qde, ofL, qcX, ofTy, RV, RTy]⟩;obtain ⟨m', rfl⟩ : ∃ m', m = m' + 1 := ⟨m - 1, by omega⟩
 simp [qsg, Lb, qto, qde]
def qdN (a0 : (List (List (Int × Int × Unit)))) (a1 : Int) : Option Bool :=
 bif decide ((a0.length : Int) > a1) then
  some false
 else
  (qp (fun (s2 : Int) =>
    bif decide (s2 < (a0.length : Int)) then
     (idx a0 s2).bind fun x3 =>
     bif decide ((x3.length : Int) > 5) then
      some (.inr (.inr false))
     else
      some (.inl (w64 (s2 + 1)))
    else
     some (.inr (.inl ()))) 0).bind (Sum.elim (fun (p4 : Unit) =>
  some true) some)
def qeF : Entry := ⟨77, [.ty (.sl (.sl gT)), .ty I], [(.bool, 0)], fun x => qdN x.1 x.2⟩
def qpX : TH := qbV [([], 77, .block 0, { lv := [], ps := [], abn := true, D := ⟨4193312⟩ }),
 ([], 77, .loop 0, { lv := [⟨none, 5, 0⟩], ps := [(I, 0)], D := ⟨4193312⟩ })] []
theorem qqd : KT qeF qpX [] 40 := fun x => by kernel_rfl
theorem qj0 : OT qeF := entK qm hJ qqd
def qeG (a0 : ((List (List (Int × Int × Unit))) × (List (List (Int × Int × Unit))) × Unit)) : Option Bool :=
 ((qdN a0.1 (8 : Int)).bind fun x1 =>
  bif x1 then
   (qdN a0.2.1 (8 : Int)).bind fun x2 =>
   some x2
  else
   some false).bind fun (p3 : Bool) =>
 some p3
def qeW : Entry := ⟨13, [.ty (.pair (.sl (.sl gT)) (.pair (.sl (.sl gT)) .unit))], [(.bool, 0)], fun x => qeG x⟩
def qnP : TH := qbV [([], 13, .region 1, { lv := [⟨none, 2, 0⟩], ps := [(.bool, 0)], D := ⟨2044⟩, rs := [⟨0, 1⟩], Dn := ⟨1908⟩ })] []
theorem qm5 : KT qeW qnP [qeF] 40 := fun x => by kernel_rfl
theorem qms : OT qeW := entK (qh qj0 qm) hJ qm5
def qcD (a0 : (List (Int × Int × Unit))) : Option (List (Int × Int × Unit)) :=
 (app [] a0).bind fun x1 =>
 some x1
def qdk : Entry := ⟨22, [.ty (.sl gT)], [((.sl gT), 1)], fun x => qcD x⟩
def qks : TH := qbV [] []
theorem qjw : KT qdk qks [] 40 := fun x => by kernel_rfl
theorem qkp : OT qdk := entK qm hJ qjw
def qaQ (a0 : (List (List (Int × Int × Unit)))) : Option (List (List (Int × Int × Unit))) :=
 (qp (fun (s3 : ((List (List (Int × Int × Unit))) × Int)) =>
   bif decide (s3.2 < (a0.length : Int)) then
    (idx a0 s3.2).bind fun x4 =>
    (qcD x4).bind fun x5 =>
    (app s3.1 ([x5])).bind fun x6 =>
    some (.inl (x6, w64 (s3.2 + 1)))
   else
    some (.inr s3.1)) ([], 0)).bind fun (p7 : (List (List (Int × Int × Unit)))) =>
 some p7
def qbJ : Entry := ⟨29, [.ty (.sl (.sl gT))], [((.sl (.sl gT)), 2)], fun x => qaQ x⟩
def qka : TH := qbV [([], 29, .block 0, { lv := [⟨none, 3, 0⟩], ps := [((.sl (.sl gT)), 2)], D := ⟨524280⟩ }),
 ([], 29, .loop 0, { lv := [⟨none, 3, 0⟩, ⟨none, 4, 0⟩], ps := [((.sl (.sl gT)), 2), (I, 0)], D := ⟨524280⟩ })] []
theorem qkr : KT qbJ qka [qdk] 40 := fun x => by kernel_rfl
theorem qfk : OT qbJ := entK (qh qkp qm) hJ qkr
def qct (a0 : ((List (List (Int × Int × Unit))) × (List (List (Int × Int × Unit))) × Unit)) : Option ((List (List (Int × Int × Unit))) × (List (List (Int × Int × Unit))) × Unit) :=
 (qaQ a0.1).bind fun x1 =>
 (qaQ a0.2.1).bind fun x2 =>
 some (x1, x2, ())
def qeh : Entry := ⟨15, [.ty (.pair (.sl (.sl gT)) (.pair (.sl (.sl gT)) .unit))], [((.pair (.sl (.sl gT)) (.pair (.sl (.sl gT)) .unit)), 2)], fun x => qct x⟩
def qlN : TH := qbV [] []
theorem qlE : KT qeh qlN [qbJ] 40 := fun x => by kernel_rfl
theorem qlV : OT qeh := entK (qh qfk qm) hJ qlE
def ql (a0 : Bool) (a1 : Int) : Option Int :=
 bif a0 then
  some 0
 else
  some a1
def qdS : Entry := ⟨80, [.ty .bool, .ty I], [(I, 0)], fun x => ql x.1 x.2⟩
def qoh : TH := qbV [] []
theorem qoz : KT qdS qoh [] 40 := fun x => by kernel_rfl
theorem qiA : OT qdS := entK qm hJ qoz
def qO (a0 : (List Int)) : Option Int :=
 (qp (fun (s2 : Int) =>
   bif decide (s2 < (a0.length : Int)) then
    (idx a0 s2).bind fun x3 =>
    bif !(decide (x3 = 0)) then
     some (.inr (.inr x3))
    else
     some (.inl (w64 (s2 + 1)))
   else
    some (.inr (.inl ()))) 0).bind (Sum.elim (fun (p4 : Unit) =>
 some 0) some)
def qeC : Entry := ⟨79, [.ty (.sl I)], [(I, 0)], fun x => qO x⟩
def qpY : TH := qbV [([], 79, .block 0, { lv := [], ps := [], abn := true, D := ⟨32656⟩ }),
 ([], 79, .loop 0, { lv := [⟨none, 7, 0⟩], ps := [(I, 0)], D := ⟨32656⟩ })] []
theorem qqO : KT qeC qpY [] 40 := fun x => by kernel_rfl
theorem qjW : OT qeC := entK qm hJ qqO
def qd8 (a0 : Int) (a1 : Int) (a2 : Int) : Option Bool :=
 (bif decide (a1 <= a0) then
   some (decide (a0 <= a2))
  else
   some false).bind fun (p1 : Bool) =>
 some p1
def qdV : Entry := ⟨81, [.ty I, .ty I, .ty I], [(.bool, 0)], fun x => qd8 x.1 x.2.1 x.2.2⟩
def qog : TH := qbV [([], 81, .region 1, { lv := [⟨none, 6, 0⟩], ps := [(.bool, 0)], D := ⟨32704⟩ })] []
theorem qoB : KT qdV qog [] 40 := fun x => by kernel_rfl
theorem qiH : OT qdV := entK qm hJ qoB
def qcS (a0 : Int) (a1 : Int) : Option Bool :=
 (qd8 a0 (w64 (0 - a1)) a1).bind fun x1 =>
 some x1
def qe0 : Entry := ⟨152, [.ty I, .ty I], [(.bool, 0)], fun x => qcS x.1 x.2⟩
def qnS : TH := qbV [] []
theorem qmL : KT qe0 qnS [qdV] 40 := fun x => by kernel_rfl
theorem qni : OT qe0 := entK (qh qiH qm) hJ qmL
def qaK (a0 : (Int × Int × Unit)) (a1 : Int) : Option Bool :=
 ((qcS a0.1 a1).bind fun x1 =>
  bif x1 then
   (qcS a0.2.1 a1).bind fun x2 =>
   some x2
  else
   some false).bind fun (p3 : Bool) =>
 some p3
def qa0 : Entry := ⟨105, [.ty gT, .ty I], [(.bool, 0)], fun x => qaK x.1 x.2⟩
def qhs : TH := qbV [([], 105, .region 1, { lv := [⟨none, 4, 0⟩], ps := [(.bool, 0)], D := ⟨32752⟩, rs := [⟨0, 2⟩], Dn := ⟨31696⟩ })] []
theorem qg8 : KT qa0 qhs [qe0] 40 := fun x => by kernel_rfl
theorem qd3 : OT qa0 := entK (qh qni qm) hJ qg8
def qE (a0 : (Int × Int × Unit)) : Option Bool :=
 (qaK a0 (9 : Int)).bind fun x1 =>
 some (!x1)
def qdm : Entry := ⟨147, [.ty gT], [(.bool, 0)], fun x => qE x⟩
def qjH : TH := qbV [] []
theorem qkj : KT qdm qjH [qa0] 40 := fun x => by kernel_rfl
theorem qku : OT qdm := entK (qh qd3 qm) hJ qkj
def qaT (a0 : (Int × Int × Unit)) : Option (Int × Int × Unit) :=
 some (a0.1, w64 (0 - a0.2.1), ())
def qa3 : Entry := ⟨83, [.ty gT], [(gT, 0)], fun x => qaT x⟩
def qkd : TH := qbV [] []
theorem qjY : KT qa3 qkd [] 40 := fun x => by kernel_rfl
theorem qcW : OT qa3 := entK qm hJ qjY
def q4 (a0 : (Int × Int × Unit)) (a1 : (Int × Int × Unit)) : Option (Int × Int × Unit) :=
 some (w64 ((w64 (a0.1 * a1.1)) - (w64 (a0.2.1 * a1.2.1))), w64 ((w64 (a0.1 * a1.2.1)) + (w64 (a0.2.1 * a1.1))), ())
def qU : Entry := ⟨82, [.ty gT, .ty gT], [(gT, 0)], fun x => q4 x.1 x.2⟩
def qjf : TH := qbV [] []
theorem qje : KT qU qjf [] 40 := fun x => by kernel_rfl
theorem qas : OT qU := entK qm hJ qje
def qaR (a0 : (Int × Int × Unit)) (a1 : (Int × Int × Unit)) : Option (Int × Int × Unit) :=
 some (w64 (a0.1 + a1.1), w64 (a0.2.1 + a1.2.1), ())
def qaV : Entry := ⟨154, [.ty gT, .ty gT], [(gT, 0)], fun x => qaR x.1 x.2⟩
def qjL : TH := qbV [] []
theorem qj1 : KT qaV qjL [] 40 := fun x => by kernel_rfl
theorem qdb : OT qaV := entK qm hJ qj1
def qaS (a0 : Int) (a1 : Int) (a2 : ((List (List (Int × Int × Unit))) × (List (List (Int × Int × Unit))) × Unit)) (a3 : (List (List (Int × Int × Unit)))) : Option (Int × Int × Unit) :=
 (qp (fun (s2 : (Int × Int × Int)) =>
   bif decide (s2.1 < (a2.1.length : Int)) then
    (idx a2.1 s2.1).bind fun x3 =>
    (idx a3 s2.1).bind fun x4 =>
    (idx x4 a0).bind fun x5 =>
    (idx x3 a1).bind fun x6 =>
    (qaT x6).bind fun x7 =>
    (q4 x5 x7).bind fun x8 =>
    (qaR (s2.2.1, s2.2.2, ()) x8).bind fun x9 =>
    some (.inl (w64 (s2.1 + 1), x9.1, x9.2.1))
   else
    some (.inr (s2.2.1, s2.2.2))) (0, 0, 0)).bind fun (p10 : (Int × Int)) =>
 some (p10.1, p10.2, ())
def qdl : Entry := ⟨186, [.ty I, .ty I, .ptr (.pair (.sl (.sl gT)) (.pair (.sl (.sl gT)) .unit)), .ptr (.sl (.sl gT))], [(gT, 0)], fun x => qaS x.1 x.2.1 x.2.2.1 x.2.2.2⟩
def qjX : TH := qbV [([], 186, .block 0, { lv := [⟨some 0, 7, 0⟩, ⟨some 0, 7, 1⟩], ps := [(I, 0), (I, 0)], D := ⟨17179861760⟩, wr := [⟨0, 7⟩] }),
 ([], 186, .loop 0, { lv := [⟨none, 13, 0⟩, ⟨some 0, 7, 0⟩, ⟨some 0, 7, 1⟩], ps := [(I, 0), (I, 0), (I, 0)], D := ⟨17179861760⟩, wr := [⟨0, 7⟩] })] []
theorem qjM : KT qdl qjX [qa3, qaV, qU] 40 := fun x => by kernel_rfl
theorem qjG : OT qdl := entK (qh qcW (qh qdb (qh qas qm))) hJ qjM
def q9 (a0 : Int) (a1 : Int) (a2 : ((List (List (Int × Int × Unit))) × (List (List (Int × Int × Unit))) × Unit)) (a3 : (List (List (Int × Int × Unit)))) : Option (List (List (Int × Int × Unit))) :=
 (mkS ([] : (List (Int × Int × Unit))) a0).bind fun x1 =>
 bif decide (a0 = a0) then
  (qp (fun (s3 : ((List (List (Int × Int × Unit))) × Int)) =>
    bif decide (s3.2 < (x1.length : Int)) then
     (qp (fun (s5 : ((List (List (Int × Int × Unit))) × Int)) =>
       bif decide (s5.2 < a1) then
        (idx s5.1 s3.2).bind fun x6 =>
        (qaS s3.2 s5.2 a2 a3).bind fun x7 =>
        (idx s5.1 s3.2).bind fun x8 =>
        (app x8 ([x7])).bind fun x9 =>
        (idx s5.1 s3.2).bind fun x10 =>
        bif decide (s3.2 = s3.2) then
         let l11 : (List (List (Int × Int × Unit))) := List.set s5.1 s3.2.toNat x9
         some (.inl (l11, w64 (s5.2 + 1)))
        else
         none
       else
        some (.inr s5.1)) (s3.1, 0)).bind fun (p12 : (List (List (Int × Int × Unit)))) =>
     some (.inl (p12, w64 (s3.2 + 1)))
    else
     some (.inr s3.1)) (x1, 0)).bind fun (p13 : (List (List (Int × Int × Unit)))) =>
  some p13
 else
  none
def qao : Entry := ⟨85, [.ty I, .ty I, .fn 186 [.p (.pair (.sl (.sl gT)) (.pair (.sl (.sl gT)) .unit)), .p (.sl (.sl gT))]], [((.sl (.sl gT)), 2)], fun x => q9 x.1 x.2.1 x.2.2.1 x.2.2.2⟩
def qdo : TH := qbV [([], 85, .block 0, { lv := [⟨none, 7, 0⟩], ps := [((.sl (.sl gT)), 2)], D := ⟨68719467392⟩ }),
 ([], 85, .loop 0, { lv := [⟨none, 7, 0⟩, ⟨none, 14, 0⟩], ps := [((.sl (.sl gT)), 2), (I, 0)], D := ⟨68719467392⟩ }),
 ([], 85, .block 2, { lv := [⟨none, 7, 0⟩], ps := [((.sl (.sl gT)), 2)], D := ⟨34359476864⟩ }),
 ([], 85, .loop 2, { lv := [⟨none, 7, 0⟩, ⟨none, 18, 0⟩], ps := [((.sl (.sl gT)), 2), (I, 0)], D := ⟨34359476864⟩ })] []
theorem qdt : KT qao qdo [qdl] 40 := fun x => by kernel_rfl
theorem qdr : OT qao := entK (qh qjG qm) hJ qdt
def qdQ (a0 : (List (List (Int × Int × Unit)))) (a1 : Int) (a2 : ((List (List (Int × Int × Unit))) × (List (List (Int × Int × Unit))) × Unit)) : Option (List (List (Int × Int × Unit))) :=
 (q9 a1 a1 a2 a0).bind fun x1 =>
 some x1
def qen : Entry := ⟨185, [.ty (.sl (.sl gT)), .ptr I, .ptr (.pair (.sl (.sl gT)) (.pair (.sl (.sl gT)) .unit))], [((.sl (.sl gT)), 2)], fun x => qdQ x.1 x.2.1 x.2.2⟩
def qlL : TH := qbV [] []
theorem qlH : KT qen qlL [qao] 40 := fun x => by kernel_rfl
theorem qlY : OT qen := entK (qh qdr qm) hJ qlH
def qd6 (a0 : ((List (List (Int × Int × Unit))) × (List (List (Int × Int × Unit))) × Unit)) (a1 : Int) : Option ((List (List (Int × Int × Unit))) × (List (List (Int × Int × Unit))) × Unit) :=
 (qdQ a0.1 a1 (a0.1, a0.2.1, ())).bind fun x1 =>
 (qdQ a0.2.1 a1 (a0.1, a0.2.1, ())).bind fun x2 =>
 some (x1, x2, ())
def qfG : Entry := ⟨148, [.ty (.pair (.sl (.sl gT)) (.pair (.sl (.sl gT)) .unit)), .ty I], [((.pair (.sl (.sl gT)) (.pair (.sl (.sl gT)) .unit)), 2)], fun x => qd6 x.1 x.2⟩
def qon : TH := qbV [] []
theorem qoy : KT qfG qon [qen] 40 := fun x => by kernel_rfl
theorem qol : OT qfG := entK (qh qlY qm) hJ qoy
def qaw (a0 : (List (List (Int × Int × Unit)))) (a1 : Int) (a2 : Int) : Option (Int × Int × Unit) :=
 (idx a0 a1).bind fun x1 =>
 (idx x1 a2).bind fun x2 =>
 some x2
def qbe : Entry := ⟨87, [.ty (.sl (.sl gT)), .ty I, .ty I], [(gT, 0)], fun x => qaw x.1 x.2.1 x.2.2⟩
def qkV : TH := qbV [] []
theorem qkX : KT qbe qkV [] 40 := fun x => by kernel_rfl
theorem qdK : OT qbe := entK qm hJ qkX
def qL (a0 : (List (List (Int × Int × Unit)))) (a1 : Int) (a2 : Int) : Option (List (List (Int × Int × Unit))) :=
 (qp (fun (s2 : ((List (List (Int × Int × Unit))) × Int)) =>
   bif decide (s2.2 < (a0.length : Int)) then
    (idx a0 s2.2).bind fun x3 =>
    (bif !(decide (s2.2 = a1)) then
      (slc x3 0 a2).bind fun x4 =>
      bif decide (a2 = a2) then
       (slc x3 (w64 (a2 + 1)) (x3.length : Int)).bind fun x5 =>
       (app x4 x5).bind fun x6 =>
       (app s2.1 ([x6])).bind fun x7 =>
       some x7
      else
       none
     else
      some s2.1).bind fun (p8 : (List (List (Int × Int × Unit)))) =>
    some (.inl (p8, w64 (s2.2 + 1)))
   else
    some (.inr s2.1)) ([], 0)).bind fun (p9 : (List (List (Int × Int × Unit)))) =>
 some p9
def qaM : Entry := ⟨150, [.ty (.sl (.sl gT)), .ty I, .ty I], [((.sl (.sl gT)), 2001)], fun x => qL x.1 x.2.1 x.2.2⟩
def qgW : TH := qbV [([], 150, .block 0, { lv := [⟨none, 7, 0⟩], ps := [((.sl (.sl gT)), 2001)], D := ⟨8589931392⟩ }),
 ([], 150, .loop 0, { lv := [⟨none, 7, 0⟩, ⟨none, 12, 0⟩], ps := [((.sl (.sl gT)), 2001), (I, 0)], D := ⟨8589931392⟩ }),
 ([], 150, .cond 19, { lv := [⟨none, 7, 0⟩], ps := [((.sl (.sl gT)), 2001)], D := ⟨4293918848⟩ })] []
theorem qg2 : KT qaM qgW [] 40 := fun x => by kernel_rfl
theorem qdx : OT qaM := entK qm hJ qg2
def qaH (a0 : (Int × Int × Unit)) (a1 : (Int × Int × Unit)) : Option (Int × Int × Unit) :=
 some (w64 (a0.1 - a1.1), w64 (a0.2.1 - a1.2.1), ())
def qbw : Entry := ⟨104, [.ty gT, .ty gT], [(gT, 0)], fun x => qaH x.1 x.2⟩
def qiI : TH := qbV [] []
theorem qjd : KT qbw qiI [] 40 := fun x => by kernel_rfl
theorem qe9 : OT qbw := entK qm hJ qjd
def q6 (n : Nat) : (List (List (Int × Int × Unit))) -> Option (Int × Int × Unit) :=
 Nat.rec (motive := fun _ => (List (List (Int × Int × Unit))) -> Option (Int × Int × Unit)) (fun _ => none) (fun _ ih a0 =>
 bif decide ((a0.length : Int) = 0) then
  some (1, 0, ())
 else
  (qp (fun (s2 : (Int × Int × Int)) =>
    bif decide (s2.1 < (a0.length : Int)) then
     (qaw a0 (0 : Int) s2.1).bind fun x3 =>
     (qL a0 (0 : Int) s2.1).bind fun x4 =>
     (ih x4).bind fun x5 =>
     (q4 x3 x5).bind fun x6 =>
     (bif decide (s2.1.tmod 2 = 1) then
       (qaH (0, 0, ()) x6).bind fun x7 =>
       some (x7.1, x7.2.1)
      else
       some (x6.1, x6.2.1)).bind fun (p8 : (Int × Int)) =>
     (qaR (s2.2.1, s2.2.2, ()) (p8.1, p8.2, ())).bind fun x9 =>
     some (.inl (w64 (s2.1 + 1), x9.1, x9.2.1))
    else
     some (.inr (s2.2.1, s2.2.2))) (0, 0, 0)).bind fun (p10 : (Int × Int)) =>
  some (p10.1, p10.2, ())) n
def qS : (List (List (Int × Int × Unit))) -> Option (Int × Int × Unit) := q6 12
def qaN : Entry := ⟨136, [.ty (.sl (.sl gT))], [(gT, 0)], fun x => qS x⟩
def qfg : TH := qbV [([], 136, .block 0, { lv := [⟨some 0, 3, 0⟩, ⟨some 0, 3, 1⟩], ps := [(I, 0), (I, 0)], D := ⟨8589930544⟩, wr := [⟨0, 3⟩, ⟨0, 5⟩] }),
 ([], 136, .loop 0, { lv := [⟨none, 12, 0⟩, ⟨some 0, 3, 0⟩, ⟨some 0, 3, 1⟩], ps := [(I, 0), (I, 0), (I, 0)], D := ⟨8589930544⟩, wr := [⟨0, 3⟩, ⟨0, 5⟩], rs := [⟨0, 5⟩], Dn := ⟨8589930512⟩ }),
 ([], 136, .cond 25, { lv := [⟨some 0, 5, 0⟩, ⟨some 0, 5, 1⟩], ps := [(I, 0), (I, 0)], D := ⟨469762048⟩, wr := [⟨0, 5⟩] })] []
def qD (n : Nat) : Entry := ⟨136, [.ty (.sl (.sl gT))], [(gT, 0)], fun x => q6 n x⟩
theorem qff (n : Nat) (x : denP (qD (n + 1)).ps) : fnT Tryz.prog Hn.hints qfg (qvg [(qD n), qbe, qaM, qbw, qaV, qU]) 40 136 (qjN (qD (n + 1)).ps x) (qD (n + 1)).rs = (qD (n + 1)).F x := by kernel_rfl
theorem qbO : ∀ n, qeg Tryz.prog Hn.hints Lb (qD n)
 | 0 => fun x y h => by cases (show none = some y from h)
 | n + 1 => qpM (qh (qbO n) (qh qdK (qh qdx (qh qe9 (qh qdb (qh qas qm)))))) hJ 40 _ _ _ _ (qff n)
theorem qb8 : qeg Tryz.prog Hn.hints Lb qaN := qbO 12
def qcn (a0 : ((List (List (Int × Int × Unit))) × (List (List (Int × Int × Unit))) × Unit)) : Option (((List (List (Int × Int × Unit))) × (List (List (Int × Int × Unit))) × Unit) × (Int × Int × Unit) × Int) :=
 (bif decide ((a0.1.length : Int) > 0) then
   (ql (decide ((a0.2.1.length : Int) = (a0.1.length : Int))) (10 : Int)).bind fun x1 =>
   (ql (decide ((a0.1.length : Int) <= 6)) (8 : Int)).bind fun x2 =>
   (qO ([x1, x2])).bind fun x3 =>
   some x3
  else
   (ql false (10 : Int)).bind fun x4 =>
   (ql (decide ((a0.1.length : Int) <= 6)) (8 : Int)).bind fun x5 =>
   (qO ([x4, x5])).bind fun x6 =>
   some x6).bind fun (p7 : Int) =>
 bif !(decide (p7 = 0)) then
  some (([], [], ()), (0, 0, ()), p7)
 else
  (idx a0.1 0).bind fun x8 =>
  (qp (fun (s10 : (Int × Int)) =>
    bif decide (s10.2 < (a0.1.length : Int)) then
     (idx a0.1 s10.2).bind fun x11 =>
     (idx a0.2.1 s10.2).bind fun x12 =>
     (bif decide (w64 (0 + (x11.length : Int)) < 0) then
       none
      else
       bif decide (w64 ((w64 (0 + (x11.length : Int))) + (x12.length : Int)) < 0) then
        none
       else
        bif decide (w64 ((w64 (0 + (x11.length : Int))) + (x12.length : Int)) < 0) then
         none
        else
         let v13 : Bool := decide (w64 ((w64 ((w64 (0 + (x11.length : Int))) + (x12.length : Int))) - 0) > 0)
         bif v13 then
          bif (decide (0 < w64 ((w64 ((w64 (0 + (x11.length : Int))) + (x12.length : Int))) - 0)) && decide (w64 ((w64 ((w64 (0 + (x11.length : Int))) + (x12.length : Int))) - 0) <= 4294967296)) then
           bif List.isEmpty x11 then
            bif List.isEmpty x12 then
             ((qp (fun (s15 : Int) =>
                bif decide (s15 < 0) then
                 none
                else
                 some (.inr (.inl ()))) 0).bind (Sum.elim (fun (p16 : Unit) =>
              some (-1)) some)).bind fun (p17 : Int) =>
             some (decide (p17 >= 0))
            else
             (app [] x12).bind fun x18 =>
             ((qp (fun (s20 : Int) =>
                bif decide (s20 < (x18.length : Int)) then
                 (idx x18 s20).bind fun x21 =>
                 (qE x21).bind fun x22 =>
                 bif x22 then
                  some (.inr (.inr s20))
                 else
                  some (.inl (w64 (s20 + 1)))
                else
                 some (.inr (.inl ()))) 0).bind (Sum.elim (fun (p23 : Unit) =>
              some (-1)) some)).bind fun (p24 : Int) =>
             some (decide (p24 >= 0))
           else
            (app [] x11).bind fun x25 =>
            (app x25 x12).bind fun x26 =>
            ((qp (fun (s28 : Int) =>
               bif decide (s28 < (x26.length : Int)) then
                (idx x26 s28).bind fun x29 =>
                (qE x29).bind fun x30 =>
                bif x30 then
                 some (.inr (.inr s28))
                else
                 some (.inl (w64 (s28 + 1)))
               else
                some (.inr (.inl ()))) 0).bind (Sum.elim (fun (p31 : Unit) =>
             some (-1)) some)).bind fun (p32 : Int) =>
            some (decide (p32 >= 0))
          else
           none
         else
          bif List.isEmpty x11 then
           bif List.isEmpty x12 then
            ((qp (fun (s34 : Int) =>
               bif decide (s34 < 0) then
                none
               else
                some (.inr (.inl ()))) 0).bind (Sum.elim (fun (p35 : Unit) =>
             some (-1)) some)).bind fun (p36 : Int) =>
            some (decide (p36 >= 0))
           else
            (app [] x12).bind fun x37 =>
            ((qp (fun (s39 : Int) =>
               bif decide (s39 < (x37.length : Int)) then
                (idx x37 s39).bind fun x40 =>
                (qE x40).bind fun x41 =>
                bif x41 then
                 some (.inr (.inr s39))
                else
                 some (.inl (w64 (s39 + 1)))
               else
                some (.inr (.inl ()))) 0).bind (Sum.elim (fun (p42 : Unit) =>
             some (-1)) some)).bind fun (p43 : Int) =>
            some (decide (p43 >= 0))
          else
           (app [] x11).bind fun x44 =>
           (app x44 x12).bind fun x45 =>
           ((qp (fun (s47 : Int) =>
              bif decide (s47 < (x45.length : Int)) then
               (idx x45 s47).bind fun x48 =>
               (qE x48).bind fun x49 =>
               bif x49 then
                some (.inr (.inr s47))
               else
                some (.inl (w64 (s47 + 1)))
              else
               some (.inr (.inl ()))) 0).bind (Sum.elim (fun (p50 : Unit) =>
            some (-1)) some)).bind fun (p51 : Int) =>
           some (decide (p51 >= 0))).bind fun (p52 : Bool) =>
     (bif decide ((x11.length : Int) > 0) then
       bif decide ((x11.length : Int) = (x8.length : Int)) then
        (ql (decide ((x12.length : Int) = (x8.length : Int))) (10 : Int)).bind fun x53 =>
        (ql (decide ((x11.length : Int) <= 3)) (8 : Int)).bind fun x54 =>
        (ql (!p52) (2 : Int)).bind fun x55 =>
        (qO ([s10.1, x53, x54, x55])).bind fun x56 =>
        some x56
       else
        (ql false (10 : Int)).bind fun x57 =>
        (ql (decide ((x11.length : Int) <= 3)) (8 : Int)).bind fun x58 =>
        (ql (!p52) (2 : Int)).bind fun x59 =>
        (qO ([s10.1, x57, x58, x59])).bind fun x60 =>
        some x60
      else
       (ql false (10 : Int)).bind fun x61 =>
       (ql (decide ((x11.length : Int) <= 3)) (8 : Int)).bind fun x62 =>
       (ql (!p52) (2 : Int)).bind fun x63 =>
       (qO ([s10.1, x61, x62, x63])).bind fun x64 =>
       some x64).bind fun (p65 : Int) =>
     some (.inl (p65, w64 (s10.2 + 1)))
    else
     some (.inr s10.1)) (p7, 0)).bind fun (p66 : Int) =>
  bif !(decide (p66 = 0)) then
   some (([], [], ()), (0, 0, ()), p66)
  else
   (qd6 (a0.1, a0.2.1, ()) (x8.length : Int)).bind fun x67 =>
   (qS x67.1).bind fun x68 =>
   let v69 : Bool := !(bif decide (x68.1 = 0) then (bif decide (x68.2.1 = 0) then true else false) else false)
   (ql v69 (11 : Int)).bind fun x70 =>
   some (x67, x68, x70)
def qcB : Entry := ⟨78, [.ty (.pair (.sl (.sl gT)) (.pair (.sl (.sl gT)) .unit))], [((.pair (.sl (.sl gT)) (.pair (.sl (.sl gT)) .unit)), 2000), (gT, 0), (I, 0)], fun x => qcn x⟩
def qlO : TH := qbV [([], 78, .region 1, { lv := [⟨none, 5, 0⟩], ps := [(I, 0)], D := ⟨17179861024⟩, rs := [⟨0, 1⟩], Dn := ⟨17043275808⟩ }),
 ([], 78, .block 0, { lv := [⟨none, 5, 0⟩], ps := [(I, 0)], D := ⟨618970019642549399961208736⟩ }),
 ([], 78, .loop 0, { lv := [⟨none, 5, 0⟩, ⟨none, 47, 0⟩], ps := [(I, 0), (I, 0)], D := ⟨618970019642549399961208736⟩, rs := [⟨0, 1⟩], Dn := ⟨618970019638045800333838240⟩ }),
 ([], 78, .region 9, { lv := [⟨none, 10, 0⟩], ps := [(.bool, 0)], D := ⟨4467570830351533056⟩ }),
 ([7, 61], 183, .inl 0, { lv := [⟨none, 4, 0⟩], ps := [(I, 0)], D := ⟨524272⟩ }),
 ([7, 61], 183, .block 0, { lv := [], ps := [], abn := true, D := ⟨524064⟩ }),
 ([7, 61], 183, .loop 0, { lv := [⟨none, 8, 0⟩], ps := [(I, 0)], D := ⟨524064⟩ }),
 ([], 78, .region 10, { lv := [⟨none, 5, 0⟩], ps := [(I, 0)], D := ⟨309485005209659050297393184⟩ })] [([], 78, 60), ([], 78, 61), ([60], 146, 24), ([61], 145, 7)]
theorem qlP : KT qcB qlO [qeC, qaN, qdm, qfG, qdS] 40 := fun x => by kernel_rfl
theorem qgN : OT qcB := entK (qh qjW (qh qb8 (qh qku (qh qol (qh qiA qm))))) hJ qlP
def qap (a0 : Int) (a1 : Int) (a2 : (List (List (Int × Int × Unit)))) (a3 : (Int × Int × Unit)) : Option (Int × Int × Unit) :=
 (qL a2 a1 a0).bind fun x1 =>
 (qS x1).bind fun x2 =>
 (qaT a3).bind fun x3 =>
 (q4 x2 x3).bind fun x4 =>
 bif decide ((w64 (a0 + a1)).tmod 2 = 1) then
  (qaH (0, 0, ()) x4).bind fun x5 =>
  some x5
 else
  some x4
def qbc : Entry := ⟨149, [.ty I, .ty I, .ptr (.sl (.sl gT)), .ptr gT], [(gT, 0)], fun x => qap x.1 x.2.1 x.2.2.1 x.2.2.2⟩
def qfQ : TH := qbV [] []
theorem qf0 : KT qbc qfQ [qaN, qaM, qa3, qbw, qU] 40 := fun x => by kernel_rfl
theorem qfN : OT qbc := entK (qh qb8 (qh qdx (qh qcW (qh qe9 (qh qas qm))))) hJ qf0
def qG (a0 : Int) (a1 : Int) (a2 : (List (List (Int × Int × Unit)))) (a3 : (Int × Int × Unit)) : Option (List (List (Int × Int × Unit))) :=
 (mkS ([] : (List (Int × Int × Unit))) a0).bind fun x1 =>
 bif decide (a0 = a0) then
  (qp (fun (s3 : ((List (List (Int × Int × Unit))) × Int)) =>
    bif decide (s3.2 < (x1.length : Int)) then
     (qp (fun (s5 : ((List (List (Int × Int × Unit))) × Int)) =>
       bif decide (s5.2 < a1) then
        (idx s5.1 s3.2).bind fun x6 =>
        (qap s3.2 s5.2 a2 a3).bind fun x7 =>
        (idx s5.1 s3.2).bind fun x8 =>
        (app x8 ([x7])).bind fun x9 =>
        (idx s5.1 s3.2).bind fun x10 =>
        bif decide (s3.2 = s3.2) then
         let l11 : (List (List (Int × Int × Unit))) := List.set s5.1 s3.2.toNat x9
         some (.inl (l11, w64 (s5.2 + 1)))
        else
         none
       else
        some (.inr s5.1)) (s3.1, 0)).bind fun (p12 : (List (List (Int × Int × Unit)))) =>
     some (.inl (p12, w64 (s3.2 + 1)))
    else
     some (.inr s3.1)) (x1, 0)).bind fun (p13 : (List (List (Int × Int × Unit)))) =>
  some p13
 else
  none
def qW : Entry := ⟨85, [.ty I, .ty I, .fn 149 [.p (.sl (.sl gT)), .p gT]], [((.sl (.sl gT)), 2)], fun x => qG x.1 x.2.1 x.2.2.1 x.2.2.2⟩
def qb5 : TH := qbV [([], 85, .block 0, { lv := [⟨none, 7, 0⟩], ps := [((.sl (.sl gT)), 2)], D := ⟨68719467392⟩ }),
 ([], 85, .loop 0, { lv := [⟨none, 7, 0⟩, ⟨none, 14, 0⟩], ps := [((.sl (.sl gT)), 2), (I, 0)], D := ⟨68719467392⟩ }),
 ([], 85, .block 2, { lv := [⟨none, 7, 0⟩], ps := [((.sl (.sl gT)), 2)], D := ⟨34359476864⟩ }),
 ([], 85, .loop 2, { lv := [⟨none, 7, 0⟩, ⟨none, 18, 0⟩], ps := [((.sl (.sl gT)), 2), (I, 0)], D := ⟨34359476864⟩ })] []
theorem qb6 : KT qW qb5 [qbc] 40 := fun x => by kernel_rfl
theorem qb4 : OT qW := entK (qh qfN qm) hJ qb6
def qbq (a0 : (List Int)) : Option Int :=
 (qp (fun (s2 : (Int × Int)) =>
   bif decide (s2.2 < (a0.length : Int)) then
    (idx a0 s2.2).bind fun x3 =>
    (qp (fun (s5 : (Int × Int)) =>
      bif !(decide (s5.2 = 0)) then
       bif decide (s5.2 = 0) then
        none
       else
        some (.inl (s5.2, s5.1.tmod s5.2))
      else
       some (.inr s5.1)) (s2.1, x3)).bind fun (p6 : Int) =>
    some (.inl (p6, w64 (s2.2 + 1)))
   else
    some (.inr s2.1)) (0, 0)).bind fun (p7 : Int) =>
 some (max p7 (w64 (0 - p7)))
def qc9 : Entry := ⟨151, [.ty (.sl I)], [(I, 0)], fun x => qbq x⟩
def qmz : TH := qbV [([], 151, .block 0, { lv := [⟨none, 3, 0⟩], ps := [(I, 0)], D := ⟨524072⟩ }),
 ([], 151, .loop 0, { lv := [⟨none, 3, 0⟩, ⟨none, 8, 0⟩], ps := [(I, 0), (I, 0)], D := ⟨524072⟩ }),
 ([], 151, .block 2, { lv := [⟨none, 3, 0⟩], ps := [(I, 0)], D := ⟨258088⟩ }),
 ([], 151, .loop 2, { lv := [⟨none, 3, 0⟩, ⟨none, 5, 0⟩], ps := [(I, 0), (I, 0)], D := ⟨258088⟩ })] []
theorem qmr : KT qc9 qmz [] 40 := fun x => by kernel_rfl
theorem qhE : OT qc9 := entK qm hJ qmr
def qbB (a0 : Int) (a1 : Int) (a2 : (List (List (Int × Int × Unit)))) (a3 : Int) : Option (Int × Int × Unit) :=
 (idx a2 a0).bind fun x1 =>
 (idx x1 a1).bind fun x2 =>
 bif decide (a3 = 0) then
  none
 else
  (idx a2 a0).bind fun x3 =>
  (idx x3 a1).bind fun x4 =>
  bif decide (a3 = 0) then
   none
  else
   some (w64 (x2.1.tdiv a3), w64 (x4.2.1.tdiv a3), ())
def qdi : Entry := ⟨176, [.ty I, .ty I, .ptr (.sl (.sl gT)), .ptr I], [(gT, 0)], fun x => qbB x.1 x.2.1 x.2.2.1 x.2.2.2⟩
def qjy : TH := qbV [] []
theorem qjp : KT qdi qjy [] 40 := fun x => by kernel_rfl
theorem qju : OT qdi := entK qm hJ qjp
def qaa (a0 : Int) (a1 : Int) (a2 : (List (List (Int × Int × Unit)))) (a3 : Int) : Option (List (List (Int × Int × Unit))) :=
 (mkS ([] : (List (Int × Int × Unit))) a0).bind fun x1 =>
 bif decide (a0 = a0) then
  (qp (fun (s3 : ((List (List (Int × Int × Unit))) × Int)) =>
    bif decide (s3.2 < (x1.length : Int)) then
     (qp (fun (s5 : ((List (List (Int × Int × Unit))) × Int)) =>
       bif decide (s5.2 < a1) then
        (idx s5.1 s3.2).bind fun x6 =>
        (qbB s3.2 s5.2 a2 a3).bind fun x7 =>
        (idx s5.1 s3.2).bind fun x8 =>
        (app x8 ([x7])).bind fun x9 =>
        (idx s5.1 s3.2).bind fun x10 =>
        bif decide (s3.2 = s3.2) then
         let l11 : (List (List (Int × Int × Unit))) := List.set s5.1 s3.2.toNat x9
         some (.inl (l11, w64 (s5.2 + 1)))
        else
         none
       else
        some (.inr s5.1)) (s3.1, 0)).bind fun (p12 : (List (List (Int × Int × Unit)))) =>
     some (.inl (p12, w64 (s3.2 + 1)))
    else
     some (.inr s3.1)) (x1, 0)).bind fun (p13 : (List (List (Int × Int × Unit)))) =>
  some p13
 else
  none
def qan : Entry := ⟨85, [.ty I, .ty I, .fn 176 [.p (.sl (.sl gT)), .p I]], [((.sl (.sl gT)), 2)], fun x => qaa x.1 x.2.1 x.2.2.1 x.2.2.2⟩
def qdq : TH := qbV [([], 85, .block 0, { lv := [⟨none, 7, 0⟩], ps := [((.sl (.sl gT)), 2)], D := ⟨68719467392⟩ }),
 ([], 85, .loop 0, { lv := [⟨none, 7, 0⟩, ⟨none, 14, 0⟩], ps := [((.sl (.sl gT)), 2), (I, 0)], D := ⟨68719467392⟩ }),
 ([], 85, .block 2, { lv := [⟨none, 7, 0⟩], ps := [((.sl (.sl gT)), 2)], D := ⟨34359476864⟩ }),
 ([], 85, .loop 2, { lv := [⟨none, 7, 0⟩, ⟨none, 18, 0⟩], ps := [((.sl (.sl gT)), 2), (I, 0)], D := ⟨34359476864⟩ })] []
theorem qdn : KT qan qdq [qdi] 40 := fun x => by kernel_rfl
theorem qds : OT qan := entK (qh qju qm) hJ qdn
def qcv (a0 : (List (List (Int × Int × Unit)))) (a1 : Int) : Option (Int × (List (List (Int × Int × Unit))) × Unit) :=
 (qp (fun (s2 : (Int × Int)) =>
   bif decide (s2.1 < (a0.length : Int)) then
    (idx a0 s2.1).bind fun x3 =>
    (qp (fun (s5 : (Int × Int)) =>
      bif decide (s5.1 < (x3.length : Int)) then
       (idx x3 s5.1).bind fun x6 =>
       (qbq ([s5.2, x6.1, x6.2.1])).bind fun x7 =>
       some (.inl (w64 (s5.1 + 1), x7))
      else
       some (.inr s5.2)) (0, s2.2)).bind fun (p8 : Int) =>
    some (.inl (w64 (s2.1 + 1), p8))
   else
    some (.inr s2.2)) (0, a1)).bind fun (p9 : Int) =>
 (idx a0 0).bind fun x10 =>
 (qaa (a0.length : Int) (x10.length : Int) a0 p9).bind fun x11 =>
 bif decide (p9 = 0) then
  none
 else
  some (w64 (a1.tdiv p9), x11, ())
def qcy : Entry := ⟨128, [.ty (.sl (.sl gT)), .ty I], [((.pair I (.pair (.sl (.sl gT)) .unit)), 2)], fun x => qcv x.1 x.2⟩
def qlT : TH := qbV [([], 128, .block 0, { lv := [⟨some 0, 5, 0⟩], ps := [(I, 0)], D := ⟨8589919872⟩, wr := [⟨0, 5⟩, ⟨0, 9⟩] }),
 ([], 128, .loop 0, { lv := [⟨none, 14, 0⟩, ⟨some 0, 5, 0⟩], ps := [(I, 0), (I, 0)], D := ⟨8589919872⟩, wr := [⟨0, 5⟩, ⟨0, 9⟩] }),
 ([], 128, .block 2, { lv := [⟨some 0, 5, 0⟩], ps := [(I, 0)], D := ⟨4293920384⟩, wr := [⟨0, 5⟩, ⟨0, 9⟩] }),
 ([], 128, .loop 2, { lv := [⟨none, 20, 0⟩, ⟨some 0, 5, 0⟩], ps := [(I, 0), (I, 0)], D := ⟨4293920384⟩, wr := [⟨0, 5⟩, ⟨0, 9⟩], rs := [⟨0, 9⟩], Dn := ⟨4126147712⟩ })] []
theorem qlK : KT qcy qlT [qc9, qan] 40 := fun x => by kernel_rfl
theorem qgP : OT qcy := entK (qh qhE (qh qds qm)) hJ qlK
def qa8 (a0 : (List (List (Int × Int × Unit)))) (a1 : (Int × Int × Unit)) : Option (Int × (List (List (Int × Int × Unit))) × Unit) :=
 (qG (a0.length : Int) (a0.length : Int) a0 a1).bind fun x1 =>
 (qaT a1).bind fun x2 =>
 (q4 a1 x2).bind fun x3 =>
 (qcv x1 x3.1).bind fun x4 =>
 some x4
def qbF : Entry := ⟨84, [.ty (.sl (.sl gT)), .ty gT], [((.pair I (.pair (.sl (.sl gT)) .unit)), 2)], fun x => qa8 x.1 x.2⟩
def qgR : TH := qbV [] []
theorem qg0 : KT qbF qgR [qW, qcy, qa3, qU] 40 := fun x => by kernel_rfl
theorem qgY : OT qbF := entK (qh qb4 (qh qgP (qh qcW (qh qas qm)))) hJ qg0
def qaA (a0 : Int) (a1 : Int) (a2 : (List (List (Int × Int × Unit)))) (a3 : (List (List (Int × Int × Unit)))) : Option (Int × Int × Unit) :=
 (qp (fun (s2 : (Int × Int × Int)) =>
   bif decide (s2.1 < (a2.length : Int)) then
    (qaw a3 a0 s2.1).bind fun x3 =>
    (qaw a2 s2.1 a1).bind fun x4 =>
    (q4 x3 x4).bind fun x5 =>
    (qaR (s2.2.1, s2.2.2, ()) x5).bind fun x6 =>
    some (.inl (w64 (s2.1 + 1), x6.1, x6.2.1))
   else
    some (.inr (s2.2.1, s2.2.2))) (0, 0, 0)).bind fun (p7 : (Int × Int)) =>
 some (p7.1, p7.2, ())
def qbG : Entry := ⟨153, [.ty I, .ty I, .ptr (.sl (.sl gT)), .ptr (.sl (.sl gT))], [(gT, 0)], fun x => qaA x.1 x.2.1 x.2.2.1 x.2.2.2⟩
def qgQ : TH := qbV [([], 153, .block 0, { lv := [⟨some 0, 7, 0⟩, ⟨some 0, 7, 1⟩], ps := [(I, 0), (I, 0)], D := ⟨67107072⟩, wr := [⟨0, 7⟩] }),
 ([], 153, .loop 0, { lv := [⟨none, 11, 0⟩, ⟨some 0, 7, 0⟩, ⟨some 0, 7, 1⟩], ps := [(I, 0), (I, 0), (I, 0)], D := ⟨67107072⟩, wr := [⟨0, 7⟩] })] []
theorem qg1 : KT qbG qgQ [qbe, qaV, qU] 40 := fun x => by kernel_rfl
theorem qgU : OT qbG := entK (qh qdK (qh qdb (qh qas qm))) hJ qg1
def qak (a0 : Int) (a1 : Int) (a2 : (List (List (Int × Int × Unit)))) (a3 : (List (List (Int × Int × Unit)))) : Option (List (List (Int × Int × Unit))) :=
 (mkS ([] : (List (Int × Int × Unit))) a0).bind fun x1 =>
 bif decide (a0 = a0) then
  (qp (fun (s3 : ((List (List (Int × Int × Unit))) × Int)) =>
    bif decide (s3.2 < (x1.length : Int)) then
     (qp (fun (s5 : ((List (List (Int × Int × Unit))) × Int)) =>
       bif decide (s5.2 < a1) then
        (idx s5.1 s3.2).bind fun x6 =>
        (qaA s3.2 s5.2 a2 a3).bind fun x7 =>
        (idx s5.1 s3.2).bind fun x8 =>
        (app x8 ([x7])).bind fun x9 =>
        (idx s5.1 s3.2).bind fun x10 =>
        bif decide (s3.2 = s3.2) then
         let l11 : (List (List (Int × Int × Unit))) := List.set s5.1 s3.2.toNat x9
         some (.inl (l11, w64 (s5.2 + 1)))
        else
         none
       else
        some (.inr s5.1)) (s3.1, 0)).bind fun (p12 : (List (List (Int × Int × Unit)))) =>
     some (.inl (p12, w64 (s3.2 + 1)))
    else
     some (.inr s3.1)) (x1, 0)).bind fun (p13 : (List (List (Int × Int × Unit)))) =>
  some p13
 else
  none
def qaf : Entry := ⟨85, [.ty I, .ty I, .fn 153 [.p (.sl (.sl gT)), .p (.sl (.sl gT))]], [((.sl (.sl gT)), 2)], fun x => qak x.1 x.2.1 x.2.2.1 x.2.2.2⟩
def qcu : TH := qbV [([], 85, .block 0, { lv := [⟨none, 7, 0⟩], ps := [((.sl (.sl gT)), 2)], D := ⟨68719467392⟩ }),
 ([], 85, .loop 0, { lv := [⟨none, 7, 0⟩, ⟨none, 14, 0⟩], ps := [((.sl (.sl gT)), 2), (I, 0)], D := ⟨68719467392⟩ }),
 ([], 85, .block 2, { lv := [⟨none, 7, 0⟩], ps := [((.sl (.sl gT)), 2)], D := ⟨34359476864⟩ }),
 ([], 85, .loop 2, { lv := [⟨none, 7, 0⟩, ⟨none, 18, 0⟩], ps := [((.sl (.sl gT)), 2), (I, 0)], D := ⟨34359476864⟩ })] []
theorem qcj : KT qaf qcu [qbG] 40 := fun x => by kernel_rfl
theorem qcl : OT qaf := entK (qh qgU qm) hJ qcj
def qa2 (a0 : (List (List (Int × Int × Unit)))) (a1 : (List (List (Int × Int × Unit)))) : Option (List (List (Int × Int × Unit))) :=
 (idx a1 0).bind fun x1 =>
 (qak (a0.length : Int) (x1.length : Int) a1 a0).bind fun x2 =>
 some x2
def qa7 : Entry := ⟨89, [.ty (.sl (.sl gT)), .ty (.sl (.sl gT))], [((.sl (.sl gT)), 2)], fun x => qa2 x.1 x.2⟩
def qio : TH := qbV [] []
theorem qii : KT qa7 qio [qaf] 40 := fun x => by kernel_rfl
theorem qes : OT qa7 := entK (qh qcl qm) hJ qii
def qdL (a0 : Int) (a1 : Int) (a2 : Int) : Option Bool :=
 (bif decide (a1 <= a0) then
   some (decide (a0 <= a2))
  else
   some false).bind fun (p1 : Bool) =>
 some p1
def qex : Entry := ⟨18, [.ty I, .ty I, .ty I], [(.bool, 0)], fun x => qdL x.1 x.2.1 x.2.2⟩
def qpL : TH := qbV [([], 18, .region 1, { lv := [⟨none, 6, 0⟩], ps := [(.bool, 0)], D := ⟨32704⟩ })] []
theorem qqB : KT qex qpL [] 40 := fun x => by kernel_rfl
theorem qj9 : OT qex := entK qm hJ qqB
def qa4 (a0 : (Int × Int × Unit)) (a1 : Int) : Option Bool :=
 ((qdL a0.1 (w64 (0 - a1)) a1).bind fun x1 =>
  bif x1 then
   (qdL a0.2.1 (w64 (0 - a1)) a1).bind fun x2 =>
   some x2
  else
   some false).bind fun (p3 : Bool) =>
 some p3
def qcT : Entry := ⟨114, [.ty gT, .ty I], [(.bool, 0)], fun x => qa4 x.1 x.2⟩
def qnC : TH := qbV [([], 114, .region 1, { lv := [⟨none, 4, 0⟩], ps := [(.bool, 0)], D := ⟨524272⟩, rs := [⟨0, 2⟩], Dn := ⟨520144⟩ })] []
theorem qm2 : KT qcT qnC [qex] 40 := fun x => by kernel_rfl
theorem qhv : OT qcT := entK (qh qj9 qm) hJ qm2
def qdh (a0 : ((List (List (Int × Int × Unit))) × (List (List (Int × Int × Unit))) × Unit)) : Option Int :=
 (bif decide ((a0.1.length : Int) = 0) then
   some true
  else
   some (!(decide ((a0.2.1.length : Int) = (a0.1.length : Int))))).bind fun (p1 : Bool) =>
 bif p1 then
  some 10
 else
  bif decide ((a0.1.length : Int) > 6) then
   some 8
  else
   (qp (fun (s3 : Int) =>
     bif decide (s3 < (a0.1.length : Int)) then
      (idx a0.1 s3).bind fun x4 =>
      (idx a0.2.1 s3).bind fun x5 =>
      (bif decide ((x4.length : Int) = 0) then
        some true
       else
        (idx a0.1 0).bind fun x6 =>
        bif !(decide ((x4.length : Int) = (x6.length : Int))) then
         some true
        else
         some (!(decide ((x5.length : Int) = (x4.length : Int))))).bind fun (p7 : Bool) =>
      bif p7 then
       some (.inr (.inr 10))
      else
       bif decide ((x4.length : Int) > 3) then
        some (.inr (.inr 8))
       else
        (qp (fun (s9 : Int) =>
          bif decide (s9 < (x4.length : Int)) then
           ((idx x4 s9).bind fun x10 =>
            (qa4 x10 (9 : Int)).bind fun x11 =>
            bif !x11 then
             some true
            else
             (idx x5 s9).bind fun x12 =>
             (qa4 x12 (9 : Int)).bind fun x13 =>
             some (!x13)).bind fun (p14 : Bool) =>
           bif p14 then
            some (.inr (.inr (.inr (.inr 2))))
           else
            some (.inl (w64 (s9 + 1)))
          else
           some (.inr (.inl ()))) 0).bind (Sum.elim (fun (p15 : Unit) =>
        some (.inl (w64 (s3 + 1)))) some)
     else
      some (.inr (.inl ()))) 0).bind (Sum.elim (fun (p16 : Unit) =>
   some 0) some)
def qe5 : Entry := ⟨134, [.ty (.pair (.sl (.sl gT)) (.pair (.sl (.sl gT)) .unit))], [(I, 0)], fun x => qdh x⟩
def qm1 : TH := qbV [([], 134, .region 1, { lv := [⟨none, 19, 0⟩], ps := [(.bool, 0)], D := ⟨1048448⟩, rs := [⟨0, 1⟩], Dn := ⟨1011456⟩ }),
 ([], 134, .block 0, { lv := [], ps := [], abn := true, D := ⟨19342813113834066778521720⟩, rs := [⟨0, 1⟩], Dn := ⟨19342813113834066744967288⟩ }),
 ([], 134, .loop 0, { lv := [⟨none, 3, 0⟩], ps := [(I, 0)], D := ⟨19342813113834066778521720⟩, rs := [⟨0, 1⟩], Dn := ⟨19342813113693258389651576⟩ }),
 ([], 134, .region 9, { lv := [⟨none, 60, 0⟩], ps := [(.bool, 0)], D := ⟨2305840810190438400⟩, rs := [⟨0, 1⟩], Dn := ⟨2305700072702083072⟩ }),
 ([], 134, .block 2, { lv := [], ps := [], abn := true, D := ⟨19342794667089993085747264⟩ }),
 ([], 134, .loop 2, { lv := [⟨none, 6, 0⟩], ps := [(I, 0)], D := ⟨19342794667089993085747264⟩ }),
 ([], 134, .region 16, { lv := [⟨none, 83, 0⟩], ps := [(.bool, 0)], D := ⟨19341632522213349383995392⟩ })] []
theorem qmX : KT qe5 qm1 [qcT] 40 := fun x => by kernel_rfl
theorem qoa : OT qe5 := entK (qh qhv qm) hJ qmX
def qhP (a0 : (Int × Int × Unit)) : Option (Int × Int × Unit) :=
 some (a0.1, w64 (0 - a0.2.1), ())
def qhf : Entry := ⟨95, [.ty gT], [(gT, 0)], fun x => qhP x⟩
def qr3 : TH := qbV [] []
theorem qrS : KT qhf qr3 [] 40 := fun x => by kernel_rfl
theorem qrE : OT qhf := entK qm hJ qrS
def qeV (a0 : (Int × Int × Unit)) (a1 : (Int × Int × Unit)) : Option (Int × Int × Unit) :=
 some (w64 ((w64 (a0.1 * a1.1)) - (w64 (a0.2.1 * a1.2.1))), w64 ((w64 (a0.1 * a1.2.1)) + (w64 (a0.2.1 * a1.1))), ())
def qdE : Entry := ⟨94, [.ty gT, .ty gT], [(gT, 0)], fun x => qeV x.1 x.2⟩
def qs5 : TH := qbV [] []
theorem qsq : KT qdE qs5 [] 40 := fun x => by kernel_rfl
theorem qgv : OT qdE := entK qm hJ qsq
def qf3 (a0 : (Int × Int × Unit)) (a1 : (Int × Int × Unit)) : Option (Int × Int × Unit) :=
 some (w64 (a0.1 + a1.1), w64 (a0.2.1 + a1.2.1), ())
def qe4 : Entry := ⟨68, [.ty gT, .ty gT], [(gT, 0)], fun x => qf3 x.1 x.2⟩
def qsW : TH := qbV [] []
theorem qsN : KT qe4 qsW [] 40 := fun x => by kernel_rfl
theorem qiU : OT qe4 := entK qm hJ qsN
def qX (a0 : (List (List (Int × Int × Unit)))) (a1 : (List (List (Int × Int × Unit)))) : Option (List (List (Int × Int × Unit))) :=
 (qp (fun (s3 : ((List (List (Int × Int × Unit))) × Int)) =>
   (idx a0 0).bind fun x4 =>
   bif decide (s3.2 < (x4.length : Int)) then
    (qp (fun (s7 : ((List (Int × Int × Unit)) × Int)) =>
      (idx a1 0).bind fun x8 =>
      bif decide (s7.2 < (x8.length : Int)) then
       (qp (fun (s10 : (Int × Int × Int)) =>
         bif decide (s10.1 < (a0.length : Int)) then
          (idx a0 s10.1).bind fun x11 =>
          (idx x11 s3.2).bind fun x12 =>
          (idx a1 s10.1).bind fun x13 =>
          (idx x13 s7.2).bind fun x14 =>
          (qhP x14).bind fun x15 =>
          (qeV x12 x15).bind fun x16 =>
          (qf3 (s10.2.1, s10.2.2, ()) x16).bind fun x17 =>
          some (.inl (w64 (s10.1 + 1), x17.1, x17.2.1))
         else
          some (.inr (s10.2.1, s10.2.2))) (0, 0, 0)).bind fun (p18 : (Int × Int)) =>
       (app s7.1 ([(p18.1, p18.2, ())])).bind fun x19 =>
       some (.inl (x19, w64 (s7.2 + 1)))
      else
       some (.inr s7.1)) ([], 0)).bind fun (p20 : (List (Int × Int × Unit))) =>
    (app s3.1 ([p20])).bind fun x21 =>
    some (.inl (x21, w64 (s3.2 + 1)))
   else
    some (.inr s3.1)) ([], 0)).bind fun (p22 : (List (List (Int × Int × Unit)))) =>
 some p22
def qbS : Entry := ⟨91, [.ty (.sl (.sl gT)), .ty (.sl (.sl gT))], [((.sl (.sl gT)), 2)], fun x => qX x.1 x.2⟩
def qmP : TH := qbV [([], 91, .block 0, { lv := [⟨none, 5, 0⟩], ps := [((.sl (.sl gT)), 2)], D := ⟨576460752303423456⟩, wr := [⟨0, 9⟩] }),
 ([], 91, .loop 0, { lv := [⟨none, 5, 0⟩, ⟨none, 6, 0⟩], ps := [((.sl (.sl gT)), 2), (I, 0)], D := ⟨576460752303423456⟩, wr := [⟨0, 9⟩] }),
 ([], 91, .block 2, { lv := [⟨none, 7, 0⟩], ps := [((.sl gT), 1)], D := ⟨36028797018441600⟩, wr := [⟨0, 9⟩] }),
 ([], 91, .loop 2, { lv := [⟨none, 7, 0⟩, ⟨none, 8, 0⟩], ps := [((.sl gT), 1), (I, 0)], D := ⟨36028797018441600⟩, wr := [⟨0, 9⟩], rs := [⟨0, 9⟩], Dn := ⟨36028797018441088⟩ }),
 ([], 91, .block 4, { lv := [⟨some 0, 9, 0⟩, ⟨some 0, 9, 1⟩], ps := [(I, 0), (I, 0)], D := ⟨2251799679468544⟩, wr := [⟨0, 9⟩] }),
 ([], 91, .loop 4, { lv := [⟨none, 10, 0⟩, ⟨some 0, 9, 0⟩, ⟨some 0, 9, 1⟩], ps := [(I, 0), (I, 0), (I, 0)], D := ⟨2251799679468544⟩, wr := [⟨0, 9⟩] })] []
theorem qm6 : KT qbS qmP [qe4, qhf, qdE] 40 := fun x => by kernel_rfl
theorem qe3 : OT qbS := entK (qh qiU (qh qrE (qh qgv qm))) hJ qm6
def qaY (a0 : (List (List (Int × Int × Unit)))) (a1 : Int) (a2 : Int) : Option (List (List (Int × Int × Unit))) :=
 (qp (fun (s2 : ((List (List (Int × Int × Unit))) × Int)) =>
   bif decide (s2.2 < (a0.length : Int)) then
    (bif decide (s2.2 = a1) then
      some s2.1
     else
      (qp (fun (s4 : ((List (Int × Int × Unit)) × Int)) =>
        bif decide (s4.2 < (a0.length : Int)) then
         (bif !(decide (s4.2 = a2)) then
           (idx a0 s2.2).bind fun x5 =>
           (idx x5 s4.2).bind fun x6 =>
           (app s4.1 ([x6])).bind fun x7 =>
           some x7
          else
           some s4.1).bind fun (p8 : (List (Int × Int × Unit))) =>
         some (.inl (p8, w64 (s4.2 + 1)))
        else
         some (.inr s4.1)) ([], 0)).bind fun (p9 : (List (Int × Int × Unit))) =>
      (app s2.1 ([p9])).bind fun x10 =>
      some x10).bind fun (p11 : (List (List (Int × Int × Unit)))) =>
    some (.inl (p11, w64 (s2.2 + 1)))
   else
    some (.inr s2.1)) ([], 0)).bind fun (p12 : (List (List (Int × Int × Unit)))) =>
 some p12
def qc7 : Entry := ⟨138, [.ty (.sl (.sl gT)), .ty I, .ty I], [((.sl (.sl gT)), 2)], fun x => qaY x.1 x.2.1 x.2.2⟩
def qnb : TH := qbV [([], 138, .block 0, { lv := [⟨none, 7, 0⟩], ps := [((.sl (.sl gT)), 2)], D := ⟨8796093022080⟩ }),
 ([], 138, .loop 0, { lv := [⟨none, 7, 0⟩, ⟨none, 8, 0⟩], ps := [((.sl (.sl gT)), 2), (I, 0)], D := ⟨8796093022080⟩ }),
 ([], 138, .block 1, { lv := [⟨none, 7, 0⟩], ps := [((.sl (.sl gT)), 2)], D := ⟨8796092892800⟩ }),
 ([], 138, .block 2, { lv := [⟨none, 9, 0⟩], ps := [((.sl gT), 1)], D := ⟨549754766848⟩ }),
 ([], 138, .loop 2, { lv := [⟨none, 9, 0⟩, ⟨none, 10, 0⟩], ps := [((.sl gT), 1), (I, 0)], D := ⟨549754766848⟩ }),
 ([], 138, .cond 28, { lv := [⟨none, 9, 0⟩], ps := [((.sl gT), 1)], D := ⟨549218943488⟩ })] []
theorem qnD : KT qc7 qnb [] 40 := fun x => by kernel_rfl
theorem qhA : OT qc7 := entK qm hJ qnD
def qh4 (a0 : Int) (a1 : Int) : Option Int :=
 bif decide (a1 = 0) then
  none
 else
  (bif decide (a0.tmod a1 < 0) then
    some (w64 ((a0.tmod a1) + a1))
   else
    some (a0.tmod a1)).bind fun (p1 : Int) =>
  some p1
def qh8 : Entry := ⟨67, [.ty I, .ty I], [(I, 0)], fun x => qh4 x.1 x.2⟩
def quS : TH := qbV [([], 67, .cond 9, { lv := [⟨none, 0, 0⟩], ps := [(I, 0)], D := ⟨7169⟩ })] []
theorem qvG : KT qh8 quS [] 40 := fun x => by kernel_rfl
theorem qo9 : OT qh8 := entK qm hJ qvG
def qfS (a0 : (Int × Int × Unit)) (a1 : (Int × Int × Unit)) : Option (Int × Int × Unit) :=
 some (w64 (a0.1 - a1.1), w64 (a0.2.1 - a1.2.1), ())
def qgg : Entry := ⟨41, [.ty gT, .ty gT], [(gT, 0)], fun x => qfS x.1 x.2⟩
def qsC : TH := qbV [] []
theorem qsl : KT qgg qsC [] 40 := fun x => by kernel_rfl
theorem qnX : OT qgg := entK qm hJ qsl
def qaI (n : Nat) : (List (List (Int × Int × Unit))) -> Option (Int × Int × Unit) :=
 Nat.rec (motive := fun _ => (List (List (Int × Int × Unit))) -> Option (Int × Int × Unit)) (fun _ => none) (fun _ ih a0 =>
 bif decide ((a0.length : Int) = 0) then
  some (1, 0, ())
 else
  (qp (fun (s2 : (Int × Int × Int)) =>
    bif decide (s2.1 < (a0.length : Int)) then
     (idx a0 0).bind fun x3 =>
     (idx x3 s2.1).bind fun x4 =>
     (qaY a0 (0 : Int) s2.1).bind fun x5 =>
     (ih x5).bind fun x6 =>
     (qeV x4 x6).bind fun x7 =>
     (qh4 s2.1 (2 : Int)).bind fun x8 =>
     (bif decide (x8 = 0) then
       (qf3 (s2.2.1, s2.2.2, ()) x7).bind fun x9 =>
       some (x9.1, x9.2.1)
      else
       (qfS (s2.2.1, s2.2.2, ()) x7).bind fun x10 =>
       some (x10.1, x10.2.1)).bind fun (p11 : (Int × Int)) =>
     some (.inl (w64 (s2.1 + 1), p11.1, p11.2))
    else
     some (.inr (s2.2.1, s2.2.2))) (0, 0, 0)).bind fun (p12 : (Int × Int)) =>
  some (p12.1, p12.2, ())) n
def qat : (List (List (Int × Int × Unit))) -> Option (Int × Int × Unit) := qaI 12
def qby : Entry := ⟨69, [.ty (.sl (.sl gT))], [(gT, 0)], fun x => qat x⟩
def qi8 : TH := qbV [([], 69, .block 0, { lv := [⟨some 0, 3, 0⟩, ⟨some 0, 3, 1⟩], ps := [(I, 0), (I, 0)], D := ⟨68719475760⟩, wr := [⟨0, 3⟩, ⟨0, 5⟩] }),
 ([], 69, .loop 0, { lv := [⟨none, 4, 0⟩, ⟨some 0, 3, 0⟩, ⟨some 0, 3, 1⟩], ps := [(I, 0), (I, 0), (I, 0)], D := ⟨68719475760⟩, wr := [⟨0, 3⟩, ⟨0, 5⟩], rs := [⟨0, 5⟩], Dn := ⟨68719475728⟩ }),
 ([], 69, .cond 29, { lv := [⟨some 0, 3, 0⟩, ⟨some 0, 3, 1⟩], ps := [(I, 0), (I, 0)], D := ⟨67645734912⟩, wr := [⟨0, 3⟩] })] []
def qai (n : Nat) : Entry := ⟨69, [.ty (.sl (.sl gT))], [(gT, 0)], fun x => qaI n x⟩
theorem qiY (n : Nat) (x : denP (qai (n + 1)).ps) : fnT Tryz.prog Hn.hints qi8 (qvg [(qai n), qe4, qdE, qgg, qh8, qc7]) 40 69 (qjN (qai (n + 1)).ps x) (qai (n + 1)).rs = (qai (n + 1)).F x := by kernel_rfl
theorem qd7 : ∀ n, qeg Tryz.prog Hn.hints Lb (qai n)
 | 0 => fun x y h => by cases (show none = some y from h)
 | n + 1 => qpM (qh (qd7 n) (qh qiU (qh qgv (qh qnX (qh qo9 (qh qhA qm)))))) hJ 40 _ _ _ _ (qiY n)
theorem qcJ : qeg Tryz.prog Hn.hints Lb qby := qd7 12
def qba (a0 : ((List (List (Int × Int × Unit))) × (List (List (Int × Int × Unit))) × Unit)) : Option Int :=
 (qdh (a0.1, a0.2.1, ())).bind fun x1 =>
 bif !(decide (x1 = 0)) then
  some x1
 else
  (qX a0.1 a0.1).bind fun x2 =>
  (qat x2).bind fun x3 =>
  let v4 : Bool := (bif decide (x3.1 = 0) then (bif decide (x3.2.1 = 0) then true else false) else false)
  bif v4 then
   some 11
  else
   some 0
def qbs : Entry := ⟨56, [.ty (.pair (.sl (.sl gT)) (.pair (.sl (.sl gT)) .unit))], [(I, 0)], fun x => qba x⟩
def qiR : TH := qbV [] []
theorem qi0 : KT qbs qiR [qbS, qby, qe5] 40 := fun x => by kernel_rfl
theorem qe8 : OT qbs := entK (qh qe3 (qh qcJ (qh qoa qm))) hJ qi0
def qdW (a0 : (List (List (Int × Int × Unit)))) : Option (List (List (Int × Int × Unit))) :=
 (qp (fun (s3 : ((List (List (Int × Int × Unit))) × Int)) =>
   bif decide (s3.2 < (a0.length : Int)) then
    (qp (fun (s6 : ((List (Int × Int × Unit)) × Int)) =>
      bif decide (s6.2 < (a0.length : Int)) then
       (qaY a0 s6.2 s3.2).bind fun x7 =>
       (qat x7).bind fun x8 =>
       (qh4 (w64 (s3.2 + s6.2)) (2 : Int)).bind fun x9 =>
       (bif decide (x9 = 1) then
         (qfS (0, 0, ()) x8).bind fun x10 =>
         some (x10.1, x10.2.1)
        else
         some (x8.1, x8.2.1)).bind fun (p11 : (Int × Int)) =>
       (app s6.1 ([(p11.1, p11.2, ())])).bind fun x12 =>
       some (.inl (x12, w64 (s6.2 + 1)))
      else
       some (.inr s6.1)) ([], 0)).bind fun (p13 : (List (Int × Int × Unit))) =>
    (app s3.1 ([p13])).bind fun x14 =>
    some (.inl (x14, w64 (s3.2 + 1)))
   else
    some (.inr s3.1)) ([], 0)).bind fun (p15 : (List (List (Int × Int × Unit)))) =>
 some p15
def qel : Entry := ⟨93, [.ty (.sl (.sl gT))], [((.sl (.sl gT)), 2)], fun x => qdW x⟩
def qlI : TH := qbV [([], 93, .block 0, { lv := [⟨none, 3, 0⟩], ps := [((.sl (.sl gT)), 2)], D := ⟨2199023255544⟩, wr := [⟨0, 7⟩] }),
 ([], 93, .loop 0, { lv := [⟨none, 3, 0⟩, ⟨none, 4, 0⟩], ps := [((.sl (.sl gT)), 2), (I, 0)], D := ⟨2199023255544⟩, wr := [⟨0, 7⟩] }),
 ([], 93, .block 2, { lv := [⟨none, 5, 0⟩], ps := [((.sl gT), 1)], D := ⟨137438937312⟩, wr := [⟨0, 7⟩] }),
 ([], 93, .loop 2, { lv := [⟨none, 5, 0⟩, ⟨none, 6, 0⟩], ps := [((.sl gT), 1), (I, 0)], D := ⟨137438937312⟩, wr := [⟨0, 7⟩], rs := [⟨0, 7⟩], Dn := ⟨137438937184⟩ }),
 ([], 93, .cond 29, { lv := [⟨some 0, 7, 0⟩, ⟨some 0, 7, 1⟩], ps := [(I, 0), (I, 0)], D := ⟨7516192768⟩, wr := [⟨0, 7⟩] })] []
theorem qlM : KT qel qlI [qgg, qh8, qby, qc7] 40 := fun x => by kernel_rfl
theorem qlR : OT qel := entK (qh qnX (qh qo9 (qh qcJ (qh qhA qm)))) hJ qlM
def qdf (a0 : (List (List (Int × Int × Unit)))) (a1 : (List (List (Int × Int × Unit)))) : Option (List (List (Int × Int × Unit))) :=
 (qp (fun (s3 : ((List (List (Int × Int × Unit))) × Int)) =>
   bif decide (s3.2 < (a0.length : Int)) then
    (qp (fun (s6 : ((List (Int × Int × Unit)) × Int)) =>
      (idx a1 0).bind fun x7 =>
      bif decide (s6.2 < (x7.length : Int)) then
       (qp (fun (s9 : (Int × Int × Int)) =>
         bif decide (s9.1 < (a1.length : Int)) then
          (idx a0 s3.2).bind fun x10 =>
          (idx x10 s9.1).bind fun x11 =>
          (idx a1 s9.1).bind fun x12 =>
          (idx x12 s6.2).bind fun x13 =>
          (qeV x11 x13).bind fun x14 =>
          (qf3 (s9.2.1, s9.2.2, ()) x14).bind fun x15 =>
          some (.inl (w64 (s9.1 + 1), x15.1, x15.2.1))
         else
          some (.inr (s9.2.1, s9.2.2))) (0, 0, 0)).bind fun (p16 : (Int × Int)) =>
       (app s6.1 ([(p16.1, p16.2, ())])).bind fun x17 =>
       some (.inl (x17, w64 (s6.2 + 1)))
      else
       some (.inr s6.1)) ([], 0)).bind fun (p18 : (List (Int × Int × Unit))) =>
    (app s3.1 ([p18])).bind fun x19 =>
    some (.inl (x19, w64 (s3.2 + 1)))
   else
    some (.inr s3.1)) ([], 0)).bind fun (p20 : (List (List (Int × Int × Unit)))) =>
 some p20
def qc2 : Entry := ⟨92, [.ty (.sl (.sl gT)), .ty (.sl (.sl gT))], [((.sl (.sl gT)), 2)], fun x => qdf x.1 x.2⟩
def qny : TH := qbV [([], 92, .block 0, { lv := [⟨none, 5, 0⟩], ps := [((.sl (.sl gT)), 2)], D := ⟨72057594037927904⟩, wr := [⟨0, 9⟩] }),
 ([], 92, .loop 0, { lv := [⟨none, 5, 0⟩, ⟨none, 6, 0⟩], ps := [((.sl (.sl gT)), 2), (I, 0)], D := ⟨72057594037927904⟩, wr := [⟨0, 9⟩] }),
 ([], 92, .block 2, { lv := [⟨none, 7, 0⟩], ps := [((.sl gT), 1)], D := ⟨4503599627241344⟩, wr := [⟨0, 9⟩] }),
 ([], 92, .loop 2, { lv := [⟨none, 7, 0⟩, ⟨none, 8, 0⟩], ps := [((.sl gT), 1), (I, 0)], D := ⟨4503599627241344⟩, wr := [⟨0, 9⟩], rs := [⟨0, 9⟩], Dn := ⟨4503599627240832⟩ }),
 ([], 92, .block 4, { lv := [⟨some 0, 9, 0⟩, ⟨some 0, 9, 1⟩], ps := [(I, 0), (I, 0)], D := ⟨281474943157248⟩, wr := [⟨0, 9⟩] }),
 ([], 92, .loop 4, { lv := [⟨none, 10, 0⟩, ⟨some 0, 9, 0⟩, ⟨some 0, 9, 1⟩], ps := [(I, 0), (I, 0), (I, 0)], D := ⟨281474943157248⟩, wr := [⟨0, 9⟩] })] []
theorem qmt : KT qc2 qny [qe4, qdE] 40 := fun x => by kernel_rfl
theorem qg5 : OT qc2 := entK (qh qiU (qh qgv qm)) hJ qmt
def qj7 (a0 : Int) : Option Int :=
 some (max a0 (w64 (0 - a0)))
def qiW : Entry := ⟨42, [.ty I], [(I, 0)], fun x => qj7 x⟩
def qsp : TH := qbV [] []
theorem qsK : KT qiW qsp [] 40 := fun x => by kernel_rfl
theorem qsL : OT qiW := entK qm hJ qsK
def qeD (a0 : Int) (a1 : Int) : Option Int :=
 (qp (fun (s2 : (Int × Int)) =>
   bif !(decide (s2.2 = 0)) then
    bif decide (s2.2 = 0) then
     none
    else
     some (.inl (s2.2, s2.1.tmod s2.2))
   else
    some (.inr s2.1)) (a0, a1)).bind fun (p3 : Int) =>
 (qj7 p3).bind fun x4 =>
 some x4
def qig : Entry := ⟨155, [.ty I, .ty I], [(I, 0)], fun x => qeD x.1 x.2⟩
def qvb : TH := qbV [([], 155, .block 0, { lv := [⟨none, 0, 0⟩], ps := [(I, 0)], D := ⟨2019⟩ }),
 ([], 155, .loop 0, { lv := [⟨none, 0, 0⟩, ⟨none, 1, 0⟩], ps := [(I, 0), (I, 0)], D := ⟨2019⟩ })] []
theorem qvy : KT qig qvb [qiW] 40 := fun x => by kernel_rfl
theorem qpe : OT qig := entK (qh qsL qm) hJ qvy
def qjv (a0 : (List (List (Int × Int × Unit)))) : Option Bool :=
 (qdN a0 (5 : Int)).bind fun x1 =>
 some x1
def qi6 : Entry := ⟨51, [.ty (.sl (.sl gT))], [(.bool, 0)], fun x => qjv x⟩
def qtm : TH := qbV [] []
theorem qtl : KT qi6 qtm [qeF] 40 := fun x => by kernel_rfl
theorem qty : OT qi6 := entK (qh qj0 qm) hJ qtl
def qbN (a0 : (Int × (List (List (Int × Int × Unit))) × Unit)) : Option (Int × (List (List (Int × Int × Unit))) × Unit) :=
 (qaQ a0.2.1).bind fun x1 =>
 some (a0.1, x1, ())
def qcc : Entry := ⟨54, [.ty (.pair I (.pair (.sl (.sl gT)) .unit))], [((.pair I (.pair (.sl (.sl gT)) .unit)), 2)], fun x => qbN x⟩
def qil : TH := qbV [] []
theorem qiq : KT qcc qil [qbJ] 40 := fun x => by kernel_rfl
theorem qik : OT qcc := entK (qh qfk qm) hJ qiq
def qb3 (a0 : (Int × (List (List (Int × Int × Unit))) × Unit)) (a1 : Int) : Option Int :=
 (qd8 a0.1 (1 : Int) (100000000000 : Int)).bind fun x1 =>
 (ql x1 (2 : Int)).bind fun x2 =>
 (ql (decide ((a0.2.1.length : Int) = a1)) (10 : Int)).bind fun x3 =>
 (qO ([x2, x3])).bind fun x4 =>
 (qp (fun (s6 : (Int × Int)) =>
   bif decide (s6.2 < (a0.2.1.length : Int)) then
    (idx a0.2.1 s6.2).bind fun x7 =>
    (ql (decide ((x7.length : Int) = a1)) (10 : Int)).bind fun x8 =>
    (qO ([s6.1, x8])).bind fun x9 =>
    some (.inl (x9, w64 (s6.2 + 1)))
   else
    some (.inr s6.1)) (x4, 0)).bind fun (p10 : Int) =>
 bif !(decide (p10 = 0)) then
  some p10
 else
  (qp (fun (s12 : (Int × Int)) =>
    bif decide (s12.2 < (a0.2.1.length : Int)) then
     (idx a0.2.1 s12.2).bind fun x13 =>
     (qp (fun (s15 : (Int × Int)) =>
       bif decide (s15.2 < (x13.length : Int)) then
        (idx x13 s15.2).bind fun x16 =>
        (qaK x16 (100000000000 : Int)).bind fun x17 =>
        bif !x17 then
         some (.inr (.inr (.inr (.inr 2))))
        else
         (qbq ([s15.1, x16.1, x16.2.1])).bind fun x18 =>
         some (.inl (x18, w64 (s15.2 + 1)))
       else
        some (.inr (.inl s15.1))) (s12.1, 0)).bind (Sum.elim (fun (p19 : Int) =>
     some (.inl (p19, w64 (s12.2 + 1)))) some)
    else
     some (.inr (.inl s12.1))) (a0.1, 0)).bind (Sum.elim (fun (p20 : Int) =>
  (ql (decide (p20 = 1)) (3 : Int)).bind fun x21 =>
  some x21) some)
def qcO : Entry := ⟨129, [.ty (.pair I (.pair (.sl (.sl gT)) .unit)), .ty I], [(I, 0)], fun x => qb3 x.1 x.2⟩
def qiN : TH := qbV [([], 129, .block 0, { lv := [⟨none, 5, 0⟩], ps := [(I, 0)], D := ⟨2198754821280⟩ }),
 ([], 129, .loop 0, { lv := [⟨none, 5, 0⟩, ⟨none, 28, 0⟩], ps := [(I, 0), (I, 0)], D := ⟨2198754821280⟩ }),
 ([], 129, .block 2, { lv := [⟨none, 8, 0⟩], ps := [(I, 0)], abn := true, D := ⟨2361182678484869191040⟩, wr := [⟨0, 12⟩] }),
 ([], 129, .loop 2, { lv := [⟨none, 8, 0⟩, ⟨none, 49, 0⟩], ps := [(I, 0), (I, 0)], D := ⟨2361182678484869191040⟩, wr := [⟨0, 12⟩] }),
 ([], 129, .block 4, { lv := [⟨none, 8, 0⟩], ps := [(I, 0)], abn := true, D := ⟨1180555591920392344960⟩, wr := [⟨0, 12⟩] }),
 ([], 129, .loop 4, { lv := [⟨none, 8, 0⟩, ⟨none, 55, 0⟩], ps := [(I, 0), (I, 0)], D := ⟨1180555591920392344960⟩, wr := [⟨0, 12⟩], rs := [⟨0, 12⟩], Dn := ⟨1134438731736118461824⟩ })] []
theorem qi9 : KT qcO qiN [qc9, qeC, qdS, qa0, qdV] 40 := fun x => by kernel_rfl
theorem qiP : OT qcO := entK (qh qhE (qh qjW (qh qiA (qh qd3 (qh qiH qm))))) hJ qi9
def qax (a0 : Int) (a1 : Int) (a2 : (List (List (Int × Int × Unit)))) (a3 : Int) : Option (Int × Int × Unit) :=
 (qaw a2 a0 a1).bind fun x1 =>
 (q4 x1 (a3, 0, ())).bind fun x2 =>
 some x2
def qbl : Entry := ⟨165, [.ty I, .ty I, .ptr (.sl (.sl gT)), .ptr I], [(gT, 0)], fun x => qax x.1 x.2.1 x.2.2.1 x.2.2.2⟩
def qgz : TH := qbV [] []
theorem qgq : KT qbl qgz [qbe, qU] 40 := fun x => by kernel_rfl
theorem qgH : OT qbl := entK (qh qdK (qh qas qm)) hJ qgq
def qH (a0 : Int) (a1 : Int) (a2 : (List (List (Int × Int × Unit)))) (a3 : Int) : Option (List (List (Int × Int × Unit))) :=
 (mkS ([] : (List (Int × Int × Unit))) a0).bind fun x1 =>
 bif decide (a0 = a0) then
  (qp (fun (s3 : ((List (List (Int × Int × Unit))) × Int)) =>
    bif decide (s3.2 < (x1.length : Int)) then
     (qp (fun (s5 : ((List (List (Int × Int × Unit))) × Int)) =>
       bif decide (s5.2 < a1) then
        (idx s5.1 s3.2).bind fun x6 =>
        (qax s3.2 s5.2 a2 a3).bind fun x7 =>
        (idx s5.1 s3.2).bind fun x8 =>
        (app x8 ([x7])).bind fun x9 =>
        (idx s5.1 s3.2).bind fun x10 =>
        bif decide (s3.2 = s3.2) then
         let l11 : (List (List (Int × Int × Unit))) := List.set s5.1 s3.2.toNat x9
         some (.inl (l11, w64 (s5.2 + 1)))
        else
         none
       else
        some (.inr s5.1)) (s3.1, 0)).bind fun (p12 : (List (List (Int × Int × Unit)))) =>
     some (.inl (p12, w64 (s3.2 + 1)))
    else
     some (.inr s3.1)) (x1, 0)).bind fun (p13 : (List (List (Int × Int × Unit)))) =>
  some p13
 else
  none
def q7 : Entry := ⟨85, [.ty I, .ty I, .fn 165 [.p (.sl (.sl gT)), .p I]], [((.sl (.sl gT)), 2)], fun x => qH x.1 x.2.1 x.2.2.1 x.2.2.2⟩
def qcg : TH := qbV [([], 85, .block 0, { lv := [⟨none, 7, 0⟩], ps := [((.sl (.sl gT)), 2)], D := ⟨68719467392⟩ }),
 ([], 85, .loop 0, { lv := [⟨none, 7, 0⟩, ⟨none, 14, 0⟩], ps := [((.sl (.sl gT)), 2), (I, 0)], D := ⟨68719467392⟩ }),
 ([], 85, .block 2, { lv := [⟨none, 7, 0⟩], ps := [((.sl (.sl gT)), 2)], D := ⟨34359476864⟩ }),
 ([], 85, .loop 2, { lv := [⟨none, 7, 0⟩, ⟨none, 18, 0⟩], ps := [((.sl (.sl gT)), 2), (I, 0)], D := ⟨34359476864⟩ })] []
theorem qcf : KT q7 qcg [qbl] 40 := fun x => by kernel_rfl
theorem qb9 : OT q7 := entK (qh qgH qm) hJ qcf
def qbu (a0 : (List (List (Int × Int × Unit)))) (a1 : Int) : Option (List (List (Int × Int × Unit))) :=
 (idx a0 0).bind fun x1 =>
 (qH (a0.length : Int) (x1.length : Int) a0 a1).bind fun x2 =>
 some x2
def qbT : Entry := ⟨117, [.ty (.sl (.sl gT)), .ty I], [((.sl (.sl gT)), 2)], fun x => qbu x.1 x.2⟩
def qho : TH := qbV [] []
theorem qhb : KT qbT qho [q7] 40 := fun x => by kernel_rfl
theorem qhu : OT qbT := entK (qh qb9 qm) hJ qhb
def qQ (a0 : (List (Int × Int × Unit))) (a1 : (List (Int × Int × Unit))) : Option Bool :=
 bif !(decide ((a0.length : Int) = (a1.length : Int))) then
  some false
 else
  (qp (fun (s2 : Int) =>
    bif decide (s2 < (a0.length : Int)) then
     (idx a0 s2).bind fun x3 =>
     (idx a1 s2).bind fun x4 =>
     let v5 : Bool := !(bif decide (x3.1 = x4.1) then (bif decide (x3.2.1 = x4.2.1) then true else false) else false)
     bif v5 then
      some (.inr (.inr false))
     else
      some (.inl (w64 (s2 + 1)))
    else
     some (.inr (.inl ()))) 0).bind (Sum.elim (fun (p6 : Unit) =>
  some true) some)
def qah : Entry := ⟨177, [.ty (.sl gT), .ty (.sl gT)], [(.bool, 0)], fun x => qQ x.1 x.2⟩
def qcH : TH := qbV [([], 177, .block 0, { lv := [], ps := [], abn := true, D := ⟨67100704⟩ }),
 ([], 177, .loop 0, { lv := [⟨none, 13, 0⟩], ps := [(I, 0)], D := ⟨67100704⟩ })] []
theorem qcK : KT qah qcH [] 40 := fun x => by kernel_rfl
theorem qcI : OT qah := entK qm hJ qcK
def qeB (a0 : (List (List (Int × Int × Unit)))) (a1 : (List (List (Int × Int × Unit)))) : Option (Int × Bool) :=
 (qp (fun (s2 : Int) =>
   bif decide (s2 < (a0.length : Int)) then
    (idx a0 s2).bind fun x3 =>
    (idx a1 s2).bind fun x4 =>
    (qQ x3 x4).bind fun x5 =>
    bif !x5 then
     some (.inr (.inr (s2, true)))
    else
     some (.inl (w64 (s2 + 1)))
   else
    some (.inr (.inl ()))) 0).bind (Sum.elim (fun (p6 : Unit) =>
 some (0, false)) some)
def qeN : Entry := ⟨130, [.ty (.sl (.sl gT)), .ty (.sl (.sl gT))], [(I, 0), (.bool, 0)], fun x => qeB x.1 x.2⟩
def qnk : TH := qbV [([], 130, .block 0, { lv := [], ps := [], abn := true, D := ⟨16776384⟩ }),
 ([], 130, .loop 0, { lv := [⟨none, 10, 0⟩], ps := [(I, 0)], D := ⟨16776384⟩ })] []
theorem qn3 : KT qeN qnk [qah] 40 := fun x => by kernel_rfl
theorem qnW : OT qeN := entK (qh qcI qm) hJ qn3
def qb1 (a0 : (Int × (List (List (Int × Int × Unit))) × Unit)) (a1 : Int) : Option Int :=
 (qdL a0.1 (1 : Int) (100000000000 : Int)).bind fun x1 =>
 bif !x1 then
  some 2
 else
  bif !(decide ((a0.2.1.length : Int) = a1)) then
   some 10
  else
   (qp (fun (s3 : Int) =>
     bif decide (s3 < a1) then
      (idx a0.2.1 s3).bind fun x4 =>
      bif !(decide ((x4.length : Int) = a1)) then
       some (.inr (.inr 10))
      else
       some (.inl (w64 (s3 + 1)))
     else
      some (.inr (.inl ()))) 0).bind (Sum.elim (fun (p5 : Unit) =>
   (qp (fun (s7 : (Int × Int)) =>
     bif decide (s7.2 < a1) then
      (qp (fun (s9 : (Int × Int)) =>
        bif decide (s9.2 < a1) then
         (idx a0.2.1 s7.2).bind fun x10 =>
         (idx x10 s9.2).bind fun x11 =>
         (qa4 x11 (100000000000 : Int)).bind fun x12 =>
         bif !x12 then
          some (.inr (.inr (.inr (.inr 2))))
         else
          (idx a0.2.1 s7.2).bind fun x13 =>
          (idx x13 s9.2).bind fun x14 =>
          (idx a0.2.1 s7.2).bind fun x15 =>
          (idx x15 s9.2).bind fun x16 =>
          (qeD x14.1 x16.2.1).bind fun x17 =>
          (qeD s9.1 x17).bind fun x18 =>
          some (.inl (x18, w64 (s9.2 + 1)))
        else
         some (.inr (.inl s9.1))) (s7.1, 0)).bind (Sum.elim (fun (p19 : Int) =>
      some (.inl (p19, w64 (s7.2 + 1)))) some)
     else
      some (.inr (.inl s7.1))) (a0.1, 0)).bind (Sum.elim (fun (p20 : Int) =>
   bif !(decide (p20 = 1)) then
    some 3
   else
    some 0) some)) some)
def qcN : Entry := ⟨131, [.ty (.pair I (.pair (.sl (.sl gT)) .unit)), .ty I], [(I, 0)], fun x => qb1 x.1 x.2⟩
def qiO : TH := qbV [([], 131, .block 0, { lv := [], ps := [], abn := true, D := ⟨2147221536⟩ }),
 ([], 131, .loop 0, { lv := [⟨none, 5, 0⟩], ps := [(I, 0)], D := ⟨2147221536⟩, rs := [⟨0, 2⟩], Dn := ⟨2138832928⟩ }),
 ([], 131, .block 2, { lv := [⟨none, 6, 0⟩], ps := [(I, 0)], abn := true, D := ⟨18889465931469990920640⟩ }),
 ([], 131, .loop 2, { lv := [⟨none, 6, 0⟩, ⟨none, 7, 0⟩], ps := [(I, 0), (I, 0)], D := ⟨18889465931469990920640⟩ }),
 ([], 131, .block 4, { lv := [⟨none, 6, 0⟩], ps := [(I, 0)], abn := true, D := ⟨18889465931203702948160⟩ }),
 ([], 131, .loop 4, { lv := [⟨none, 6, 0⟩, ⟨none, 8, 0⟩], ps := [(I, 0), (I, 0)], D := ⟨18889465931203702948160⟩, rs := [⟨0, 2⟩], Dn := ⟨18880224535972245668160⟩ })] []
theorem qi4 : KT qcN qiO [qig, qex, qcT] 40 := fun x => by kernel_rfl
theorem qiV : OT qcN := entK (qh qpe (qh qj9 (qh qhv qm))) hJ qi4
def qrx (a0 : Int) (a1 : Int) : Option (List (List (Int × Int × Unit))) :=
 (qp (fun (s3 : ((List (List (Int × Int × Unit))) × Int)) =>
   bif decide (s3.2 < a0) then
    (mkS (0, 0, ()) a0).bind fun x4 =>
    bif decide (a0 = a0) then
     (idx x4 s3.2).bind fun x5 =>
     (idx x4 s3.2).bind fun x6 =>
     let l7 : (List (Int × Int × Unit)) := List.set x4 s3.2.toNat (a1, 0, ())
     (app s3.1 ([l7])).bind fun x8 =>
     some (.inl (x8, w64 (s3.2 + 1)))
    else
     none
   else
    some (.inr s3.1)) ([], 0)).bind fun (p9 : (List (List (Int × Int × Unit)))) =>
 some p9
def qey (a0 : (List (List (Int × Int × Unit)))) (a1 : (List (List (Int × Int × Unit)))) : Option Int :=
 (qp (fun (s2 : Int) =>
   bif decide (s2 < (a0.length : Int)) then
    (qp (fun (s4 : Int) =>
      (idx a0 s2).bind fun x5 =>
      bif decide (s4 < (x5.length : Int)) then
       (idx a0 s2).bind fun x6 =>
       (idx x6 s4).bind fun x7 =>
       (idx a1 s2).bind fun x8 =>
       (idx x8 s4).bind fun x9 =>
       let v10 : Bool := !(bif decide (x7.1 = x9.1) then (bif decide (x7.2.1 = x9.2.1) then true else false) else false)
       bif v10 then
        some (.inr (.inr (.inr (.inr s2))))
       else
        some (.inl (w64 (s4 + 1)))
      else
       some (.inr (.inl ()))) 0).bind (Sum.elim (fun (p11 : Unit) =>
    some (.inl (w64 (s2 + 1)))) some)
   else
    some (.inr (.inl ()))) 0).bind (Sum.elim (fun (p12 : Unit) =>
 some (-1)) some)
def qeO : Entry := ⟨132, [.ty (.sl (.sl gT)), .ty (.sl (.sl gT))], [(I, 0)], fun x => qey x.1 x.2⟩
def qns : TH := qbV [([], 132, .block 0, { lv := [], ps := [], abn := true, D := ⟨274877906912⟩ }),
 ([], 132, .loop 0, { lv := [⟨none, 5, 0⟩], ps := [(I, 0)], D := ⟨274877906912⟩ }),
 ([], 132, .block 2, { lv := [], ps := [], abn := true, D := ⟨274877898816⟩ }),
 ([], 132, .loop 2, { lv := [⟨none, 6, 0⟩], ps := [(I, 0)], D := ⟨274877898816⟩ })] []
theorem qne : KT qeO qns [] 40 := fun x => by kernel_rfl
theorem qnG : OT qeO := entK qm hJ qne
def qd0 (a0 : (List (Int × Int × Unit))) (a1 : (List (Int × Int × Unit))) : Option Bool :=
 bif !(decide ((a0.length : Int) = (a1.length : Int))) then
  some false
 else
  (qp (fun (s2 : Int) =>
    bif decide (s2 < (a0.length : Int)) then
     (idx a0 s2).bind fun x3 =>
     (idx a1 s2).bind fun x4 =>
     let v5 : Bool := !(bif decide (x3.1 = x4.1) then (bif decide (x3.2.1 = x4.2.1) then true else false) else false)
     bif v5 then
      some (.inr (.inr false))
     else
      some (.inl (w64 (s2 + 1)))
    else
     some (.inr (.inl ()))) 0).bind (Sum.elim (fun (p6 : Unit) =>
  some true) some)
def qfI : Entry := ⟨35, [.ty (.sl gT), .ty (.sl gT)], [(.bool, 0)], fun x => qd0 x.1 x.2⟩
def qov : TH := qbV [([], 35, .block 0, { lv := [], ps := [], abn := true, D := ⟨67106848⟩ }),
 ([], 35, .loop 0, { lv := [⟨none, 5, 0⟩], ps := [(I, 0)], D := ⟨67106848⟩ })] []
theorem qok : KT qfI qov [] 40 := fun x => by kernel_rfl
theorem qoC : OT qfI := entK qm hJ qok
def qcC (a0 : (List (List (Int × Int × Unit)))) (a1 : (List (List (Int × Int × Unit)))) : Option Bool :=
 bif !(decide ((a0.length : Int) = (a1.length : Int))) then
  some false
 else
  (qp (fun (s2 : Int) =>
    bif decide (s2 < (a0.length : Int)) then
     (idx a0 s2).bind fun x3 =>
     (idx a1 s2).bind fun x4 =>
     (qd0 x3 x4).bind fun x5 =>
     bif !x5 then
      some (.inr (.inr false))
     else
      some (.inl (w64 (s2 + 1)))
    else
     some (.inr (.inl ()))) 0).bind (Sum.elim (fun (p6 : Unit) =>
  some true) some)
def qda : Entry := ⟨26, [.ty (.sl (.sl gT)), .ty (.sl (.sl gT))], [(.bool, 0)], fun x => qcC x.1 x.2⟩
def qj2 : TH := qbV [([], 26, .block 0, { lv := [], ps := [], abn := true, D := ⟨134215712⟩ }),
 ([], 26, .loop 0, { lv := [⟨none, 5, 0⟩], ps := [(I, 0)], D := ⟨134215712⟩ })] []
theorem qjr : KT qda qj2 [qfI] 40 := fun x => by kernel_rfl
theorem qjI : OT qda := entK (qh qoC qm) hJ qjr
def qaW (a0 : (Int × (List (List (Int × Int × Unit))) × Unit)) (a1 : (Int × (List (List (Int × Int × Unit))) × Unit)) : Option Bool :=
 (bif decide (a0.1 = a1.1) then
   (qcC a0.2.1 a1.2.1).bind fun x1 =>
   some x1
  else
   some false).bind fun (p2 : Bool) =>
 some p2
def qce : Entry := ⟨57, [.ty (.pair I (.pair (.sl (.sl gT)) .unit)), .ty (.pair I (.pair (.sl (.sl gT)) .unit))], [(.bool, 0)], fun x => qaW x.1 x.2⟩
def qir : TH := qbV [([], 57, .region 1, { lv := [⟨none, 4, 0⟩], ps := [(.bool, 0)], D := ⟨131056⟩, rs := [⟨0, 2⟩, ⟨0, 3⟩], Dn := ⟨120656⟩ })] []
theorem qij : KT qce qir [qda] 40 := fun x => by kernel_rfl
theorem qip : OT qce := entK (qh qjI qm) hJ qij
def qfv (a0 : (List (List (Int × Int × Unit)))) (a1 : (Int × Int × Unit)) : Option (List (List (Int × Int × Unit))) :=
 (qp (fun (s3 : ((List (List (Int × Int × Unit))) × Int)) =>
   bif decide (s3.2 < (a0.length : Int)) then
    (qp (fun (s6 : ((List (Int × Int × Unit)) × Int)) =>
      (idx a0 s3.2).bind fun x7 =>
      bif decide (s6.2 < (x7.length : Int)) then
       (idx a0 s3.2).bind fun x8 =>
       (idx x8 s6.2).bind fun x9 =>
       (qeV x9 a1).bind fun x10 =>
       (app s6.1 ([x10])).bind fun x11 =>
       some (.inl (x11, w64 (s6.2 + 1)))
      else
       some (.inr s6.1)) ([], 0)).bind fun (p12 : (List (Int × Int × Unit))) =>
    (app s3.1 ([p12])).bind fun x13 =>
    some (.inl (x13, w64 (s3.2 + 1)))
   else
    some (.inr s3.1)) ([], 0)).bind fun (p14 : (List (List (Int × Int × Unit)))) =>
 some p14
def qfA : Entry := ⟨133, [.ty (.sl (.sl gT)), .ty gT], [((.sl (.sl gT)), 2)], fun x => qfv x.1 x.2⟩
def qop : TH := qbV [([], 133, .block 0, { lv := [⟨none, 5, 0⟩], ps := [((.sl (.sl gT)), 2)], D := ⟨1099511627744⟩ }),
 ([], 133, .loop 0, { lv := [⟨none, 5, 0⟩, ⟨none, 6, 0⟩], ps := [((.sl (.sl gT)), 2), (I, 0)], D := ⟨1099511627744⟩ }),
 ([], 133, .block 2, { lv := [⟨none, 7, 0⟩], ps := [((.sl gT), 1)], D := ⟨68719444352⟩ }),
 ([], 133, .loop 2, { lv := [⟨none, 7, 0⟩, ⟨none, 8, 0⟩], ps := [((.sl gT), 1), (I, 0)], D := ⟨68719444352⟩ })] []
theorem qor : KT qfA qop [qdE] 40 := fun x => by kernel_rfl
theorem qoq : OT qfA := entK (qh qgv qm) hJ qor
def qfm (a0 : Int) (a1 : (List (List (Int × Int × Unit)))) : Option (Int × (List (List (Int × Int × Unit))) × Unit) :=
 (qp (fun (s2 : (Int × Int)) =>
   bif decide (s2.2 < (a1.length : Int)) then
    (qp (fun (s4 : (Int × Int)) =>
      (idx a1 s2.2).bind fun x5 =>
      bif decide (s4.2 < (x5.length : Int)) then
       (idx a1 s2.2).bind fun x6 =>
       (idx x6 s4.2).bind fun x7 =>
       (idx a1 s2.2).bind fun x8 =>
       (idx x8 s4.2).bind fun x9 =>
       (qeD x7.1 x9.2.1).bind fun x10 =>
       (qeD s4.1 x10).bind fun x11 =>
       some (.inl (x11, w64 (s4.2 + 1)))
      else
       some (.inr s4.1)) (s2.1, 0)).bind fun (p12 : Int) =>
    some (.inl (p12, w64 (s2.2 + 1)))
   else
    some (.inr s2.1)) (a0, 0)).bind fun (p13 : Int) =>
 bif decide (p13 = 0) then
  none
 else
  (qp (fun (s16 : (Int × Int × (List (List (Int × Int × Unit))))) =>
    bif decide (s16.1 < (a1.length : Int)) then
     (qp (fun (s19 : ((List (Int × Int × Unit)) × Int)) =>
       (idx a1 s16.1).bind fun x20 =>
       bif decide (s19.2 < (x20.length : Int)) then
        (idx a1 s16.1).bind fun x21 =>
        (idx x21 s19.2).bind fun x22 =>
        bif decide (p13 = 0) then
         none
        else
         (idx a1 s16.1).bind fun x23 =>
         (idx x23 s19.2).bind fun x24 =>
         bif decide (p13 = 0) then
          none
         else
          (app s19.1 ([(w64 (x22.1.tdiv p13), w64 (x24.2.1.tdiv p13), ())])).bind fun x25 =>
          some (.inl (x25, w64 (s19.2 + 1)))
       else
        some (.inr s19.1)) ([], 0)).bind fun (p26 : (List (Int × Int × Unit))) =>
     (app s16.2.2 ([p26])).bind fun x27 =>
     some (.inl (w64 (s16.1 + 1), s16.2.1, x27))
    else
     some (.inr (s16.2.1, s16.2.2))) (0, w64 (a0.tdiv p13), [])).bind fun (p28 : (Int × (List (List (Int × Int × Unit))))) =>
  some (p28.1, p28.2, ())
def qfx : Entry := ⟨135, [.ty I, .ty (.sl (.sl gT))], [((.pair I (.pair (.sl (.sl gT)) .unit)), 0)], fun x => qfm x.1 x.2⟩
def qoj : TH := qbV [([], 135, .block 0, { lv := [⟨none, 5, 0⟩], ps := [(I, 0)], D := ⟨140737488348384⟩ }),
 ([], 135, .loop 0, { lv := [⟨none, 5, 0⟩, ⟨none, 6, 0⟩], ps := [(I, 0), (I, 0)], D := ⟨140737488348384⟩ }),
 ([], 135, .block 2, { lv := [⟨none, 5, 0⟩], ps := [(I, 0)], D := ⟨140737487832224⟩ }),
 ([], 135, .loop 2, { lv := [⟨none, 5, 0⟩, ⟨none, 7, 0⟩], ps := [(I, 0), (I, 0)], D := ⟨140737487832224⟩ }),
 ([], 135, .block 4, { lv := [⟨some 0, 8, 0⟩, ⟨some 0, 8, 1⟩], ps := [(I, 0), ((.sl (.sl gT)), 2)], D := ⟨79228162514262085793730268672⟩, wr := [⟨0, 8⟩] }),
 ([], 135, .loop 4, { lv := [⟨none, 9, 0⟩, ⟨some 0, 8, 0⟩, ⟨some 0, 8, 1⟩], ps := [(I, 0), (I, 0), ((.sl (.sl gT)), 2)], D := ⟨79228162514262085793730268672⟩, wr := [⟨0, 8⟩], rs := [⟨0, 8⟩], Dn := ⟨38376141217844536722059169280⟩ }),
 ([], 135, .block 6, { lv := [⟨none, 10, 0⟩], ps := [((.sl gT), 1)], D := ⟨1237940039141265086823271424⟩ }),
 ([], 135, .loop 6, { lv := [⟨none, 10, 0⟩, ⟨none, 11, 0⟩], ps := [((.sl gT), 1), (I, 0)], D := ⟨1237940039141265086823271424⟩ })] []
theorem qoe : KT qfx qoj [qig] 40 := fun x => by kernel_rfl
theorem qow : OT qfx := entK (qh qpe qm) hJ qoe
def qdc (a0 : ((List (List (Int × Int × Unit))) × (List (List (Int × Int × Unit))) × Unit)) : Option ((Int × (List (List (Int × Int × Unit))) × Unit) × Int) :=
 (qcn a0).bind fun x1 =>
 bif !(decide (x1.2.2 = 0)) then
  some ((0, [], ()), x1.2.2)
 else
  (qa8 x1.1.1 x1.2.1).bind fun x2 =>
  (qa2 x1.1.2.1 x2.2.1).bind fun x3 =>
  (qcv x3 x2.1).bind fun x4 =>
  some (x4, 0)
def qdF : Entry := ⟨52, [.ty (.pair (.sl (.sl gT)) (.pair (.sl (.sl gT)) .unit))], [((.pair I (.pair (.sl (.sl gT)) .unit)), 2), (I, 0)], fun x => qdc x⟩
def qkH : TH := qbV [] []
theorem qkS : KT qdF qkH [qbF, qa7, qcB, qcy] 40 := fun x => by kernel_rfl
theorem qkB : OT qdF := entK (qh qgY (qh qes (qh qgN (qh qgP qm)))) hJ qkS
def qbv (a0 : ((List (List (Int × Int × Unit))) × (List (List (Int × Int × Unit))) × Unit)) (a1 : (Int × (List (List (Int × Int × Unit))) × Unit)) : Option (Int × Int) :=
 (qcn a0).bind fun x1 =>
 (bif decide (x1.2.2 = 0) then
   (qb3 a1 (x1.1.1.length : Int)).bind fun x2 =>
   some x2
  else
   some x1.2.2).bind fun (p3 : Int) =>
 bif !(decide (p3 = 0)) then
  some (0, p3)
 else
  (qa2 a1.2.1 x1.1.1).bind fun x4 =>
  (qbu x1.1.2.1 a1.1).bind fun x5 =>
  (qeB x4 x5).bind fun x6 =>
  bif x6.2 then
   some (x6.1, 19)
  else
   some (0, 0)
def qbR : Entry := ⟨53, [.ty (.pair (.sl (.sl gT)) (.pair (.sl (.sl gT)) .unit)), .ty (.pair I (.pair (.sl (.sl gT)) .unit))], [(I, 0), (I, 0)], fun x => qbv x.1 x.2⟩
def qg9 : TH := qbV [([], 53, .cond 18, { lv := [⟨none, 8, 0⟩], ps := [(I, 0)], D := ⟨16253184⟩, rs := [⟨0, 6⟩], Dn := ⟨15204608⟩ })] []
theorem qhr : KT qbR qg9 [qeN, qbT, qa7, qcB, qcO] 40 := fun x => by kernel_rfl
theorem qhH : OT qbR := entK (qh qnW (qh qhu (qh qes (qh qgN (qh qiP qm))))) hJ qhr
def qbx (a0 : ((List (List (Int × Int × Unit))) × (List (List (Int × Int × Unit))) × Unit)) (a1 : (Int × (List (List (Int × Int × Unit))) × Unit)) : Option (Int × Int) :=
 (qba a0).bind fun x1 =>
 bif !(decide (x1 = 0)) then
  some (0, x1)
 else
  (idx a0.1 0).bind fun x2 =>
  (qb1 a1 (x2.length : Int)).bind fun x3 =>
  bif !(decide (x3 = 0)) then
   some (0, x3)
  else
   (qX a0.1 a0.1).bind fun x4 =>
   (qdf a1.2.1 x4).bind fun x5 =>
   (qX a0.2.1 a0.1).bind fun x6 =>
   (qfv x6 (a1.1, 0, ())).bind fun x7 =>
   (qey x5 x7).bind fun x8 =>
   bif decide (x8 >= 0) then
    some (x8, 19)
   else
    some (0, 0)
def qbP : Entry := ⟨55, [.ty (.pair (.sl (.sl gT)) (.pair (.sl (.sl gT)) .unit)), .ty (.pair I (.pair (.sl (.sl gT)) .unit))], [(I, 0), (I, 0)], fun x => qbx x.1 x.2⟩
def qhk : TH := qbV [] []
theorem qhe : KT qbP qhk [qbS, qbs, qc2, qcN, qeO, qfA] 40 := fun x => by kernel_rfl
theorem qhx : OT qbP := entK (qh qe3 (qh qe8 (qh qg5 (qh qiV (qh qnG (qh qoq qm)))))) hJ qhe
def qdT (a0 : ((List (List (Int × Int × Unit))) × (List (List (Int × Int × Unit))) × Unit)) : Option (Int × (List (List (Int × Int × Unit))) × Unit) :=
 (qX a0.1 a0.1).bind fun x1 =>
 (qat x1).bind fun x2 =>
 (qX a0.2.1 a0.1).bind fun x3 =>
 (qdW x1).bind fun x4 =>
 (qdf x3 x4).bind fun x5 =>
 (qfm x2.1 x5).bind fun x6 =>
 some x6
def qei : Entry := ⟨58, [.ty (.pair (.sl (.sl gT)) (.pair (.sl (.sl gT)) .unit))], [((.pair I (.pair (.sl (.sl gT)) .unit)), 0)], fun x => qdT x⟩
def qlG : TH := qbV [] []
theorem qlW : KT qei qlG [qel, qbS, qby, qc2, qfx] 40 := fun x => by kernel_rfl
theorem qlU : OT qei := entK (qh qlR (qh qe3 (qh qcJ (qh qg5 (qh qow qm))))) hJ qlW
def qcd (a0 : ((List (List (Int × Int × Unit))) × (List (List (Int × Int × Unit))) × Unit)) (a1 : (Int × (List (List (Int × Int × Unit))) × Unit)) : Option Bool :=
 (qi5).bind fun x1 =>
 bif !x1 then
  some false
 else
  ((qeG a0).bind fun x2 =>
   bif !x2 then
    some true
   else
    (qjv a1.2.1).bind fun x3 =>
    some (!x3)).bind fun (p4 : Bool) =>
  bif p4 then
   some true
  else
   (qct a0).bind fun x5 =>
   (qdc x5).bind fun x6 =>
   (qct a0).bind fun x7 =>
   (qbN a1).bind fun x8 =>
   (qbv x7 x8).bind fun x9 =>
   (qbx a0 a1).bind fun x10 =>
   (bif !(decide (x9.2 = x10.2)) then
     some true
    else
     some (!(decide (x9.1 = x10.1)))).bind fun (p11 : Bool) =>
   bif p11 then
    some false
   else
    (qba a0).bind fun x12 =>
    bif !(decide (x12 = 0)) then
     (bif decide (x6.2 = x12) then
       (qaW x6.1 (0, [], ())).bind fun x13 =>
       some x13
      else
       some false).bind fun (p14 : Bool) =>
     some p14
    else
     (bif decide (x6.2 = 0) then
       (qdT a0).bind fun x15 =>
       (qaW x6.1 x15).bind fun x16 =>
       some x16
      else
       some false).bind fun (p17 : Bool) =>
     some p17
def qaL : Entry := ⟨8, [.ty (.pair (.sl (.sl gT)) (.pair (.sl (.sl gT)) .unit)), .ty (.pair I (.pair (.sl (.sl gT)) .unit))], [(.bool, 0)], fun x => qcd x.1 x.2⟩
def qgX : TH := qbV [([], 8, .region 3, { lv := [⟨none, 21, 0⟩], ps := [(.bool, 0)], D := ⟨4186112⟩, rs := [⟨0, 3⟩], Dn := ⟨4055040⟩ }),
 ([], 8, .region 8, { lv := [⟨none, 49, 0⟩], ps := [(.bool, 0)], D := ⟨1121501860331520⟩ }),
 ([], 8, .region 12, { lv := [⟨none, 4, 0⟩], ps := [(.bool, 0)], D := ⟨4593671619917905936⟩ }),
 ([], 8, .region 13, { lv := [⟨none, 4, 0⟩], ps := [(.bool, 0)], D := ⟨1175979934698983915536⟩ })] []
theorem qgT : KT qaL qgX [qbR, qdF, qde, qi6, qeW, qbP, qcc, qeh, qei, qbs, qce] 40 := fun x => by kernel_rfl
theorem qgZ : OT qaL := entK (qh qhH (qh qkB (qh qpP (qh qty (qh qms (qh qhx (qh qik (qh qlV (qh qlU (qh qe8 (qh qip qm))))))))))) hJ qgT
end
end Go.Proofs.YtbcdgfgacigaoaaGreat
end
section
namespace Go.Proofs.YtbcdgfgacigaoaaGreat.Mat
open Go Go.Ab Go.Tx Go.Proofs.YtbcdgfgacigaoaaGreat
theorem wid {n : Int} (h1 : -9223372036854775808 <= n) (h2 : n <= 9223372036854775807) : w64 n = n := qkO h1 h2
theorem qnF (a b c : Int) : qdL a b c = some (decide (b <= a /\ a <= c)) := by
 unfold qdL;by_cases h : b <= a <;> simp [h]
theorem qq0 (a b c : Int) : qd8 a b c = some (decide (b <= a /\ a <= c)) := by
 unfold qd8;by_cases h : b <= a <;> simp [h]
theorem qoD (a k : Int) (h0 : 0 <= k) (h1 : k <= 4611686018427387904) : qcS a k = some (decide (-k <= a /\ a <= k)) := by
 unfold qcS;rw [qq0, wid (by omega) (by omega)];simp
theorem qjz (b : Bool) (e : Int) : ql b e = some (if b then 0 else e) := by cases b <;> rfl
theorem qtI (l : List Int) (h : l.length <= 1000000000) : qO l = some (qyv l) := by
 unfold qO;rw [qwZ l h]
instance (B : Int) (z : G) : Decidable (Bd B z) := inferInstanceAs (Decidable (_ /\ _))
theorem qgL (z : G) (k : Int) (h0 : 0 <= k) (h1 : k <= 4611686018427387904) : qaK z k = some (decide (Bd k z)) := by
 unfold qaK;rw [qoD _ _ h0 h1, qoD _ _ h0 h1];unfold Bd;by_cases c : -k <= z.1 /\ z.1 <= k <;> simp [c]
theorem qge (z : G) (k : Int) (h0 : 0 <= k) (h1 : k <= 4611686018427387904) : qa4 z k = some (decide (Bd k z)) := by
 unfold qa4;rw [wid (by omega) (by omega), qnF, qnF];unfold Bd;have e : (0 : Int) - k = -k := by omega
 rw [e];by_cases c : -k <= z.1 /\ z.1 <= k <;> simp [c]
def qin (B : Int) (z : G) : Bool := !(decide (Bd B z))
theorem qzk {n c i k : Nat} (f : Nat -> Nat -> G) (hi : i < n) (hk : k < c) : qaw (mx n c f) (i : Int) (k : Int) = some (f i k) := by
 unfold qaw;rw [qam (qgo f hi), qa, qam (qbH (fun k => f i k) hk)]; rfl
theorem qfX {A B : Int} {a b : G} (h : Bd A a) (h' : Bd B b) (hb : 2 * (A * B) <= 9000000000000000000) : q4 a b = some (qK a b) := congrArg some (qAX h h' hb)
theorem qp3 {A B : Int} {a b : G} (h : Bd A a) (h' : Bd B b) (hb : A + B <= 9000000000000000000) : qaR a b = some (qeE a b) := congrArg some (qAW h h' hb)
theorem qqH {A B : Int} {a b : G} (h : Bd A a) (h' : Bd B b) (hb : 2 * (A * B) <= 9000000000000000000) : qeV a b = some (qK a b) := congrArg some (qAX h h' hb)
theorem qtc {A B : Int} {a b : G} (h : Bd A a) (h' : Bd B b) (hb : A + B <= 9000000000000000000) : qf3 a b = some (qeE a b) := congrArg some (qAW h h' hb)
theorem le_next {i n : Nat} {A : Int} (hA : 0 <= A) (h : i < n) (hb : (n : Int) * A <= 9000000000000000000) : (i : Int) * A + A <= 9000000000000000000 := by
 have : ((i + 1 : Nat) : Int) * A <= (n : Int) * A := Int.mul_le_mul_of_nonneg_right (by omega) hA;have e : ((i + 1 : Nat) : Int) * A = (i : Int) * A + A := by rw [Int.natCast_add, Int.add_mul]; simp
 omega
theorem qws {a b c i k : Nat} {A B : Int} {f h : Nat -> Nat -> G} (hA : 0 <= A) (hB : 0 <= B) (hf : BdF A a b f) (hh : BdF B b c h) (hb : b <= 1000) (hbd : (b : Int) * (2 * (A * B)) <= 9000000000000000000) (hb1 : 2 * (A * B) <= 9000000000000000000) (hi : i < a) (hk : k < c) :
  qaA (i : Int) (k : Int) (mx b c h) (mx a b f) = some (qe1 b f h i k) := by
 unfold qaA;rw [qaX];have h0 : 0 <= 2 * (A * B) := by have := Int.mul_nonneg hA hB; omega
 rw [qhL b hb h0 hbd (fun j => qK (f i j) (h j k)) (fun j hj => (hf i j hi hj).mul (hh j k hj hk)) (fun j hj x y hxy => ?_) (fun x y => ?_)]
 ·rfl
 ·have e0 : decide ((j : Int) < (b : Int)) = true := decide_eq_true (by omega);simp only [e0, cond_true];rw [qzk f hi hj, qzk h hj hk];simp only [qa];rw [qfX (hf i j hi hj) (hh j k hj hk) hb1];simp only [qa];rw [qp3 hxy ((hf i j hi hj).mul (hh j k hj hk)) (le_next h0 hj hbd)];rfl
 ·have e0 : decide ((b : Int) < (b : Int)) = false := by simp
  simp only [e0, cond_false]
theorem qux {a b c : Nat} {A B : Int} {f h : Nat -> Nat -> G} (hA : 0 <= A) (hB : 0 <= B) (hf : BdF A a b f) (hh : BdF B b c h) (ha : a <= 1000) (hb : b <= 1000) (hb1 : 1 <= b) (hc : c <= 1000) (hbd : (b : Int) * (2 * (A * B)) <= 9000000000000000000) :
  qa2 (mx a b f) (mx b c h) = some (mx a c (qe1 b f h)) := by
 unfold qa2 qak;rw [qh3, qgo h (by omega), qa, qv, qaX];have h0 : 0 <= 2 * (A * B) := by have := Int.mul_nonneg hA hB; omega
 have h1 : 2 * (A * B) <= 9000000000000000000 := by
  have := Int.mul_le_mul_of_nonneg_right (show (1 : Int) <= b by omega) h0;omega
 have := qhz a c ha hc (fun i k => qaA i k (mx b c h) (mx a b f)) (qe1 b f h) (fun i k hi hk => qws hA hB hf hh hb hbd h1 hi hk);show Option.bind _ _ = _;rw [this]; rfl
theorem qpa {a b c : Nat} {A B : Int} {f h : Nat -> Nat -> G} (hA : 0 <= A) (hB : 0 <= B) (hf : BdF A a b f) (hh : BdF B b c h) (ha : a <= 1000) (hb : b <= 1000) (hb1 : 1 <= b) (hc : c <= 1000) (hbd : (b : Int) * (2 * (A * B)) <= 9000000000000000000) :
  qdf (mx a b f) (mx b c h) = some (mx a c (qe1 b f h)) := by
 unfold qdf;rw [qaX, qaX];have h0 : 0 <= 2 * (A * B) := by have := Int.mul_nonneg hA hB; omega
 have h1 : 2 * (A * B) <= 9000000000000000000 := by
  have := Int.mul_le_mul_of_nonneg_right (show (1 : Int) <= b by omega) h0;omega
 rw [qiE a (fun i => mkL c fun k => qe1 b f h i k) (fun i hi => ?_) ?_]
 ·rfl
 ·have e0 : decide ((a : Int) < (a : Int)) = false := by simp
  simp only [e0, cond_false]
 ·have e0 : decide ((i : Int) < (a : Int)) = true := decide_eq_true (by omega);simp only [e0, cond_true];rw [qiE c (fun k => qe1 b f h i k) (fun k hk => ?_) ?_]
  ·simp only [qa];rw [qbd (by rw [qv]; omega)];simp only [qa];rw [wid (by omega) (by omega)]
  ·have e1 : decide ((c : Int) < (c : Int)) = false := by simp
   rw [qh3, qgo h (by omega)];simp only [qa, qv, e1, cond_false]
  ·have e1 : decide ((k : Int) < (c : Int)) = true := decide_eq_true (by omega);rw [qh3, qgo h (by omega)];simp only [qa, qv, e1, cond_true];rw [qhL b hb h0 hbd (fun j => qK (f i j) (h j k)) (fun j hj => (hf i j hi hj).mul (hh j k hj hk)) (fun j hj x y hxy => ?_) (fun x y => ?_)]
   ·simp only [qa];rw [qbd (by rw [qv]; omega)];simp only [qa];rw [wid (by omega) (by omega)];rfl
   ·have e0 : decide ((j : Int) < (b : Int)) = true := decide_eq_true (by omega);simp only [e0, cond_true];rw [qam (qgo f hi), qa, qam (qbH (fun k => f i k) hj), qa, qam (qgo h hj), qa, qam (qbH (fun k => h j k) hk), qa];rw [qqH (hf i j hi hj) (hh j k hj hk) h1];simp only [qa];rw [qtc hxy ((hf i j hi hj).mul (hh j k hj hk)) (le_next h0 hj hbd)];rfl
   ·have e0 : decide ((b : Int) < (b : Int)) = false := by simp
    simp only [e0, cond_false]
theorem qvr {n c : Nat} (hn : n <= 1000) (f : Nat -> Nat -> G) (hc : c < n + 1) : qL (mx (n + 1) (n + 1) f) 0 (c : Int) = some (mx n n (minor f 0 c)) := by
 unfold qL;rw [qaX];refine Ok.eq ?_;rw [qdC];refine (qav (n + 1) (fun i (s : Mx × Int) => s = (mkL (i - 1) (fun j => mkL n fun k => minor f 0 c j k), (i : Int))) (fun r => r = mx n n (minor f 0 c)) rfl ?_).mono (fun a ha => by rw [ha]; exact qR.2 rfl);rintro i s hi rfl;by_cases hlt : i < n + 1
 ·have e0 : decide ((i : Int) < ((n + 1 : Nat) : Int)) = true := decide_eq_true (by omega);simp only [e0, cond_true];rw [qam (qgo f hlt)];simp only [qa];by_cases hz : i = 0
  ·subst hz;simp only [Int.ofNat_eq_natCast, Int.natCast_zero, decide_true, Bool.not_true, cond_false, qa];rw [wid (by omega) (by omega), qae];exact ⟨by omega, rfl⟩
  ·have e1 : decide ((i : Int) = 0) = false := decide_eq_false (by omega);simp only [e1, Bool.not_false, cond_true];rw [qtZ (by rw [qv]; omega)];simp only [qa, decide_true, cond_true];rw [wid (n := (c : Int) + 1) (by omega) (by omega), qtZ (by rw [qv]; omega)];simp only [qa, qv];have e2 : ((c : Int) + 1).toNat = c + 1 := by omega
   have e3 : ((n + 1 : Nat) : Int).toNat = n + 1 := by omega
   have e4 : (0 : Int).toNat = 0 := rfl;rw [e2, e3, e4, Int.toNat_natCast, qzz (by simp [qv]; omega)];simp only [qa];rw [qwO (fun k => f i k) hc, qbd (by rw [qv]; omega)];simp only [qa];rw [wid (by omega) (by omega), qae];refine ⟨hlt, ?_⟩;have e5 : i + 1 - 1 = (i - 1) + 1 := by omega
   rw [e5, qcA];congr 1
   congr 2
   refine qbC fun k hk => ?_;unfold minor;congr 1
   all_goals (unfold skip; rw [if_neg (by omega)]; omega)
 ·have : i = n + 1 := by omega
  subst this;have e0 : decide (((n + 1 : Nat) : Int) < ((n + 1 : Nat) : Int)) = false := by simp
  simp only [e0, cond_false];rw [q8];rfl
theorem qp7 {n c : Nat} (hn : n <= 1000) (f : Nat -> Nat -> G) (hc : c < n + 1) : qaY (mx (n + 1) (n + 1) f) 0 (c : Int) = some (mx n n (minor f 0 c)) := by
 unfold qaY;rw [qaX];refine Ok.eq ?_;rw [qdC];refine (qav (n + 1) (fun i (s : Mx × Int) => s = (mkL (i - 1) (fun j => mkL n fun k => minor f 0 c j k), (i : Int))) (fun r => r = mx n n (minor f 0 c)) rfl ?_).mono (fun a ha => by rw [ha]; exact qR.2 rfl);rintro i s hi rfl;by_cases hlt : i < n + 1
 ·have e0 : decide ((i : Int) < ((n + 1 : Nat) : Int)) = true := decide_eq_true (by omega);simp only [e0, cond_true];by_cases hz : i = 0
  ·subst hz;simp only [Int.ofNat_eq_natCast, Int.natCast_zero, decide_true, cond_true, qa];rw [wid (by omega) (by omega), qae];exact ⟨by omega, rfl⟩
  ·have e1 : decide ((i : Int) = 0) = false := decide_eq_false (by omega);simp only [e1, cond_false];rw [qkc, qdC];refine (qav (n + 1) (fun k (s : List G × Int) => s = (mkL (if k <= c then k else k - 1) (fun k => f i (skip c k)), (k : Int))) (fun r => r = mkL n fun k => f i (skip c k)) ?_ ?_).mono ?_
   ·simp [ql4]
   ·rintro k s hk rfl;by_cases hlt2 : k < n + 1
    ·have e2 : decide ((k : Int) < ((n + 1 : Nat) : Int)) = true := decide_eq_true (by omega);simp only [e2, cond_true];by_cases hkc : k = c
     ·subst hkc;simp only [decide_true, Bool.not_true, cond_false, qa];rw [wid (by omega) (by omega), qae];refine ⟨hlt2, ?_⟩;rw [if_pos (by omega), if_neg (by omega)];rfl
     ·have e3 : decide ((k : Int) = (c : Int)) = false := decide_eq_false (by omega);simp only [e3, Bool.not_false, cond_true];rw [qam (qgo f hlt)];simp only [qa];rw [qam (qbH (fun k => f i k) hlt2)];simp only [qa];rw [qbd (by rw [qv]; split <;> omega)];simp only [qa];rw [wid (by omega) (by omega), qae];refine ⟨hlt2, ?_⟩;congr 1
      by_cases hkl : k < c
      ·rw [if_pos (by omega), if_pos (by omega), qcA];congr 3
       unfold skip; rw [if_pos hkl]
      ·rw [if_neg (by omega), if_neg (by omega)];have e5 : k + 1 - 1 = (k - 1) + 1 := by omega
       rw [e5, qcA];congr 3
       unfold skip; rw [if_neg (by omega)]; omega
    ·have : k = n + 1 := by omega
     subst this;have e2 : decide (((n + 1 : Nat) : Int) < ((n + 1 : Nat) : Int)) = false := by simp
     simp only [e2, cond_false];rw [q8, if_neg (by omega)];rfl
   ·rintro r rfl;rw [qbd (by rw [qv]; omega)];simp only [qa];rw [qR, wid (by omega) (by omega), qae];refine ⟨hlt, ?_⟩;have e5 : i + 1 - 1 = (i - 1) + 1 := by omega
    rw [e5, qcA];congr 1
    congr 2
    refine qbC fun k hk => ?_;unfold minor;congr 1
    all_goals (unfold skip; rw [if_neg (by omega)]; omega)
 ·have : i = n + 1 := by omega
  subst this;have e0 : decide (((n + 1 : Nat) : Int) < ((n + 1 : Nat) : Int)) = false := by simp
  simp only [e0, cond_false];rw [q8];rfl
theorem qxI {B : Int} (hB : 1 <= B) (n : Nat) : dB B n <= dB B (n + 1) := by
 have e : dB B (n + 1) = ((n + 1 : Nat) : Int) * (2 * (B * dB B n)) := rfl;rw [e];have h0 := qjP (show 0 <= B by omega) n;have h1 : dB B n <= B * dB B n := by
  have := Int.mul_le_mul_of_nonneg_right hB h0; omega
 have h2 : (1 : Int) * (2 * (B * dB B n)) <= ((n + 1 : Nat) : Int) * (2 * (B * dB B n)) := Int.mul_le_mul_of_nonneg_right (by omega) (by omega);omega
theorem qzU {B : Int} (hB : 1 <= B) : ∀ (k n : Nat) (f : Nat -> Nat -> G), n <= 100 -> n < k -> BdF B n n f -> dB B n <= 9000000000000000000 -> q6 k (mx n n f) = some (qfK n f)
 | 0, n, f, _, h, _, _ => by omega
 | k + 1, 0, f, _, _, _, _ => rfl
 | k + 1, n + 1, f, hn, hk, hf, hb => by
  have hB0 : 0 <= B := by omega
  have hD0 := qjP hB0 n;have h0 : 0 <= 2 * (B * dB B n) := by have := Int.mul_nonneg hB0 hD0; omega
  have hDn : dB B n <= 9000000000000000000 := by have := qxI hB n; omega
  have hb1 : 2 * (B * dB B n) <= 9000000000000000000 := by
   have h9 : (1 : Int) * (2 * (B * dB B n)) <= ((n + 1 : Nat) : Int) * (2 * (B * dB B n)) := Int.mul_le_mul_of_nonneg_right (by omega) h0;simp only [dB] at hb;omega
  have hunf : q6 (k + 1) (mx (n + 1) (n + 1) f) = (bif decide (((mx (n + 1) (n + 1) f).length : Int) = 0) then some (1, 0, ()) else
   (qp (fun (s2 : (Int × Int × Int)) =>
    bif decide (s2.1 < ((mx (n + 1) (n + 1) f).length : Int)) then
     (qaw (mx (n + 1) (n + 1) f) (0 : Int) s2.1).bind fun x3 =>
     (qL (mx (n + 1) (n + 1) f) (0 : Int) s2.1).bind fun x4 =>
     (q6 k x4).bind fun x5 =>
     (q4 x3 x5).bind fun x6 =>
     (bif decide (s2.1.tmod 2 = 1) then
       (qaH (0, 0, ()) x6).bind fun x7 =>
       some (x7.1, x7.2.1)
      else
       some (x6.1, x6.2.1)).bind fun (p8 : (Int × Int)) =>
     (qaR (s2.2.1, s2.2.2, ()) (p8.1, p8.2, ())).bind fun x9 =>
     some (.inl (w64 (s2.1 + 1), x9.1, x9.2.1))
    else
     some (.inr (s2.2.1, s2.2.2))) (0, 0, 0)).bind fun (p10 : (Int × Int)) =>
   some (p10.1, p10.2, ())) := rfl
  rw [hunf, qaX];have e0 : decide (((n + 1 : Nat) : Int) = 0) = false := decide_eq_false (by omega);rw [e0, cond_false];have htb : ∀ j, j < n + 1 -> Bd (2 * (B * dB B n)) (qK (f 0 j) (qfK n (minor f 0 j))) := fun j hj => (hf 0 j (by omega) hj).mul (qnr hB0 n _ (qc8 hf));rw [qhL (n + 1) (by omega) h0 hb (fun j => if j % 2 = 1 then qi7 (qK (f 0 j) (qfK n (minor f 0 j))) else qK (f 0 j) (qfK n (minor f 0 j)))
   (fun j hj => by
           split; · exact (htb j hj).neg
           ·exact htb j hj) (fun j hj x y hxy => ?_) (fun x y => ?_)]
  ·rfl
  ·have e1 : decide ((j : Int) < ((n + 1 : Nat) : Int)) = true := decide_eq_true (by omega);simp only [e1, cond_true];have hat := qzk (n := n + 1) (c := n + 1) f (i := 0) (k := j) (by omega) hj;simp only [Int.natCast_zero] at hat;rw [hat];simp only [qa];rw [qvr (by omega) f hj];simp only [qa];rw [qzU hB k n _ (by omega) (by omega) (qc8 hf) hDn];simp only [qa];rw [qfX (hf 0 j (by omega) hj) (qnr hB0 n _ (qc8 (r := 0) (c := j) hf)) hb1];simp only [qa];have htm : (j : Int).tmod 2 = ((j % 2 : Nat) : Int) := by rw [Int.tmod_eq_emod_of_nonneg (by omega)]; omega
   rw [htm];by_cases hp : j % 2 = 1
   ·have e2 : decide (((j % 2 : Nat) : Int) = 1) = true := decide_eq_true (by omega);rw [e2, cond_true, if_pos hp];have hm : qaH (0, 0, ()) (qK (f 0 j) (qfK n (minor f 0 j))) = some (qi7 (qK (f 0 j) (qfK n (minor f 0 j)))) := by
     have := qx9 (a := g0) (qqn (B := 0) (by omega)) (htb j hj) (by omega);rw [qm9] at this;exact congrArg some this
    rw [hm];simp only [qa, qBe];rw [qp3 hxy (htb j hj).neg (le_next h0 hj hb)];rfl
   ·have e2 : decide (((j % 2 : Nat) : Int) = 1) = false := decide_eq_false (by omega);rw [e2, cond_false, if_neg hp];simp only [qa, qBe];rw [qp3 hxy (htb j hj) (le_next h0 hj hb)];rfl
  ·have e1 : decide (((n + 1 : Nat) : Int) < ((n + 1 : Nat) : Int)) = false := by simp
   simp only [e1, cond_false]
theorem qwm (n : Nat) (h : n <= 1000000000) : qh4 (n : Int) 2 = some ((n % 2 : Nat) : Int) := by
 unfold qh4;have e : ((n : Int).tmod 2) = ((n % 2 : Nat) : Int) := by rw [Int.tmod_eq_emod_of_nonneg (by omega)]; omega
 rw [e];have e1 : decide ((2 : Int) = 0) = false := by decide
 have e2 : decide (((n % 2 : Nat) : Int) < 0) = false := decide_eq_false (by omega);simp only [e1, e2, cond_false, qa]
theorem qru {B : Int} (hB : 1 <= B) : ∀ (k n : Nat) (f : Nat -> Nat -> G), n <= 100 -> n < k -> BdF B n n f -> dB B n <= 9000000000000000000 -> qaI k (mx n n f) = some (qfK n f)
 | 0, n, f, _, h, _, _ => by omega
 | k + 1, 0, f, _, _, _, _ => rfl
 | k + 1, n + 1, f, hn, hk, hf, hb => by
  have hB0 : 0 <= B := by omega
  have hD0 := qjP hB0 n;have h0 : 0 <= 2 * (B * dB B n) := by have := Int.mul_nonneg hB0 hD0; omega
  have hDn : dB B n <= 9000000000000000000 := by have := qxI hB n; omega
  have hb1 : 2 * (B * dB B n) <= 9000000000000000000 := by
   have h9 : (1 : Int) * (2 * (B * dB B n)) <= ((n + 1 : Nat) : Int) * (2 * (B * dB B n)) := Int.mul_le_mul_of_nonneg_right (by omega) h0;simp only [dB] at hb;omega
  have hunf : qaI (k + 1) (mx (n + 1) (n + 1) f) = (bif decide (((mx (n + 1) (n + 1) f).length : Int) = 0) then some (1, 0, ()) else
   (qp (fun (s2 : (Int × Int × Int)) =>
    bif decide (s2.1 < ((mx (n + 1) (n + 1) f).length : Int)) then
     (idx (mx (n + 1) (n + 1) f) 0).bind fun x3 =>
     (idx x3 s2.1).bind fun x4 =>
     (qaY (mx (n + 1) (n + 1) f) (0 : Int) s2.1).bind fun x5 =>
     (qaI k x5).bind fun x6 =>
     (qeV x4 x6).bind fun x7 =>
     (qh4 s2.1 (2 : Int)).bind fun x8 =>
     (bif decide (x8 = 0) then
       (qf3 (s2.2.1, s2.2.2, ()) x7).bind fun x9 =>
       some (x9.1, x9.2.1)
      else
       (qfS (s2.2.1, s2.2.2, ()) x7).bind fun x10 =>
       some (x10.1, x10.2.1)).bind fun (p11 : (Int × Int)) =>
     some (.inl (w64 (s2.1 + 1), p11.1, p11.2))
    else
     some (.inr (s2.2.1, s2.2.2))) (0, 0, 0)).bind fun (p12 : (Int × Int)) =>
   some (p12.1, p12.2, ())) := rfl
  rw [hunf, qaX];have e0 : decide (((n + 1 : Nat) : Int) = 0) = false := decide_eq_false (by omega);rw [e0, cond_false];have htb : ∀ j, j < n + 1 -> Bd (2 * (B * dB B n)) (qK (f 0 j) (qfK n (minor f 0 j))) := fun j hj => (hf 0 j (by omega) hj).mul (qnr hB0 n _ (qc8 hf));rw [qhL (n + 1) (by omega) h0 hb (fun j => if j % 2 = 1 then qi7 (qK (f 0 j) (qfK n (minor f 0 j))) else qK (f 0 j) (qfK n (minor f 0 j)))
   (fun j hj => by
           split; · exact (htb j hj).neg
           ·exact htb j hj) (fun j hj x y hxy => ?_) (fun x y => ?_)]
  ·rfl
  ·have e1 : decide ((j : Int) < ((n + 1 : Nat) : Int)) = true := decide_eq_true (by omega);simp only [e1, cond_true];rw [qh3, qgo f (by omega)];simp only [qa];rw [qam (qbH (fun k => f 0 k) hj)];simp only [qa];rw [qp7 (by omega) f hj];simp only [qa];rw [qru hB k n _ (by omega) (by omega) (qc8 hf) hDn];simp only [qa];rw [qqH (hf 0 j (by omega) hj) (qnr hB0 n _ (qc8 (r := 0) (c := j) hf)) hb1];simp only [qa];rw [qwm j (by omega)];simp only [qa];by_cases hp : j % 2 = 1
   ·have e2 : decide (((j % 2 : Nat) : Int) = 0) = false := decide_eq_false (by omega);rw [e2, cond_false, if_pos hp];have hm : qfS (x, y, ()) (qK (f 0 j) (qfK n (minor f 0 j))) = some (qeE (x, y, ()) (qi7 (qK (f 0 j) (qfK n (minor f 0 j))))) := by
     have := qx9 hxy (htb j hj) (le_next h0 hj hb);rw [qsX] at this;exact congrArg some this
    rw [hm];rfl
   ·have e2 : decide (((j % 2 : Nat) : Int) = 0) = true := decide_eq_true (by omega);rw [e2, cond_true, if_neg hp];rw [qtc hxy (htb j hj) (le_next h0 hj hb)];rfl
  ·have e1 : decide (((n + 1 : Nat) : Int) < ((n + 1 : Nat) : Int)) = false := by simp
   simp only [e1, cond_false]
end Go.Proofs.YtbcdgfgacigaoaaGreat.Mat
end
section
namespace Go.Proofs.YtbcdgfgacigaoaaGreat.Mat
open Go Go.Ab Go.Tx Go.Proofs.YtbcdgfgacigaoaaGreat
theorem qox {l : List G} (h : l.length <= 1000000000) : qcD l = some l := by
 unfold qcD; rw [qsx (by omega)]; rfl
theorem qgC {m : Mx} (h : m.length <= 1000000000) (hr : ∀ r ∈ m, r.length <= 1000000000) : qaQ m = some m := by
 unfold qaQ;rw [qAg m (fun r => r) (fun i a out hi ho => ?_) (fun out ho => ?_)]
 ·simp
 ·have hlt := qhw hi;have e0 : decide ((i : Int) < (m.length : Int)) = true := decide_eq_true (by omega);simp only [e0, cond_true, qam hi, qa];rw [qox (hr a (List.mem_of_getElem? hi))];simp only [qa];rw [qbd (by omega)];simp only [qa];rw [wid (by omega) (by omega)]
 ·have e0 : decide ((m.length : Int) < (m.length : Int)) = false := by simp
  simp only [e0, cond_false]
theorem qtn (a b : G) : (bif decide (a.1 = b.1) then (bif decide (a.2.1 = b.2.1) then true else false) else false) = decide (a = b) := by
 rw [Bool.eq_iff_iff];rw [decide_eq_true_iff, qya];by_cases h1 : a.1 = b.1 <;> by_cases h2 : a.2.1 = b.2.1 <;> simp [h1, h2]
theorem qpq {l m : List G} (hl : l.length <= 1000000000) : qd0 l m = some (decide (l = m)) := by
 unfold qd0;by_cases h : l.length = m.length
 case neg =>
  have d : decide ((l.length : Int) = (m.length : Int)) = false := decide_eq_false (by omega);rw [d];have : decide (l = m) = false := decide_eq_false (fun e => h (by rw [e]));rw [this]; rfl
 have d : decide ((l.length : Int) = (m.length : Int)) = true := decide_eq_true (by omega);rw [d];simp only [Bool.not_true, cond_false];refine qrT g0 h hl (fun a b => decide (a = b)) (fun a b _ _ => by simp) (K := _) (fun i hi => ?_);rw [qb7 g0 (by omega) (by omega), qb7 g0 (l := m) (by omega) (by omega)];simp only [qa, Int.toNat_natCast];rw [qtn, wid (by omega) (by omega)];by_cases c : l.getD i g0 = m.getD i g0
 ·simp only [c, decide_true, Bool.not_true, cond_false, if_true]
 ·simp only [c, decide_false, Bool.not_false, cond_true, qf, if_false]
theorem qpN {l m : Mx} (hl : l.length <= 1000000000) (hr : ∀ r ∈ l, r.length <= 1000000000) : qcC l m = some (decide (l = m)) := by
 unfold qcC;by_cases h : l.length = m.length
 case neg =>
  have d : decide ((l.length : Int) = (m.length : Int)) = false := decide_eq_false (by omega);rw [d];have : decide (l = m) = false := decide_eq_false (fun e => h (by rw [e]));rw [this]; rfl
 have d : decide ((l.length : Int) = (m.length : Int)) = true := decide_eq_true (by omega);rw [d];simp only [Bool.not_true, cond_false];refine qrT [] h hl (fun a b => decide (a = b)) (fun a b _ _ => by simp) (K := _) (fun i hi => ?_);rw [qb7 [] (by omega) (by omega), qb7 [] (l := m) (by omega) (by omega)];simp only [qa, Int.toNat_natCast];rw [qpq (hr _ (qaD hi)), wid (by omega) (by omega)];simp only [qa];by_cases c : l.getD i [] = m.getD i []
 ·simp only [c, decide_true, Bool.not_true, cond_false, if_true]
 ·simp only [c, decide_false, Bool.not_false, cond_true, qf, if_false]
def qwn (m : Mx) (rows : Nat) : Prop := m.length <= rows /\ ∀ r ∈ m, r.length <= 5
theorem qpW (m : Mx) (rows : Nat) (h : rows <= 1000) : Ok (qdN m (rows : Int)) fun b => b = true -> qwn m rows := by
 unfold qdN;by_cases hl : m.length <= rows
 case neg =>
  have d : decide ((m.length : Int) > (rows : Int)) = true := decide_eq_true (by omega);rw [d, cond_true]; exact qR.2 (by simp)
 have d : decide ((m.length : Int) > (rows : Int)) = false := decide_eq_false (by omega);rw [d, cond_false, qgk m _ (fun _ r => if r.length <= 5 then none else some false) (fun i a hi => ?_), qdA]
 ·cases hf : qd4 (fun _ (r : List G) => if r.length <= 5 then none else some false) 0 m with
  | none =>
   rw [qfP] at hf;refine qR.2 fun _ => ⟨hl, fun r hr => ?_⟩
   obtain ⟨i, hi⟩ := List.mem_iff_getElem?.1 hr;have := hf i r hi;simpa using this
  | some r =>
   obtain ⟨i, a, _, h2, _⟩ := qf1 hf;refine qR.2 fun h3 => ?_;subst h3;split at h2 <;> cases h2
 ·have hlt := qhw hi;rw [qam hi, wid (by omega) (by omega)];simp only [qa];by_cases c : a.length <= 5
  ·have d : decide ((a.length : Int) > 5) = false := decide_eq_false (by omega);simp only [d, cond_false, c, if_true, stp]
  ·have d : decide ((a.length : Int) > 5) = true := decide_eq_true (by omega);simp only [d, cond_true, c, if_false, stp]
theorem qA4 (m : Mx) : Ok (qjv m) fun b => b = true -> qwn m 5 := by
 unfold qjv;exact Ok.bind (qpW m 5 (by omega)) fun b hb => qR.2 hb
end Go.Proofs.YtbcdgfgacigaoaaGreat.Mat
end
section
set_option maxRecDepth 1000000
namespace Go.Tx
open Go
def dd (a b c d e f g h i : G) : G := qeE (qjo (qK a (qjo (qK e i) (qK f h))) (qK b (qjo (qK d i) (qK f g)))) (qK c (qjo (qK d h) (qK e g)))
theorem qqA (f : Nat -> Nat -> G) : qfK 1 f = f 0 0 := by
 simp only [qfK, qn0];exact qqR (by simp [qK, g1, g0, qeE]) (by simp [qK, g1, g0, qeE])
theorem qp1 (f : Nat -> Nat -> G) : qfK 2 f = qjo (qK (f 0 0) (f 1 1)) (qK (f 0 1) (f 1 0)) := by
 have e0 : qfK 1 (minor f 0 0) = f 1 1 := by rw [qqA]; rfl
 have e1 : qfK 1 (minor f 0 1) = f 1 0 := by rw [qqA]; rfl
 have e : qfK 2 f = qeE (qeE g0 (qK (f 0 0) (qfK 1 (minor f 0 0)))) (qi7 (qK (f 0 1) (qfK 1 (minor f 0 1)))) := rfl;rw [e, e0, e1, qqX, <- qsX]
theorem qAh (f : Nat -> Nat -> G) : qfK 3 f = dd (f 0 0) (f 0 1) (f 0 2) (f 1 0) (f 1 1) (f 1 2) (f 2 0) (f 2 1) (f 2 2) := by
 have e0 : qfK 2 (minor f 0 0) = qjo (qK (f 1 1) (f 2 2)) (qK (f 1 2) (f 2 1)) := by rw [qp1]; rfl
 have e1 : qfK 2 (minor f 0 1) = qjo (qK (f 1 0) (f 2 2)) (qK (f 1 2) (f 2 0)) := by rw [qp1]; rfl
 have e2 : qfK 2 (minor f 0 2) = qjo (qK (f 1 0) (f 2 1)) (qK (f 1 1) (f 2 0)) := by rw [qp1]; rfl
 have e : qfK 3 f = qeE (qeE (qeE g0 (qK (f 0 0) (qfK 2 (minor f 0 0)))) (qi7 (qK (f 0 1) (qfK 2 (minor f 0 1))))) (qK (f 0 2) (qfK 2 (minor f 0 2))) := rfl;rw [e, e0, e1, e2, qqX, <- qsX];rfl
end Go.Tx
end
section
namespace Go.Proofs.YtbcdgfgacigaoaaGreat.Mat
open Go Go.Ab Go.Tx Go.Proofs.YtbcdgfgacigaoaaGreat
theorem qAu {n : Int} (h : -9223372036854775807 <= n /\ n <= 9223372036854775807) : qj7 n = some (n.natAbs : Int) := by
 unfold qj7;rw [wid (by omega) (by omega)];congr 1; omega
theorem quC {a b : Int} (ha : a.natAbs <= 4611686018427387904) (hb : b.natAbs <= 4611686018427387904) : qeD a b = some (Int.gcd a b : Int) := by
 unfold qeD;refine Ok.eq ?_;rw [qdC];refine (qyF a b ha hb).mono fun r hr => ?_;have := qwU ha hb;rw [qAu (by omega), qa, qR, hr]
theorem qo5 (l : List Int) (hl : l.length <= 1000000000) (hb : ∀ x ∈ l, x.natAbs <= 4611686018427387904) : qbq l = some (qxK l : Int) := by
 unfold qbq; exact qrH l hl hb
theorem qts {n r c : Nat} (hn : n <= 1000) (f : Nat -> Nat -> G) (hr : r < n + 1) (hc : c < n + 1) : qL (mx (n + 1) (n + 1) f) (r : Int) (c : Int) = some (mx n n (minor f r c)) := by
 unfold qL;rw [qaX];refine Ok.eq ?_;rw [qdC];refine (qav (n + 1) (fun i (s : Mx × Int) => s = (mkL (if i <= r then i else i - 1) (fun j => mkL n fun k => minor f r c j k), (i : Int))) (fun q => q = mx n n (minor f r c)) (by simp [ql4]) ?_).mono (fun a ha => by rw [ha]; exact qR.2 rfl);rintro i s hi rfl;by_cases hlt : i < n + 1
 ·have e0 : decide ((i : Int) < ((n + 1 : Nat) : Int)) = true := decide_eq_true (by omega);simp only [e0, cond_true];rw [qam (qgo f hlt)];simp only [qa];by_cases hz : i = r
  ·subst hz;simp only [decide_true, Bool.not_true, cond_false, qa];rw [wid (by omega) (by omega), qae];refine ⟨hlt, ?_⟩;rw [if_pos (Nat.le_refl _), if_neg (by omega)]; rfl
  ·have e1 : decide ((i : Int) = (r : Int)) = false := decide_eq_false (by omega);simp only [e1, Bool.not_false, cond_true];rw [qtZ (by rw [qv]; omega)];simp only [qa, decide_true, cond_true];rw [wid (n := (c : Int) + 1) (by omega) (by omega), qtZ (by rw [qv]; omega)];simp only [qa, qv];have e2 : ((c : Int) + 1).toNat = c + 1 := by omega
   have e3 : ((n + 1 : Nat) : Int).toNat = n + 1 := by omega
   have e4 : (0 : Int).toNat = 0 := rfl;rw [e2, e3, e4, Int.toNat_natCast, qzz (by simp [qv]; omega)];simp only [qa];rw [qwO (fun k => f i k) hc, qbd (by rw [qv]; split <;> omega)];simp only [qa];rw [wid (by omega) (by omega), qae];refine ⟨hlt, ?_⟩;congr 1
   by_cases hir : i < r
   ·rw [if_pos (by omega), if_pos (by omega), qcA];congr 2
    refine qbC fun k hk => ?_;unfold minor;rw [show skip r i = i by unfold skip; rw [if_pos hir]]
   ·rw [if_neg (by omega), if_neg (by omega)];have e5 : i + 1 - 1 = (i - 1) + 1 := by omega
    rw [e5, qcA];congr 2
    refine qbC fun k hk => ?_;unfold minor;rw [show skip r (i - 1) = i by unfold skip; rw [if_neg (by omega)]; omega]
 ·have : i = n + 1 := by omega
  subst this;have e0 : decide (((n + 1 : Nat) : Int) < ((n + 1 : Nat) : Int)) = false := by simp
  simp only [e0, cond_false];rw [q8, if_neg (by omega)];rfl
theorem qoo {n r c : Nat} (hn : n <= 1000) (f : Nat -> Nat -> G) (hr : r < n + 1) (hc : c < n + 1) : qaY (mx (n + 1) (n + 1) f) (r : Int) (c : Int) = some (mx n n (minor f r c)) := by
 unfold qaY;rw [qaX];refine Ok.eq ?_;rw [qdC];refine (qav (n + 1) (fun i (s : Mx × Int) => s = (mkL (if i <= r then i else i - 1) (fun j => mkL n fun k => minor f r c j k), (i : Int))) (fun q => q = mx n n (minor f r c)) (by simp [ql4]) ?_).mono (fun a ha => by rw [ha]; exact qR.2 rfl);rintro i s hi rfl;by_cases hlt : i < n + 1
 ·have e0 : decide ((i : Int) < ((n + 1 : Nat) : Int)) = true := decide_eq_true (by omega);simp only [e0, cond_true];by_cases hz : i = r
  ·subst hz;simp only [decide_true, cond_true, qa];rw [wid (by omega) (by omega), qae];refine ⟨hlt, ?_⟩;rw [if_pos (Nat.le_refl _), if_neg (by omega)]; rfl
  ·have e1 : decide ((i : Int) = (r : Int)) = false := decide_eq_false (by omega);simp only [e1, cond_false];rw [qkc, qdC];refine (qav (n + 1) (fun k (s : List G × Int) => s = (mkL (if k <= c then k else k - 1) (fun k => f i (skip c k)), (k : Int))) (fun q => q = mkL n fun k => f i (skip c k)) (by simp [ql4]) ?_).mono ?_
   ·rintro k s hk rfl;by_cases hlt2 : k < n + 1
    ·have e2 : decide ((k : Int) < ((n + 1 : Nat) : Int)) = true := decide_eq_true (by omega);simp only [e2, cond_true];by_cases hkc : k = c
     ·subst hkc;simp only [decide_true, Bool.not_true, cond_false, qa];rw [wid (by omega) (by omega), qae];refine ⟨hlt2, ?_⟩;rw [if_pos (Nat.le_refl _), if_neg (by omega)];rfl
     ·have e3 : decide ((k : Int) = (c : Int)) = false := decide_eq_false (by omega);simp only [e3, Bool.not_false, cond_true];rw [qam (qgo f hlt)];simp only [qa];rw [qam (qbH (fun k => f i k) hlt2)];simp only [qa];rw [qbd (by rw [qv]; split <;> omega)];simp only [qa];rw [wid (by omega) (by omega), qae];refine ⟨hlt2, ?_⟩;congr 1
      by_cases hkl : k < c
      ·rw [if_pos (by omega), if_pos (by omega), qcA];congr 3
       unfold skip; rw [if_pos hkl]
      ·rw [if_neg (by omega), if_neg (by omega)];have e5 : k + 1 - 1 = (k - 1) + 1 := by omega
       rw [e5, qcA];congr 3
       unfold skip; rw [if_neg (by omega)]; omega
    ·have : k = n + 1 := by omega
     subst this;have e2 : decide (((n + 1 : Nat) : Int) < ((n + 1 : Nat) : Int)) = false := by simp
     simp only [e2, cond_false];rw [q8, if_neg (by omega)];rfl
   ·rintro q rfl;rw [qbd (by rw [qv]; split <;> omega)];simp only [qa];rw [qR, wid (by omega) (by omega), qae];refine ⟨hlt, ?_⟩;congr 1
    by_cases hir : i < r
    ·rw [if_pos (by omega), if_pos (by omega), qcA];congr 2
     refine qbC fun k hk => ?_;unfold minor;rw [show skip r i = i by unfold skip; rw [if_pos hir]]
    ·rw [if_neg (by omega), if_neg (by omega)];have e5 : i + 1 - 1 = (i - 1) + 1 := by omega
     rw [e5, qcA];congr 2
     refine qbC fun k hk => ?_;unfold minor;rw [show skip r (i - 1) = i by unfold skip; rw [if_neg (by omega)]; omega]
 ·have : i = n + 1 := by omega
  subst this;have e0 : decide (((n + 1 : Nat) : Int) < ((n + 1 : Nat) : Int)) = false := by simp
  simp only [e0, cond_false];rw [q8, if_neg (by omega)];rfl
def parts (l : List G) : List Int := l.flatMap fun z => [z.1, z.2.1]
def qdw (m : Mx) : List Int := m.flatMap parts
theorem qjs (l : List G) (z : G) : parts (l ++ [z]) = parts l ++ [z.1] ++ [z.2.1] := by simp [parts]
theorem qh0 (m : Mx) (r : List G) : qdw (m ++ [r]) = qdw m ++ parts r := by simp [qdw]
theorem qjU : ∀ (l m : List Int) (g : Nat), qgb g (l ++ m) = qgb (qgb g l) m
 | [], m, g => rfl
 | x :: l, m, g => by simp only [List.cons_append, qgb]; exact qjU l m _
def qg (den : Int) (m : Mx) : Nat := qgb den.natAbs (qdw m)
def qgE (g : Int) (f : Nat -> Nat -> G) (i k : Nat) : G := ((f i k).1.tdiv g, (f i k).2.1.tdiv g, ())
theorem qjK {B : Int} {l : List G} (h : ∀ z ∈ l, Bd B z) {x : Int} (hx : x ∈ parts l) : -B <= x /\ x <= B := by
 unfold parts at hx;obtain ⟨z, hz, hx⟩ := List.mem_flatMap.1 hx;have := h z hz;unfold Bd at this;simp only [List.mem_cons, List.not_mem_nil, or_false] at hx;rcases hx with rfl | rfl <;> omega
theorem qxq {B : Int} {m : Mx} (h : BdM B m) {x : Int} (hx : x ∈ qdw m) : -B <= x /\ x <= B := by
 unfold qdw at hx;obtain ⟨r, hr, hx⟩ := List.mem_flatMap.1 hx;exact qjK (h r hr) hx
theorem qyG {B : Int} {den : Int} {m : Mx} (h0 : 0 <= den) (hd : den <= B) (h : BdM B m) : (qg den m : Int) <= B := by
 have : qg den m <= B.toNat := qhG (by omega) fun x hx => by have := qxq h hx; omega
 omega
theorem qxa {den : Int} {m : Mx} (h : den ≠ 0) : 0 < qg den m := by
 rcases Nat.eq_zero_or_pos (qg den m) with h0 | h0
 ·have := (qrh.1 h0).1; omega
 ·exact h0
theorem qz8 {B : Int} (hB : B <= 4611686018427387904) {r : List G} (hl : r.length <= 1000000) (h : ∀ z ∈ r, Bd B z) {g : Nat} (hg : (g : Int) <= B) {K : Nat × Int -> Prop} :
  Ok (qp (fun (s5 : (Int × Int)) =>
      bif decide (s5.1 < (r.length : Int)) then
       (idx r s5.1).bind fun x6 =>
       (qbq ([s5.2, x6.1, x6.2.1])).bind fun x7 =>
       some (.inl (w64 (s5.1 + 1), x7))
      else
       some (.inr s5.2)) (0, (g : Int))) fun x => x = (qgb g (parts r) : Int) := by
 refine qav r.length (fun i (s : Int × Int) => s = ((i : Int), (qgb g (parts (r.take i)) : Int))) _ rfl ?_;rintro i s hi rfl;by_cases hlt : i < r.length
 ·have e0 : decide ((i : Int) < (r.length : Int)) = true := decide_eq_true (by omega);have hz : r[i]? = some (r.getD i g0) := qfJ _ hlt;have hb := h _ (qaD (d := g0) hlt);have hgb : qgb g (parts (r.take i)) <= B.toNat := qhG (by omega) fun x hx => by
   have := qjK (fun z hz => h z (List.mem_of_mem_take hz)) hx; omega
  unfold Bd at hb;simp only [e0, cond_true];rw [qam hz];simp only [qa];rw [qo5 _ (by simp) (by
   intro x hx;simp only [List.mem_cons, List.not_mem_nil, or_false] at hx;rcases hx with rfl | rfl | rfl <;> omega)]
  simp only [qa];rw [wid (by omega) (by omega), qae];refine ⟨hlt, ?_⟩;congr 2
  rw [qbh g0 hlt, qjs, qcU, qcU, qoR];rfl
 ·have : i = r.length := by omega
  subst this;have e0 : decide ((r.length : Int) < (r.length : Int)) = false := by simp
  simp only [e0, cond_false];rw [q8, List.take_length]
theorem qz5 {B den : Int} (hB : B <= 4611686018427387904) {m : Mx} (hl : m.length <= 1000000) (hr : ∀ r ∈ m, r.length <= 1000000) (h : BdM B m) (h0 : 0 <= den) (hd : den <= B) :
  qp (fun (s2 : (Int × Int)) =>
   bif decide (s2.1 < (m.length : Int)) then
    (idx m s2.1).bind fun x3 =>
    (qp (fun (s5 : (Int × Int)) =>
      bif decide (s5.1 < (x3.length : Int)) then
       (idx x3 s5.1).bind fun x6 =>
       (qbq ([s5.2, x6.1, x6.2.1])).bind fun x7 =>
       some (.inl (w64 (s5.1 + 1), x7))
      else
       some (.inr s5.2)) (0, s2.2)).bind fun (p8 : Int) =>
    some (.inl (w64 (s2.1 + 1), p8))
   else
    some (.inr s2.2)) (0, den) = some (qg den m : Int) := by
 refine Ok.eq (qav m.length (fun i (s : Int × Int) => s = ((i : Int), (qg den (m.take i) : Int))) _ (by
  have : ((qg den (m.take 0) : Nat) : Int) = den := by simp [qg, qdw, qgb] <;> omega
  rw [this]; rfl) ?_)
 rintro i s hi rfl;by_cases hlt : i < m.length
 ·have e0 : decide ((i : Int) < (m.length : Int)) = true := decide_eq_true (by omega);have hz : m[i]? = some (m.getD i []) := qfJ _ hlt;have hmem := qaD (d := ([] : List G)) hlt;simp only [e0, cond_true];rw [qam hz];simp only [qa];rw [qkc];refine (qz8 hB (hr _ hmem) (h _ hmem) (qyG h0 hd (fun r hr => h r (List.mem_of_mem_take hr))) (K := fun _ => True)).mono ?_;rintro x rfl;rw [wid (by omega) (by omega), qae];refine ⟨hlt, ?_⟩;congr 2
  rw [qbh [] hlt];unfold qg;rw [qh0, qjU]
 ·have : i = m.length := by omega
  subst this;have e0 : decide ((m.length : Int) < (m.length : Int)) = false := by simp
  simp only [e0, cond_false];rw [q8, List.take_length]
theorem qle {x g B : Int} (h : -B <= x /\ x <= B) : -B <= x.tdiv g /\ x.tdiv g <= B := by
 have h1 : (x.tdiv g).natAbs <= x.natAbs := by rw [Int.natAbs_tdiv]; exact Nat.div_le_self _ _
 omega
def qiJ (n c : Nat) (f : Nat -> Nat -> G) (den : Int) : Int × Mx × Unit := (den.tdiv (qg den (mx n c f)), mx n c (qgE (qg den (mx n c f)) f), ())
theorem qAI {n c : Nat} (hn : n <= 1000) (hc : c <= 1000) (m : Mx) (g : Int) (f : Nat -> Nat -> G) (h : ∀ i k : Nat, i < n -> k < c -> qbB i k m g = some (f i k)) : qaa (n : Int) (c : Int) m g = some (mx n c f) := by
 unfold qaa;exact qhz n c hn hc (fun i k => qbB i k m g) f h
theorem qm8 {n c : Nat} {B den : Int} {f : Nat -> Nat -> G} (hB : B <= 4611686018427387904) (hn : 1 <= n) (hn2 : n <= 1000) (hc : c <= 1000) (h : BdF B n c f) (h0 : 0 < den) (hd : den <= B) :
  qcv (mx n c f) den = some (qiJ n c f den) := by
 unfold qcv;rw [qz5 hB (by rw [qaX]; omega) (fun r hr => by rw [(qqN n c f).2 r hr]; omega) (qzV.2 h) (by omega) hd];simp only [qa];rw [qh3, qgo f (by omega), qa, qv, qaX];have hg : 0 < qg den (mx n c f) := qxa (by omega);have hgne : decide ((qg den (mx n c f) : Int) = 0) = false := decide_eq_false (by omega);have hm := qAI hn2 hc (mx n c f) (qg den (mx n c f)) (qgE (qg den (mx n c f)) f) (fun i k hi hk => by
  unfold qbB;rw [qam (qgo f hi)];simp only [qa];rw [qam (qbH (fun k => f i k) hk)];simp only [qa, hgne, cond_false];have hb := h i k hi hk;unfold Bd at hb;have t1 := qle (g := (qg den (mx n c f) : Int)) hb.1;have t2 := qle (g := (qg den (mx n c f) : Int)) hb.2;rw [wid (by omega) (by omega), wid (by omega) (by omega)];rfl)
 rw [hm];simp only [qa, hgne, cond_false];have t3 := qle (g := (qg den (mx n c f) : Int)) (B := B) (x := den) (by omega);rw [wid (by omega) (by omega)];rfl
theorem qv7 (g : Nat) (a b : Int) : Int.gcd (g : Int) ((Int.gcd a b : Nat) : Int) = Nat.gcd (Nat.gcd g a.natAbs) b.natAbs := by
 simp only [Int.gcd, Int.natAbs_natCast];exact (Nat.gcd_assoc g a.natAbs b.natAbs).symm
theorem qx2 {n c : Nat} {B den : Int} {f : Nat -> Nat -> G} (hB : B <= 4611686018427387904) (hn2 : n <= 1000) (hc : c <= 1000) (h : BdF B n c f) (h0 : 0 < den) (hd : den <= B) :
  qfm den (mx n c f) = some (qiJ n c f den) := by
 unfold qfm;rw [qaX];have hM := qzV.2 h;have hgcd : qp (fun (s2 : (Int × Int)) =>
   bif decide (s2.2 < (n : Int)) then
    (qp (fun (s4 : (Int × Int)) =>
      (idx (mx n c f) s2.2).bind fun x5 =>
      bif decide (s4.2 < (x5.length : Int)) then
       (idx (mx n c f) s2.2).bind fun x6 =>
       (idx x6 s4.2).bind fun x7 =>
       (idx (mx n c f) s2.2).bind fun x8 =>
       (idx x8 s4.2).bind fun x9 =>
       (qeD x7.1 x9.2.1).bind fun x10 =>
       (qeD s4.1 x10).bind fun x11 =>
       some (.inl (x11, w64 (s4.2 + 1)))
      else
       some (.inr s4.1)) (s2.1, 0)).bind fun (p12 : Int) =>
    some (.inl (p12, w64 (s2.2 + 1)))
   else
    some (.inr s2.1)) (den, 0) = some (qg den (mx n c f) : Int) := by
  refine Ok.eq (qav n (fun i (s : Int × Int) => s = ((qg den ((mx n c f).take i) : Int), (i : Int))) _ (by
   have : ((qg den ((mx n c f).take 0) : Nat) : Int) = den := by simp [qg, qdw, qgb] <;> omega
   rw [this]; rfl) ?_)
  rintro i s hi rfl;by_cases hlt : i < n
  ·have e0 : decide ((i : Int) < (n : Int)) = true := decide_eq_true (by omega);simp only [e0, cond_true];rw [qkc];have hq := qyG (m := (mx n c f).take i) (by omega : 0 <= den) hd (fun r hr => hM r (List.mem_of_mem_take hr));refine (qav c (fun k (s : Int × Int) => s = ((qgb (qg den ((mx n c f).take i)) (parts ((mkL c fun k => f i k).take k)) : Int), (k : Int))) (fun q => q = (qgb (qg den ((mx n c f).take i)) (parts (mkL c fun k => f i k)) : Int)) rfl ?_).mono ?_
   ·rintro k s hk rfl;rw [qam (qgo f hlt)];simp only [qa, qv];by_cases hlt2 : k < c
    ·have e1 : decide ((k : Int) < (c : Int)) = true := decide_eq_true (by omega);simp only [e1, cond_true];rw [qam (qbH (fun k => f i k) hlt2)];simp only [qa];have hb := h i k hlt hlt2;have hgb : qgb (qg den ((mx n c f).take i)) (parts ((mkL c fun k => f i k).take k)) <= B.toNat := qhG (by omega) fun x hx => by
      have := qjK (B := B) (fun z hz => by
       obtain ⟨j, hj, rfl⟩ := qk0 (List.mem_of_mem_take hz);exact h i j hlt hj) hx
      omega
     unfold Bd at hb;rw [quC (by omega) (by omega)];simp only [qa];have hg2 : Int.gcd (f i k).1 (f i k).2.1 <= B.toNat := qwU (by omega) (by omega);rw [quC (by omega) (by omega)];simp only [qa];rw [wid (by omega) (by omega), qae];refine ⟨hlt2, ?_⟩;congr 2
     rw [qbh g0 (by rw [qv]; exact hlt2), qjs, qcU, qcU, qqD _ _ hlt2, qv7]
    ·have : k = c := by omega
     subst this;have e1 : decide ((k : Int) < (k : Int)) = false := by simp
     simp only [e1, cond_false];rw [q8, show (mkL k fun k => f i k).take k = mkL k fun k => f i k from List.take_of_length_le (by rw [qv]; omega)]
   ·rintro q rfl;rw [wid (by omega) (by omega), qae];refine ⟨hlt, ?_⟩;congr 2
    rw [qbh [] (by rw [qaX]; exact hlt), qw4 f hlt];unfold qg;rw [qh0, qjU]
  ·have : i = n := by omega
   subst this;have e0 : decide ((i : Int) < (i : Int)) = false := by simp
   simp only [e0, cond_false];rw [q8, List.take_of_length_le (by rw [qaX]; omega)]
 rw [hgcd];simp only [qa];have hg : 0 < qg den (mx n c f) := qxa (by omega);have hgne : decide ((qg den (mx n c f) : Int) = 0) = false := decide_eq_false (by omega);rw [hgne, cond_false];have t3 := qle (g := (qg den (mx n c f) : Int)) (B := B) (x := den) (by omega);rw [wid (n := den.tdiv (qg den (mx n c f))) (by omega) (by omega)];refine Ok.eq ?_;rw [qdC];refine (qav n (fun i (s : Int × Int × Mx) => s = ((i : Int), den.tdiv (qg den (mx n c f)), mkL i fun i => mkL c fun k => qgE (qg den (mx n c f)) f i k)) (fun q => q = (den.tdiv (qg den (mx n c f)), mx n c (qgE (qg den (mx n c f)) f))) rfl ?_).mono (fun a ha => by rw [ha]; exact qR.2 rfl);rintro i s hi rfl;by_cases hlt : i < n
 ·have e0 : decide ((i : Int) < (n : Int)) = true := decide_eq_true (by omega);simp only [e0, cond_true];rw [qiE c (fun k => qgE (qg den (mx n c f)) f i k) (fun k hk => ?_) ?_]
  ·simp only [qa];rw [qbd (by rw [qv]; omega)];simp only [qa];rw [wid (by omega) (by omega), qae];refine ⟨hlt, ?_⟩;rw [qcA]; rfl
  ·have e1 : decide ((c : Int) < (c : Int)) = false := by simp
   rw [qam (qgo f hlt)];simp only [qa, qv, e1, cond_false]
  ·have e1 : decide ((k : Int) < (c : Int)) = true := decide_eq_true (by omega);rw [qam (qgo f hlt)];simp only [qa, qv, e1, cond_true];rw [qam (qbH (fun k => f i k) hk)];simp only [qa, hgne, cond_false];have hb := h i k hlt hk;unfold Bd at hb;have t1 := qle (g := (qg den (mx n c f) : Int)) hb.1;have t2 := qle (g := (qg den (mx n c f) : Int)) hb.2;rw [wid (n := (f i k).1.tdiv _) (by omega) (by omega), wid (n := (f i k).2.1.tdiv _) (by omega) (by omega), qbd (by rw [qv]; omega)];simp only [qa];rw [wid (by omega) (by omega)];rfl
 ·have : i = n := by omega
  subst this;have e0 : decide ((i : Int) < (i : Int)) = false := by simp
  simp only [e0, cond_false];rw [q8];rfl
end Go.Proofs.YtbcdgfgacigaoaaGreat.Mat
end
section
namespace Go.Proofs.YtbcdgfgacigaoaaGreat.Mat
open Go Go.Ab Go.Tx Go.Proofs.YtbcdgfgacigaoaaGreat
def dC (B : Int) : Nat -> Int
 | 0 => 1
 | 1 => B
 | n + 2 => ((n + 2 : Nat) : Int) * (2 * (B * dC B (n + 1)))
theorem qum {B : Int} (hB : 0 <= B) : ∀ (n : Nat) (f : Nat -> Nat -> G), BdF B n n f -> Bd (dC B n) (qfK n f)
 | 0, f, _ => qzO (by simp [dC])
 | 1, f, h => by rw [qqA]; exact h 0 0 (by omega) (by omega)
 | n + 2, f, h => by
  simp only [qfK, dC];refine Bd.sum fun k hk => ?_;have h1 := (h 0 k (by omega) hk).mul (qum hB (n + 1) _ (qc8 (r := 0) (c := k) h));split
  ·exact h1.neg
  ·exact h1
def qAc (n : Nat) (f : Nat -> Nat -> G) (i k : Nat) : G := qfK n (minor f k i)
def qsi (n : Nat) (f : Nat -> Nat -> G) (i k : Nat) : G := if (i + k) % 2 = 1 then qi7 (qAc n f i k) else qAc n f i k
def qqT (n : Nat) (f : Nat -> Nat -> G) (d : G) (i k : Nat) : G := qK (qsi n f i k) (qag d)
def norm (d : G) : Int := d.1 * d.1 + d.2.1 * d.2.1
theorem qzc (d : G) : qK d (qag d) = (norm d, 0, ()) := qqR (by simp only [qK, qag, norm]; grind) (by simp only [qK, qag]; grind)
theorem qza {d : G} (h : d ≠ g0) : 0 < norm d := by
 unfold norm;have h1 := sq_nonneg d.1;have h2 := sq_nonneg d.2.1;rcases Int.lt_or_le 0 (d.1 * d.1 + d.2.1 * d.2.1) with h3 | h3
 ·exact h3
 ·exfalso
  have e1 := qqv (show d.1 * d.1 = 0 by omega);have e2 := qqv (show d.2.1 * d.2.1 = 0 by omega);exact h (qqR e1 e2)
theorem qsw {B : Int} {d : G} (h : Bd B d) (hB : B <= 9000000000000000000) : qaT d = some (qag d) := by
 unfold qaT qag;unfold Bd at h;rw [wid (by omega) (by omega)];have e : (0 : Int) - d.2.1 = -d.2.1 := by omega
 rw [e]
theorem qzj {B : Int} {d : G} (h : Bd B d) (hB : B <= 9000000000000000000) : qhP d = some (qag d) := by
 unfold qhP qag;unfold Bd at h;rw [wid (by omega) (by omega)];have e : (0 : Int) - d.2.1 = -d.2.1 := by omega
 rw [e]
theorem neg_mul (a b : G) : qK (qi7 a) b = qi7 (qK a b) := qqR (by simp only [qK, qi7]; grind) (by simp only [qK, qi7]; grind)
theorem qwx {B : Int} {a : G} (h : Bd B a) (hB : B <= 9000000000000000000) : qaH (0, 0, ()) a = some (qi7 a) := by
 have := qx9 (a := g0) (qqn (B := 0) (by omega)) h (by omega);rw [qm9] at this;exact congrArg some this
theorem qyu {B : Int} {a : G} (h : Bd B a) (hB : B <= 9000000000000000000) : qfS (0, 0, ()) a = some (qi7 a) := by
 have := qx9 (a := g0) (qqn (B := 0) (by omega)) h (by omega);rw [qm9] at this;exact congrArg some this
theorem qBo (j : Nat) : (j : Int).tmod 2 = ((j % 2 : Nat) : Int) := by rw [Int.tmod_eq_emod_of_nonneg (by omega)]; omega
theorem qyc {n c : Nat} (hn : n <= 1000) (hc : c <= 1000) (m : Mx) (d : G) (f : Nat -> Nat -> G) (h : ∀ i k : Nat, i < n -> k < c -> qap i k m d = some (f i k)) : qG (n : Int) (c : Int) m d = some (mx n c f) := by
 unfold qG;exact qhz n c hn hc (fun i k => qap i k m d) f h
structure InvB (n : Nat) (f : Nat -> Nat -> G) (d : G) (B M D Q : Int) : Prop where
 hB : 1 <= B
 hf : BdF B (n + 1) (n + 1) f
 crude : dB B n <= 9000000000000000000
 minor : ∀ i k, i < n + 1 -> k < n + 1 -> Bd M (qAc n f i k)
 hd : Bd D d
 md : 2 * (M * D) <= Q
 dd : 2 * (D * D) <= 9000000000000000000
 hQ : Q <= 4611686018427387904
 M0 : M <= 9000000000000000000
 D0 : D <= 9000000000000000000
 nq : norm d <= Q
 nz : d ≠ g0
theorem InvB.adj {n : Nat} {f : Nat -> Nat -> G} {d : G} {B M D Q : Int} (h : InvB n f d B M D Q) {i k : Nat} (hi : i < n + 1) (hk : k < n + 1) : Bd M (qsi n f i k) := by
 unfold qsi;split
 ·exact (h.minor i k hi hk).neg
 ·exact h.minor i k hi hk
theorem InvB.t {n : Nat} {f : Nat -> Nat -> G} {d : G} {B M D Q : Int} (h : InvB n f d B M D Q) : BdF Q (n + 1) (n + 1) (qqT n f d) := fun i k hi hk => ((h.adj hi hk).mul h.hd.qzf).mono h.md
theorem qA9 {n : Nat} {f : Nat -> Nat -> G} {B : Int} (hB : 1 <= B) (hn : n <= 10) (hf : BdF B n n f) (hb : dB B n <= 9000000000000000000) : qS (mx n n f) = some (qfK n f) := by
 unfold qS; exact qzU hB 12 n f (by omega) (by omega) hf hb
theorem qqr {n : Nat} {f : Nat -> Nat -> G} {B : Int} (hB : 1 <= B) (hn : n <= 10) (hf : BdF B n n f) (hb : dB B n <= 9000000000000000000) : qat (mx n n f) = some (qfK n f) := by
 unfold qat; exact qru hB 12 n f (by omega) (by omega) hf hb
theorem qu3 {n : Nat} {f : Nat -> Nat -> G} {d : G} {B M D Q : Int} (hn : n <= 5) (h : InvB n f d B M D Q) :
  qa8 (mx (n + 1) (n + 1) f) d = some (qiJ (n + 1) (n + 1) (qqT n f d) (norm d)) := by
 unfold qa8;rw [qaX];have h2Q : 2 * (M * D) <= 9000000000000000000 := by have := h.md; have := h.hQ; omega
 rw [qyc (by omega) (by omega) _ d (qqT n f d) (fun i k hi hk => by
  unfold qap;rw [qts (by omega) f hk hi];simp only [qa];rw [qA9 h.hB (by omega) (qc8 h.hf) h.crude];simp only [qa];rw [qsw h.hd h.D0];simp only [qa];have hb := h.minor i k hi hk;unfold qAc at hb;rw [qfX hb h.hd.qzf h2Q];simp only [qa];rw [wid (by omega) (by omega)];have e0 : ((i : Int) + (k : Int)) = ((i + k : Nat) : Int) := by omega
  rw [e0, qBo];unfold qqT qsi qAc;by_cases hp : (i + k) % 2 = 1
  ·have e2 : decide ((((i + k) % 2 : Nat) : Int) = 1) = true := decide_eq_true (by omega);rw [e2, cond_true, if_pos hp, qwx (hb.mul h.hd.qzf) h2Q, neg_mul]; rfl
  ·have e2 : decide ((((i + k) % 2 : Nat) : Int) = 1) = false := decide_eq_false (by omega);rw [e2, cond_false, if_neg hp])]
 simp only [qa];rw [qsw h.hd h.D0];simp only [qa];rw [qfX h.hd h.hd.qzf h.dd, qzc];simp only [qa];rw [qm8 h.hQ (by omega) (by omega) (by omega) h.t (qza h.nz) h.nq];rfl
def qBC (z : G) : Int := (z.1.natAbs : Int) + (z.2.1.natAbs : Int)
def qBT : Nat -> (Nat -> Int) -> Int
 | 0, _ => 0
 | n + 1, f => qBT n f + f n
def qBQ : Nat -> (Nat -> Int) -> Int
 | 0, _ => 0
 | n + 1, f => max (qBQ n f) (f n)
def qBW (n c : Nat) (f : Nat -> Nat -> G) : Int := qBQ n fun i => qBT c fun k => qBC (f i k)
def qxP (s : Int) (i k : Nat) : G := if i = k then (s, 0, ()) else g0
theorem qAN {n c : Nat} (hn : n <= 1000) (hc : c <= 1000) (m : Mx) (s : Int) (f : Nat -> Nat -> G) (h : ∀ i k : Nat, i < n -> k < c -> qax i k m s = some (f i k)) : qH (n : Int) (c : Int) m s = some (mx n c f) := by
 unfold qH;exact qhz n c hn hc (fun i k => qax i k m s) f h
theorem qwg {n c : Nat} {A B s : Int} {f : Nat -> Nat -> G} (hn1 : 1 <= n) (hn : n <= 1000) (hc : c <= 1000) (hf : BdF A n c f) (hs : -B <= s /\ s <= B) (hb : 2 * (A * B) <= 9000000000000000000) :
  qbu (mx n c f) s = some (mx n c fun i k => qK (f i k) (s, 0, ())) := by
 unfold qbu;rw [qh3, qgo f (by omega), qa, qv, qaX];rw [qAN hn hc _ s (fun i k => qK (f i k) (s, 0, ())) (fun i k hi hk => by
  unfold qax;rw [qzk f hi hk];simp only [qa];rw [qfX (hf i k hi hk) (B := B) (by unfold Bd; simp only; omega) hb]; rfl)]
 rfl
theorem qwb {n : Nat} {s : Int} (hn : n <= 1000) : qrx (n : Int) s = some (mx n n (qxP s)) := by
 unfold qrx;rw [qiE n (fun i => mkL n fun k => qxP s i k) (fun i hi => ?_) ?_]
 ·rfl
 ·have e0 : decide ((n : Int) < (n : Int)) = false := by simp
  simp only [e0, cond_false]
 ·have e0 : decide ((i : Int) < (n : Int)) = true := decide_eq_true (by omega);simp only [e0, cond_true];rw [qzH (by omega)];simp only [qa, decide_true, cond_true];have hl : (List.replicate ((n : Int).toNat) ((0, 0, ()) : G)).length = n := by simp
  rw [qb7 g0 (by omega) (by rw [hl]; omega)];simp only [qa, Int.toNat_natCast];have hrow : (List.replicate n ((0, 0, ()) : G)).set i (s, 0, ()) = mkL n fun k => qxP s i k := by
   refine qo3 (by simp) fun k hk => ?_;rw [List.getElem?_set, List.getElem?_replicate, List.length_replicate];unfold qxP;by_cases h : i = k
   ·rw [if_pos h, if_pos h, if_pos (by omega)]
   ·rw [if_neg h, if_neg h, if_pos hk]; rfl
  rw [hrow, qbd (by rw [qv]; omega)];simp only [qa];rw [wid (by omega) (by omega)]
def qAy (a b : Mx) : Option Nat := qd4 (fun i r => if r = b.getD i [] then none else some i) 0 a
theorem qyo {l m : List G} (hl : l.length <= 1000000000) : qQ l m = some (decide (l = m)) := by
 have h := qpq (l := l) (m := m) hl;unfold qd0 at h;unfold qQ;exact h
theorem qvD {a b : Mx} (ha : a.length <= 1000000000) (hb : a.length <= b.length) (har : ∀ r ∈ a, r.length <= 1000000000) : qeB a b = some (match qAy a b with
  | some i => ((i : Int), true)
  | none => (0, false)) := by
 unfold qeB qAy;rw [qgk a _ (fun i r => if r = b.getD i [] then none else some ((i : Int), true)) (fun i r hi => ?_), qdA]
 ·have key : ∀ (l : Mx) (k : Nat), qd4 (fun i r => if r = b.getD i [] then none else some ((i : Int), true)) k l = (qd4 (fun i r => if r = b.getD i [] then none else some i) k l).map fun (i : Nat) => ((i : Int), true) := by
   intro l;induction l with
   | nil => intro k; rfl
   | cons r l ih =>
    intro k;simp only [qd4];by_cases c : r = b.getD k []
    ·simp only [c, if_true]; exact ih (k + 1)
    ·simp only [c, if_false] <;> rfl
  rw [key];cases qd4 (fun i r => if r = b.getD i [] then none else some i) 0 a <;> rfl
 ·have hlt := qhw hi;rw [qam hi];simp only [qa];rw [qb7 [] (by omega) (by omega), qa, qyo (har r (List.mem_of_getElem? hi))];simp only [qa, Int.toNat_natCast];rw [wid (by omega) (by omega)];by_cases c : r = b.getD i []
  ·rw [decide_eq_true c, if_pos c]; rfl
  ·rw [decide_eq_false c, if_neg c]; rfl
theorem qpV {a b : Mx} (ha : a.length <= 1000000000) (hb : a.length <= b.length) (har : ∀ r ∈ a, r.length <= 1000000000) (hab : ∀ i, i < a.length -> (a.getD i []).length = (b.getD i []).length) : qey a b = some (match qAy a b with
  | some i => (i : Int)
  | none => -1) := by
 unfold qey qAy;rw [qgk a _ (fun i r => if r = b.getD i [] then none else some (i : Int)) (fun i r hi => ?_), qdA]
 ·have key : ∀ (l : Mx) (k : Nat), qd4 (fun i r => if r = b.getD i [] then none else some (i : Int)) k l = (qd4 (fun i r => if r = b.getD i [] then none else some i) k l).map fun (i : Nat) => (i : Int) := by
   intro l;induction l with
   | nil => intro k; rfl
   | cons r l ih =>
    intro k;simp only [qd4];by_cases c : r = b.getD k []
    ·simp only [c, if_true]; exact ih (k + 1)
    ·simp only [c, if_false] <;> rfl
  rw [key];cases qd4 (fun i r => if r = b.getD i [] then none else some i) 0 a <;> rfl
 ·have hlt := qhw hi;have hrow : a.getD i [] = r := qfD hi;have hrl := har r (List.mem_of_getElem? hi);have hl2 := hab i hlt;rw [hrow] at hl2;rw [qam hi];simp only [qa];refine Ok.eq (qm0.2 ?_);refine (qav r.length (fun k (s : Int) => s = (k : Int) /\ ∀ j, j < k -> r.getD j g0 = (b.getD i []).getD j g0)
   (fun x => (x = .inl () /\ r = b.getD i []) \/ (x = .inr (.inr (.inr (i : Int))) /\ r ≠ b.getD i [])) ⟨rfl, by simp⟩ ?_).mono ?_
  ·rintro k s hk ⟨rfl, hI⟩;by_cases hlt2 : k < r.length
   ·have e1 : decide ((k : Int) < (r.length : Int)) = true := decide_eq_true (by omega);simp only [e1, cond_true];rw [qb7 g0 (l := r) (by omega) (by omega)];simp only [qa, Int.toNat_natCast];rw [qb7 [] (l := b) (by omega) (by omega)];simp only [qa, Int.toNat_natCast];rw [qb7 g0 (l := b.getD i []) (by omega) (by omega)];simp only [qa, Int.toNat_natCast];rw [qtn, wid (by omega) (by omega)];by_cases c : r.getD k g0 = (b.getD i []).getD k g0
    ·rw [decide_eq_true c, Bool.not_true, cond_false, qae];refine ⟨hlt2, rfl, fun j hj => ?_⟩;by_cases hjk : j < k
     ·exact hI j hjk
     ·have : j = k := by omega
      subst this; exact c
    ·rw [decide_eq_false c, Bool.not_false, cond_true, q8];exact .inr ⟨rfl, fun e => c (by rw [<- e])⟩
   ·have : k = r.length := by omega
    subst this;have e1 : decide ((r.length : Int) < (r.length : Int)) = false := by simp
    simp only [e1, cond_false];rw [q8];exact .inl ⟨rfl, (qtY g0).1 ⟨hl2, hI⟩⟩
  ·rintro x (⟨rfl, h⟩ | ⟨rfl, h⟩)
   ·simp only
    rw [qR, wid (by omega) (by omega), if_pos h]; rfl
   ·simp only
    rw [if_neg h]; rfl
end Go.Proofs.YtbcdgfgacigaoaaGreat.Mat
end
section
namespace Go.Proofs.YtbcdgfgacigaoaaGreat.Mat
open Go Go.Ab Go.Tx Go.Proofs.YtbcdgfgacigaoaaGreat
abbrev Qt := Int × Mx × Unit
def qI : Int := 100000000000
instance (B : Int) (m : Mx) : Decidable (BdM B m) := inferInstanceAs (Decidable (∀ r ∈ m, ∀ z ∈ r, Bd B z))
def qtE (x : Qt) (n : Nat) : Int :=
 if ¬ (1 <= x.1 /\ x.1 <= qI) then 2 else if x.2.1.length ≠ n then 10 else if ¬ (∀ r ∈ x.2.1, r.length = n) then 10
 else if ¬ BdM qI x.2.1 then 2 else if qg x.1 x.2.1 = 1 then 0 else 3
theorem qxv (a b : Int) : qO [a, b] = some (if a = 0 then b else a) := by
 rw [qtI _ (by simp)];by_cases h : a = 0 <;> by_cases h2 : b = 0 <;> simp [qyv, h, h2]
theorem qyL {x : Qt} {n : Nat} (hl : x.2.1.length <= 1000) (hr : ∀ r ∈ x.2.1, r.length <= 1000) (hn : n <= 1000) : qb3 x (n : Int) = some (qtE x n) := by
 obtain ⟨den, m, u⟩ := x;simp only at hl hr;unfold qb3;simp only
 rw [qq0];simp only [qjz, qa];rw [qxv];simp only [qa];have hden : (decide (1 <= den /\ den <= 100000000000) = true) ↔ (1 <= den /\ den <= qI) := by simp [qI]
 -- the shapes
 let e0 : Int := if (if decide (1 <= den /\ den <= 100000000000) = true then (0 : Int) else 2) = 0 then (if decide ((m.length : Int) = (n : Int)) = true then 0 else 10) else (if decide (1 <= den /\ den <= 100000000000) = true then 0 else 2)
 have hloop : qp (fun (s6 : (Int × Int)) =>
   bif decide (s6.2 < (m.length : Int)) then
    (idx m s6.2).bind fun x7 =>
    (qO ([s6.1, if decide ((x7.length : Int) = (n : Int)) = true then (0 : Int) else 10])).bind fun x9 =>
    some (.inl (x9, w64 (s6.2 + 1)))
   else
    some (.inr s6.1)) (e0, 0) = some (if e0 ≠ 0 then e0 else if ∀ r ∈ m, r.length = n then 0 else 10) := by
  refine Ok.eq (qav m.length (fun i (s : Int × Int) => s = (if e0 ≠ 0 then e0 else if ∀ r ∈ m.take i, r.length = n then 0 else 10, (i : Int))) _ ?_ ?_)
  ·by_cases h : e0 = 0 <;> simp [h]
  ·rintro i s hi rfl;by_cases hlt : i < m.length
   ·have d0 : decide ((i : Int) < (m.length : Int)) = true := decide_eq_true (by omega);have hz : m[i]? = some (m.getD i []) := qfJ _ hlt;simp only [d0, cond_true];rw [qam hz];simp only [qa];rw [qxv];simp only [qa];rw [wid (by omega) (by omega), qae];refine ⟨hlt, ?_⟩;congr 1
    rw [qbh [] hlt];by_cases h : e0 = 0
    ·have hc : ¬ e0 ≠ 0 := by simp [h]
     rw [if_neg hc, if_neg hc];by_cases ha : ∀ r ∈ m.take i, r.length = n
     ·rw [if_pos ha, if_pos rfl];by_cases hq : (m.getD i []).length = n
      ·rw [decide_eq_true (show ((m.getD i []).length : Int) = (n : Int) by omega), if_pos rfl, if_pos];intro r hr';rcases List.mem_append.1 hr' with h1 | h1
       ·exact ha r h1
       ·rw [List.mem_singleton] at h1; rw [h1]; exact hq
      ·rw [decide_eq_false (show ¬ ((m.getD i []).length : Int) = (n : Int) by omega), if_neg (by simp), if_neg];intro h9;exact hq (h9 _ (by simp))
     ·rw [if_neg ha, if_neg (by omega), if_neg];intro h9;exact ha fun r hr' => h9 r (by simp [hr'])
    ·rw [if_pos h, if_pos h, if_neg h]
   ·have : i = m.length := by omega
    subst this;have d0 : decide ((m.length : Int) < (m.length : Int)) = false := by simp
    simp only [d0, cond_false];rw [q8, List.take_length]
 have hgoal : (if (if decide (1 <= den /\ den <= 100000000000) = true then (0 : Int) else 2) = 0 then (if decide ((m.length : Int) = (n : Int)) = true then (0 : Int) else 10) else (if decide (1 <= den /\ den <= 100000000000) = true then 0 else 2)) = e0 := rfl;rw [hgoal, hloop];simp only [qa];by_cases c1 : 1 <= den /\ den <= qI
 case neg =>
  have he : e0 = 2 := by
   show (if (if decide (1 <= den /\ den <= 100000000000) = true then (0 : Int) else 2) = 0 then _ else _) = _;rw [if_neg (fun h => c1 (hden.1 h)), if_neg (by omega)]
  have hv : qtE (den, m, u) n = 2 := by unfold qtE; rw [if_pos c1]
  rw [he, if_pos (show (2 : Int) ≠ 0 by omega), hv];rfl
 by_cases c2 : m.length = n
 case neg =>
  have he : e0 = 10 := by
   show (if (if decide (1 <= den /\ den <= 100000000000) = true then (0 : Int) else 2) = 0 then _ else _) = _;rw [if_pos (hden.2 c1), if_pos rfl, if_neg (by simp; omega)]
  have hv : qtE (den, m, u) n = 10 := by unfold qtE; rw [if_neg (fun h => h c1), if_pos c2]
  rw [he, if_pos (show (10 : Int) ≠ 0 by omega), hv];rfl
 have he : e0 = 0 := by
  show (if (if decide (1 <= den /\ den <= 100000000000) = true then (0 : Int) else 2) = 0 then _ else _) = _;rw [if_pos (hden.2 c1), if_pos rfl, if_pos (by simp; omega)]
 rw [he, if_neg (show ¬ (0 : Int) ≠ 0 by omega)];by_cases c3 : ∀ r ∈ m, r.length = n
 case neg =>
  have hv : qtE (den, m, u) n = 10 := by unfold qtE; rw [if_neg (fun h => h c1), if_neg (fun h => h c2), if_pos c3]
  rw [if_neg c3, hv];rfl
 have hv : qtE (den, m, u) n = if ¬ BdM qI m then 2 else if qg den m = 1 then 0 else 3 := by unfold qtE; rw [if_neg (fun h => h c1), if_neg (fun h => h c2), if_neg (fun h => h c3)]
 rw [if_pos c3, hv];simp only [decide_true, Bool.not_true, cond_false]
 -- the parts
 have hden1 : den.natAbs <= qI.toNat := by unfold qI at *; omega
 have hqb : ∀ i, BdM qI (m.take i) -> (qg den (m.take i) : Int) <= qI := fun i h => qyG (by omega) c1.2 h;refine Ok.eq (qm0.2 ?_);refine (qav m.length (fun i (s : Int × Int) => s = ((qg den (m.take i) : Int), (i : Int)) /\ BdM qI (m.take i))
  (fun r => (r = .inl (qg den m : Int) /\ BdM qI m) \/ (r = .inr 2 /\ ¬ BdM qI m)) ⟨by
   have : ((qg den (m.take 0) : Nat) : Int) = den := by simp [qg, qdw, qgb] <;> omega
   rw [this]; rfl, by intro r hr; simp at hr⟩ ?_).mono ?_
 ·rintro i s hi ⟨rfl, hI⟩;by_cases hlt : i < m.length
  ·have d0 : decide ((i : Int) < (m.length : Int)) = true := decide_eq_true (by omega);have hz : m[i]? = some (m.getD i []) := qfJ _ hlt;have hmem := qaD (d := ([] : List G)) hlt;have hrl := hr _ hmem;simp only [d0, cond_true];rw [qam hz];simp only [qa];generalize hrow : m.getD i [] = r at *;rw [quF];have hq := hqb i hI;refine (qav r.length (fun k (s : Int × Int) => s = ((qgb (qg den (m.take i)) (parts (r.take k)) : Int), (k : Int)) /\ ∀ z ∈ r.take k, Bd qI z)
    (fun x => (x = .inl (qgb (qg den (m.take i)) (parts r) : Int) /\ ∀ z ∈ r, Bd qI z) \/ (x = .inr (.inr (.inr 2)) /\ ¬ ∀ z ∈ r, Bd qI z)) ⟨rfl, by simp⟩ ?_).mono ?_
   ·rintro k s hk ⟨rfl, hK⟩;by_cases hlt2 : k < r.length
    ·have d1 : decide ((k : Int) < (r.length : Int)) = true := decide_eq_true (by omega);have hz2 : r[k]? = some (r.getD k g0) := qfJ _ hlt2;simp only [d1, cond_true];rw [qam hz2];simp only [qa];rw [qgL _ _ (by omega) (by omega)];simp only [qa];by_cases hb : Bd 100000000000 (r.getD k g0)
     ·rw [decide_eq_true hb, Bool.not_true, cond_false];have hgb : qgb (qg den (m.take i)) (parts (r.take k)) <= qI.toNat := qhG (by unfold qI at *; omega) fun x hx => by
       have := qjK hK hx;unfold qI at *; omega
      have hb' := hb;unfold Bd at hb;rw [qo5 _ (by simp) (by
       intro x hx;unfold qI at *;simp only [List.mem_cons, List.not_mem_nil, or_false] at hx;rcases hx with rfl | rfl | rfl <;> omega)]
      simp only [qa];rw [wid (by omega) (by omega), qae];refine ⟨hlt2, ?_, fun z hz3 => ?_⟩
      ·congr 2
       rw [qbh g0 hlt2, qjs, qcU, qcU, qoR];rfl
      ·rw [qbh g0 hlt2] at hz3;rcases List.mem_append.1 hz3 with h1 | h1
       ·exact hK z h1
       ·rw [List.mem_singleton] at h1; rw [h1]; exact hb'
     ·rw [decide_eq_false hb, Bool.not_false, cond_true, q8];exact .inr ⟨rfl, fun h => hb (h _ (qaD hlt2))⟩
    ·have : k = r.length := by omega
     subst this;have d1 : decide ((r.length : Int) < (r.length : Int)) = false := by simp
     simp only [d1, cond_false];rw [q8];rw [List.take_length] at hK ⊢;exact .inl ⟨rfl, hK⟩
   ·rintro x (⟨rfl, h⟩ | ⟨rfl, h⟩)
    ·simp only
     rw [wid (by omega) (by omega), qae];have e : m.take (i + 1) = m.take i ++ [r] := by rw [qbh [] hlt, hrow]
     refine ⟨hlt, ?_, ?_⟩
     ·rw [e]; unfold qg; rw [qh0, qjU]; rfl
     ·rw [e];intro q hq2;rcases List.mem_append.1 hq2 with h1 | h1
      ·exact hI q h1
      ·rw [List.mem_singleton] at h1; rw [h1]; exact h
    ·simp only
     exact .inr ⟨(by trivial), fun hh => h (hh r hmem)⟩
  ·have : i = m.length := by omega
   subst this;have d0 : decide ((m.length : Int) < (m.length : Int)) = false := by simp
   simp only [d0, cond_false];rw [q8];rw [List.take_length] at hI ⊢;exact .inl ⟨rfl, hI⟩
 ·rintro x (⟨rfl, h⟩ | ⟨rfl, h⟩)
  ·simp only
   rw [if_neg (show ¬ ¬ BdM qI m from fun hh => hh h)];by_cases hq : qg den m = 1
   ·rw [if_pos hq, decide_eq_true (show (qg den m : Int) = 1 by omega)]; exact qR.2 rfl
   ·rw [if_neg hq, decide_eq_false (show ¬ (qg den m : Int) = 1 by omega)]; exact qR.2 rfl
  ·simp only
   rw [if_pos h]
theorem qsv {x : Qt} {n : Nat} (hl : x.2.1.length <= 1000) (hr : ∀ r ∈ x.2.1, r.length <= 1000) (hn : n <= 1000) : qb1 x (n : Int) = some (qtE x n) := by
 obtain ⟨den, m, u⟩ := x;simp only at hl hr;unfold qb1 qtE;simp only
 rw [qnF];simp only [qa];by_cases c1 : 1 <= den /\ den <= qI
 case neg =>
  rw [decide_eq_false (show ¬ (1 <= den /\ den <= 100000000000) from c1), if_pos c1]; rfl
 rw [decide_eq_true (show (1 <= den /\ den <= 100000000000) from c1), if_neg (by simpa using c1)];simp only [Bool.not_true, cond_false];by_cases c2 : m.length = n
 case neg =>
  rw [decide_eq_false (show ¬ (m.length : Int) = (n : Int) by omega), if_pos c2]; rfl
 subst c2;rw [if_neg (by simp), decide_eq_true rfl];simp only [Bool.not_true, cond_false];rw [qgk m _ (fun _ r => if r.length = m.length then none else some (10 : Int)) (fun i r hi => ?_), qdA]
 rotate_left
 ·have hlt := qhw hi;rw [qam hi];simp only [qa];rw [wid (by omega) (by omega)];by_cases c : r.length = m.length
  ·rw [decide_eq_true (show (r.length : Int) = (m.length : Int) by omega), if_pos c]; rfl
  ·rw [decide_eq_false (show ¬ (r.length : Int) = (m.length : Int) by omega), if_neg c]; rfl
 cases hf : qd4 (fun _ (r : List G) => if r.length = m.length then none else some (10 : Int)) 0 m with
 | some e =>
  obtain ⟨i, r, h1, h2, _⟩ := qf1 hf;have hne : ¬ ∀ r ∈ m, r.length = m.length := fun h => by
   rw [if_pos (h r (List.mem_of_getElem? h1))] at h2; cases h2
  have he : e = 10 := by
   split at h2
   ·cases h2
   ·cases h2; rfl
  rw [if_pos hne, he]
 | none =>
  rw [qfP] at hf;have c3 : ∀ r ∈ m, r.length = m.length := fun r hr' => by
   obtain ⟨i, hi⟩ := List.mem_iff_getElem?.1 hr';have := hf i r hi;by_cases c : r.length = m.length
   ·exact c
   ·rw [if_neg c] at this; cases this
  rw [if_neg (by simpa using c3)];simp only
  have hqb : ∀ i, BdM qI (m.take i) -> (qg den (m.take i) : Int) <= qI := fun i h => qyG (by omega) c1.2 h;refine Ok.eq (qm0.2 ?_);refine (qav m.length (fun i (s : Int × Int) => s = ((qg den (m.take i) : Int), (i : Int)) /\ BdM qI (m.take i))
   (fun r => (r = .inl (qg den m : Int) /\ BdM qI m) \/ (r = .inr 2 /\ ¬ BdM qI m)) ⟨by
    have : ((qg den (m.take 0) : Nat) : Int) = den := by simp [qg, qdw, qgb] <;> omega
    rw [this]; rfl, by intro r hr; simp at hr⟩ ?_).mono ?_
  ·rintro i s hi ⟨rfl, hI⟩;by_cases hlt : i < m.length
   ·have d0 : decide ((i : Int) < (m.length : Int)) = true := decide_eq_true (by omega);have hz : m[i]? = some (m.getD i []) := qfJ _ hlt;have hmem := qaD (d := ([] : List G)) hlt;have hrl := c3 _ hmem;simp only [d0, cond_true];generalize hrow : m.getD i [] = r at *;rw [quF];have hq := hqb i hI;refine (qav m.length (fun k (s : Int × Int) => s = ((qgb (qg den (m.take i)) (parts (r.take k)) : Int), (k : Int)) /\ ∀ z ∈ r.take k, Bd qI z)
     (fun x => (x = .inl (qgb (qg den (m.take i)) (parts r) : Int) /\ ∀ z ∈ r, Bd qI z) \/ (x = .inr (.inr (.inr 2)) /\ ¬ ∀ z ∈ r, Bd qI z)) ⟨rfl, by simp⟩ ?_).mono ?_
    ·rintro k s hk ⟨rfl, hK⟩;by_cases hlt2 : k < m.length
     ·have d1 : decide ((k : Int) < (m.length : Int)) = true := decide_eq_true (by omega);have hz2 : r[k]? = some (r.getD k g0) := qfJ _ (by omega);simp only [d1, cond_true];rw [qam hz];simp only [qa];rw [qam hz2];simp only [qa];rw [qge _ _ (by omega) (by omega)];simp only [qa];by_cases hb : Bd 100000000000 (r.getD k g0)
      ·rw [decide_eq_true hb, Bool.not_true, cond_false];have hgb : qgb (qg den (m.take i)) (parts (r.take k)) <= qI.toNat := qhG (by unfold qI at *; omega) fun x hx => by
        have := qjK hK hx;unfold qI at *; omega
       have hb' := hb;unfold Bd at hb;unfold qI at hgb;rw [quC (by omega) (by omega)];simp only [qa];have hg2 : Int.gcd (r.getD k g0).1 (r.getD k g0).2.1 <= 100000000000 := qwU (by omega) (by omega);rw [quC (by omega) (by omega)];simp only [qa];rw [wid (by omega) (by omega), qae];refine ⟨hlt2, ?_, fun z hz3 => ?_⟩
       ·congr 2
        rw [qbh g0 (by omega), qjs, qcU, qcU, qv7]
       ·rw [qbh g0 (by omega)] at hz3;rcases List.mem_append.1 hz3 with h1 | h1
        ·exact hK z h1
        ·rw [List.mem_singleton] at h1; rw [h1]; exact hb'
      ·rw [decide_eq_false hb, Bool.not_false, cond_true, q8];exact .inr ⟨rfl, fun h => hb (h _ (qaD (by omega)))⟩
     ·have : k = m.length := by omega
      subst this;have d1 : decide ((m.length : Int) < (m.length : Int)) = false := by simp
      simp only [d1, cond_false];rw [q8];rw [show r.take m.length = r from List.take_of_length_le (by omega)] at hK ⊢;exact .inl ⟨rfl, hK⟩
    ·rintro x (⟨rfl, h⟩ | ⟨rfl, h⟩)
     ·simp only
      rw [wid (by omega) (by omega), qae];have e : m.take (i + 1) = m.take i ++ [r] := by rw [qbh [] hlt, hrow]
      refine ⟨hlt, ?_, ?_⟩
      ·rw [e]; unfold qg; rw [qh0, qjU]; rfl
      ·rw [e];intro q hq2;rcases List.mem_append.1 hq2 with h1 | h1
       ·exact hI q h1
       ·rw [List.mem_singleton] at h1; rw [h1]; exact h
     ·simp only
      exact .inr ⟨(by trivial), fun hh => h (hh r hmem)⟩
   ·have : i = m.length := by omega
    subst this;have d0 : decide ((m.length : Int) < (m.length : Int)) = false := by simp
    simp only [d0, cond_false];rw [q8];rw [List.take_length] at hI ⊢;exact .inl ⟨rfl, hI⟩
  ·rintro x (⟨rfl, h⟩ | ⟨rfl, h⟩)
   ·simp only
    rw [if_neg (show ¬ ¬ BdM qI m from fun hh => hh h)];by_cases hq : qg den m = 1
    ·rw [if_pos hq, decide_eq_true (show (qg den m : Int) = 1 by omega)]; exact qR.2 rfl
    ·rw [if_neg hq, decide_eq_false (show ¬ (qg den m : Int) = 1 by omega)]; exact qR.2 rfl
   ·simp only
    rw [if_pos h]
end Go.Proofs.YtbcdgfgacigaoaaGreat.Mat
end
section
namespace Go.Proofs.YtbcdgfgacigaoaaGreat.Mat
open Go Go.Ab Go.Tx Go.Proofs.YtbcdgfgacigaoaaGreat
def qAC (m : Mx) : G := qfK m.length (ent m)
def qBK (m : Mx) : Nat -> Nat -> G := qgE (qg (norm (qAC m)) (mx m.length m.length (qqT (m.length - 1) (ent m) (qAC m)))) (qqT (m.length - 1) (ent m) (qAC m))
def qBR (m : Mx) : Int := (norm (qAC m)).tdiv (qg (norm (qAC m)) (mx m.length m.length (qqT (m.length - 1) (ent m) (qAC m))))
theorem qA6 {x : Qt} {n : Nat} (h : qtE x n = 0) : (1 <= x.1 /\ x.1 <= qI) /\ qBj n n x.2.1 /\ BdM qI x.2.1 /\ qg x.1 x.2.1 = 1 := by
 unfold qtE at h;by_cases c1 : 1 <= x.1 /\ x.1 <= qI
 ·rw [if_neg (fun h => h c1)] at h;by_cases c2 : x.2.1.length = n
  ·rw [if_neg (fun h => h c2)] at h;by_cases c3 : ∀ r ∈ x.2.1, r.length = n
   ·rw [if_neg (fun h => h c3)] at h;by_cases c4 : BdM qI x.2.1
    ·rw [if_neg (fun h => h c4)] at h;by_cases c5 : qg x.1 x.2.1 = 1
     ·exact ⟨c1, ⟨c2, c3⟩, c4, c5⟩
     ·rw [if_neg c5] at h; cases h
    ·rw [if_pos c4] at h; cases h
   ·rw [if_pos c3] at h; cases h
  ·rw [if_pos c2] at h; cases h
 ·rw [if_pos c1] at h; cases h
theorem qhj {x y : Qt} (hl : x.2.1.length <= 1000000000) (hr : ∀ r ∈ x.2.1, r.length <= 1000000000) : qaW x y = some (decide (x = y)) := by
 unfold qaW;rw [qpN hl hr];obtain ⟨a, m, _⟩ := x;obtain ⟨b, n, _⟩ := y;simp only [qa];by_cases h1 : a = b
 ·by_cases h2 : m = n
  ·simp [h1, h2]
  ·simp [h1, h2]
 ·simp [h1]
theorem qmG {x : Qt} (hl : x.2.1.length <= 1000000000) (hr : ∀ r ∈ x.2.1, r.length <= 1000000000) : qbN x = some x := by
 unfold qbN;rw [qgC hl hr]; rfl
end Go.Proofs.YtbcdgfgacigaoaaGreat.Mat
namespace Go.Proofs.YtbcdgfgacigaoaaGreat
open Go Go.Ab Go.Tx
end Go.Proofs.YtbcdgfgacigaoaaGreat
end
section
namespace Go.Proofs.YtbcdgfgacigaoaaGreat.Mat
open Go Go.Ab Go.Tx Go.Proofs.YtbcdgfgacigaoaaGreat
theorem qyj {n : Nat} {f : Nat -> G} (c : G) : qn0 n (fun k => qK (f k) c) = qK (qn0 n f) c := by
 induction n with
 | zero => exact (qx0 c).symm
 | succ n ih => simp only [qn0, ih, qyP]
theorem qs1 {n i k : Nat} {f f' h h' : Nat -> Nat -> G} (e1 : ∀ j, j < n -> f i j = f' i j) (e2 : ∀ j, j < n -> h j k = h' j k) : qe1 n f h i k = qe1 n f' h' i k := by
 unfold qe1;exact qpC fun j hj => by rw [e1 j hj, e2 j hj]
theorem qpk (n : Nat) (f h : Nat -> Nat -> G) (c : G) (i k : Nat) : qe1 n f (fun i k => qK (h i k) c) i k = qK (qe1 n f h i k) c := by
 unfold qe1;rw [<- qyj];exact qpC fun j hj => (qvh _ _ _).symm
theorem qef {n c : Nat} {f : Nat -> Nat -> G} {x : Int} : x ∈ qdw (mx n c f) ↔ ∃ i k, i < n /\ k < c /\ (x = (f i k).1 \/ x = (f i k).2.1) := by
 unfold qdw;rw [List.mem_flatMap];constructor
 ·rintro ⟨r, hr, hx⟩;obtain ⟨i, hi, rfl⟩ := qk0 hr;unfold parts at hx;obtain ⟨z, hz, hx⟩ := List.mem_flatMap.1 hx;obtain ⟨k, hk, rfl⟩ := qk0 hz;exact ⟨i, k, hi, hk, by simpa using hx⟩
 ·rintro ⟨i, k, hi, hk, hx⟩;refine ⟨mkL c fun k => f i k, qqk (f := fun i => mkL c fun k => f i k) hi, ?_⟩;unfold parts;exact List.mem_flatMap.2 ⟨f i k, qqk (f := fun k => f i k) hk, by simpa using hx⟩
theorem qli {d c : Nat} : ∀ {l : List Int} {g : Nat}, d ∣ c * g -> (∀ x ∈ l, d ∣ c * x.natAbs) -> d ∣ c * qgb g l
 | [], g, hg, _ => hg
 | n :: l, g, hg, h => by
  simp only [qgb];refine qli (l := l) ?_ fun x hx => h x (by simp [hx]);rw [<- Nat.gcd_mul_left];exact Nat.dvd_gcd hg (h n (by simp))
theorem qnj (a : G) (s : Int) : qK a (s, 0, ()) = (a.1 * s, a.2.1 * s, ()) := qqR (by simp [qK]) (by simp [qK])
end Go.Proofs.YtbcdgfgacigaoaaGreat.Mat
end
section
set_option maxRecDepth 1000000
namespace Go.Tx
open Go
def nrm (a : G) : Int := a.1 * a.1 + a.2.1 * a.2.1
theorem qeI (a : G) : 0 <= nrm a := by
 have := sq_nonneg a.1;have := sq_nonneg a.2.1;unfold nrm; omega
def gr (N : Nat) (f h : Nat -> G) : G := qn0 N fun j => qK (f j) (qag (h j))
def grn (N : Nat) (f : Nat -> G) : Int := match N with
 | 0 => 0
 | n + 1 => grn n f + nrm (f n)
theorem qvW : ∀ (N : Nat) (f : Nat -> G), gr N f f = (grn N f, 0, ())
 | 0, f => rfl
 | n + 1, f => by
  have h := qvW n f;unfold gr at h ⊢;simp only [qn0, h, grn];exact qqR (by simp only [qeE, qK, qag, nrm]; grind) (by simp only [qeE, qK, qag, nrm]; grind)
theorem qx3 : ∀ (N : Nat) (f h : Nat -> G), gr N h f = qag (gr N f h)
 | 0, f, h => rfl
 | n + 1, f, h => by
  have e := qx3 n f h;unfold gr at e ⊢;simp only [qn0, e];exact qqR (by simp only [qeE, qK, qag]; grind) (by simp only [qeE, qK, qag]; grind)
def qim (a b c : Int) (x y z p q r : G) : Int :=
 a * nrm p + b * nrm q + c * nrm r + 2 * (qK (qag p) (qK x q)).1 + 2 * (qK (qag p) (qK y r)).1 + 2 * (qK (qag q) (qK z r)).1
set_option maxHeartbeats 4000000 in
theorem qvP (a b c : Int) (x y z p q r u v t : G) :
  qim (a + nrm u) (b + nrm v) (c + nrm t) (qeE x (qK u (qag v))) (qeE y (qK u (qag t))) (qeE z (qK v (qag t))) p q r =
   qim a b c x y z p q r + nrm (qeE (qeE (qK (qag p) u) (qK (qag q) v)) (qK (qag r) t)) := by
 obtain ⟨u1, u2, _⟩ := u;obtain ⟨v1, v2, _⟩ := v;obtain ⟨t1, t2, _⟩ := t;obtain ⟨p1, p2, _⟩ := p;obtain ⟨q1, q2, _⟩ := q;obtain ⟨r1, r2, _⟩ := r;obtain ⟨x1, x2, _⟩ := x;obtain ⟨y1, y2, _⟩ := y;obtain ⟨z1, z2, _⟩ := z;simp only [qim, nrm, qeE, qK, qag];grind
theorem qlv (p q r : G) (u v t : Nat -> G) : ∀ N, 0 <= qim (grn N u) (grn N v) (grn N t) (gr N u v) (gr N u t) (gr N v t) p q r
 | 0 => by simp [qim, grn, gr, qn0, g0, qK, qag, nrm]
 | n + 1 => by
  have h := qlv p q r u v t n;have e := qvP (grn n u) (grn n v) (grn n t) (gr n u v) (gr n u t) (gr n v t) p q r (u n) (v n) (t n);have := qeI (qeE (qeE (qK (qag p) (u n)) (qK (qag q) (v n))) (qK (qag r) (t n)));have e2 : qim (grn (n + 1) u) (grn (n + 1) v) (grn (n + 1) t) (gr (n + 1) u v) (gr (n + 1) u t) (gr (n + 1) v t) p q r = qim (grn n u + nrm (u n)) (grn n v + nrm (v n)) (grn n t + nrm (t n)) (qeE (gr n u v) (qK (u n) (qag (v n)))) (qeE (gr n u t) (qK (u n) (qag (t n)))) (qeE (gr n v t) (qK (v n) (qag (t n)))) p q r := rfl;rw [e2, e]; omega
def qfO (a c : Int) (x p q : G) : Int := a * nrm p + c * nrm q + 2 * (qK (qag p) (qK x q)).1
theorem ql2 {a c : Int} {x : G} (h : ∀ p q, 0 <= qfO a c x p q) : 0 <= a /\ 0 <= c /\ nrm x <= a * c := by
 have ha : 0 <= a := by
  have := h (1, 0, ()) (0, 0, ());simp [qfO, nrm, qK, qag] at this;exact this
 have hc : 0 <= c := by
  have := h (0, 0, ()) (1, 0, ());simp [qfO, nrm, qK, qag] at this;exact this
 refine ⟨ha, hc, ?_⟩;by_cases h0 : a = 0
 ·subst h0;have h1 := h (-((c + 1) * x.1), -((c + 1) * x.2.1), ()) (1, 0, ());have e : qfO 0 c x (-((c + 1) * x.1), -((c + 1) * x.2.1), ()) (1, 0, ()) = c - 2 * ((c + 1) * nrm x) := by
   simp only [qfO, nrm, qK, qag]; grind
  rw [e] at h1;have hn := qeI x;rw [Int.zero_mul];false_or_by_contra
  have h2 : (c + 1) * 1 <= (c + 1) * nrm x := Int.mul_le_mul_of_nonneg_left (by omega) (by omega);omega
 ·have h1 := h (qi7 x) (a, 0, ());have e : qfO a c x (qi7 x) (a, 0, ()) = a * (a * c - nrm x) := by
   simp only [qfO, nrm, qK, qag, qi7]; grind
  rw [e] at h1;have : 0 <= a * c - nrm x := by
   false_or_by_contra
   have h3 : a * (a * c - nrm x) <= a * (-1) := Int.mul_le_mul_of_nonneg_left (by omega) ha;omega
  omega
def qwy (a b c : Int) (x y z : G) : Int := a * b * c + 2 * (qK (qK x z) (qag y)).1 - a * nrm z - b * nrm y - c * nrm x
set_option maxHeartbeats 4000000 in
theorem qs3 (a b c : Int) (x y z q r : G) :
  qim a b c x y z (qi7 (qeE (qK x q) (qK y r))) (a * q.1, a * q.2.1, ()) (a * r.1, a * r.2.1, ()) =
   a * qfO (a * b - nrm x) (a * c - nrm y) (qjo (a * z.1, a * z.2.1, ()) (qK (qag x) y)) q r := by
 obtain ⟨q1, q2, _⟩ := q;obtain ⟨r1, r2, _⟩ := r;obtain ⟨x1, x2, _⟩ := x;obtain ⟨y1, y2, _⟩ := y;obtain ⟨z1, z2, _⟩ := z;simp only [qim, qfO, nrm, qeE, qK, qag, qi7, qjo];grind
set_option maxHeartbeats 4000000 in
theorem qwD (a b c : Int) (x y z : G) : (a * b - nrm x) * (a * c - nrm y) - nrm (qjo (a * z.1, a * z.2.1, ()) (qK (qag x) y)) = a * qwy a b c x y z := by
 obtain ⟨x1, x2, _⟩ := x;obtain ⟨y1, y2, _⟩ := y;obtain ⟨z1, z2, _⟩ := z;simp only [qwy, nrm, qeE, qK, qag, qi7, qjo];grind
theorem quw {x : G} (h : nrm x <= 0) : x = g0 := by
 have h1 := sq_nonneg x.1;have h2 := sq_nonneg x.2.1;unfold nrm at h;exact qqR (qqv (by omega)) (qqv (by omega))
theorem qxu {a b c : Int} {x y z : G} (h : ∀ p q r, 0 <= qim a b c x y z p q r) : 0 <= a /\ 0 <= b /\ 0 <= c /\ nrm x <= a * b /\ nrm y <= a * c /\ nrm z <= b * c /\ 0 <= qwy a b c x y z /\ qwy a b c x y z <= a * b * c := by
 have hx : ∀ p q, 0 <= qfO a b x p q := fun p q => by
  have := h p q g0;have e : qim a b c x y z p q g0 = qfO a b x p q := by simp [qim, qfO, nrm, qK, qag, g0]
  rw [e] at this; exact this
 have hy : ∀ p q, 0 <= qfO a c y p q := fun p q => by
  have := h p g0 q;have e : qim a b c x y z p g0 q = qfO a c y p q := by simp [qim, qfO, nrm, qK, qag, g0]
  rw [e] at this; exact this
 have hz : ∀ p q, 0 <= qfO b c z p q := fun p q => by
  have := h g0 p q;have e : qim a b c x y z g0 p q = qfO b c z p q := by simp [qim, qfO, nrm, qK, qag, g0]
  rw [e] at this; exact this
 obtain ⟨a0, b0, x1⟩ := ql2 hx;obtain ⟨_, c0, y1⟩ := ql2 hy;obtain ⟨_, _, z1⟩ := ql2 hz;refine ⟨a0, b0, c0, x1, y1, z1, ?_⟩;by_cases ha : a = 0
 ·subst ha;rw [Int.zero_mul] at x1 y1;have ex := quw x1;have ey := quw y1;subst ex ey;have e : qwy 0 b c g0 g0 z = 0 := by simp [qwy, nrm, qK, qag, g0]
  rw [e]; simp
 ·have hk : ∀ q r, 0 <= qfO (a * b - nrm x) (a * c - nrm y) (qjo (a * z.1, a * z.2.1, ()) (qK (qag x) y)) q r := fun q r => by
   have h1 := h (qi7 (qeE (qK x q) (qK y r))) (a * q.1, a * q.2.1, ()) (a * r.1, a * r.2.1, ());rw [qs3] at h1;false_or_by_contra
   have h3 : a * qfO (a * b - nrm x) (a * c - nrm y) (qjo (a * z.1, a * z.2.1, ()) (qK (qag x) y)) q r <= a * (-1) := Int.mul_le_mul_of_nonneg_left (by omega) a0;omega
  obtain ⟨k1, k2, k3⟩ := ql2 hk;have hd := qwD a b c x y z;have hn := qeI (qjo (a * z.1, a * z.2.1, ()) (qK (qag x) y));have m1 := Int.mul_le_mul (show a * b - nrm x <= a * b by have := qeI x; omega) (show a * c - nrm y <= a * c by have := qeI y; omega) k2 (Int.mul_nonneg a0 b0);have e1 : a * b * (a * c) = a * (a * b * c) := by grind
  constructor
  ·false_or_by_contra
   have h3 : a * qwy a b c x y z <= a * (-1) := Int.mul_le_mul_of_nonneg_left (by omega) a0;omega
  ·false_or_by_contra
   have h3 : a * (a * b * c + 1) <= a * qwy a b c x y z := Int.mul_le_mul_of_nonneg_left (by omega) a0;rw [Int.mul_add, Int.mul_one] at h3;omega
set_option maxHeartbeats 4000000 in
theorem qAp (a b c : Int) (x y z : G) : dd (a, 0, ()) x y (qag x) (b, 0, ()) z (qag y) (qag z) (c, 0, ()) = (qwy a b c x y z, 0, ()) := by
 obtain ⟨x1, x2, _⟩ := x;obtain ⟨y1, y2, _⟩ := y;obtain ⟨z1, z2, _⟩ := z;exact qqR (by simp only [dd, qwy, nrm, qeE, qK, qag, qi7, qjo]; grind) (by simp only [dd, qwy, nrm, qeE, qK, qag, qi7, qjo]; grind)
def qtz (N : Nat) (v : Nat -> Nat -> G) (i k : Nat) : G := gr N (fun j => v j i) (fun j => v j k)
theorem qy4 {N n : Nat} (hn : n <= 3) {v : Nat -> Nat -> G} {B : Int} (hB : 1 <= B) (hd : ∀ i, i < n -> grn N (fun j => v j i) <= B) : ∃ w : Int, qfK n (qtz N v) = (w, 0, ()) /\ 0 <= w /\ w <= B * B * B := by
 have b0 : 0 <= B := by omega
 have bb : B * 1 <= B * B := Int.mul_le_mul_of_nonneg_left hB b0;have bbb : B * B * 1 <= B * B * B := Int.mul_le_mul_of_nonneg_left hB (by omega);have hg : ∀ i k, qtz N v k i = qag (qtz N v i k) := fun i k => qx3 N _ _;have hs : ∀ i, qtz N v i i = (grn N (fun j => v j i), 0, ()) := fun i => qvW N _;have hq := fun p q r => qlv p q r (fun j => v j 0) (fun j => v j 1) (fun j => v j 2) N;obtain ⟨a0, c0, d0, x1, y1, z1, hd0, hd1⟩ := qxu hq
 match n, hn, hd with
 | 0, _, _ => exact ⟨1, rfl, by omega, by omega⟩
 | 1, _, hd =>
  have := hd 0 (by omega);refine ⟨grn N (fun j => v j 0), ?_, a0, by omega⟩;rw [qqA, hs]
 | 2, _, hd =>
  have h0 := hd 0 (by omega);have h1 := hd 1 (by omega);have m := Int.mul_le_mul h0 h1 c0 b0;have := qeI (qtz N v 0 1);refine ⟨grn N (fun j => v j 0) * grn N (fun j => v j 1) - nrm (qtz N v 0 1), ?_, ?_, by omega⟩
  ·rw [qp1, hs 0, hs 1, hg 0 1];exact qqR (by simp only [qjo, qK, qag, nrm]; grind) (by simp only [qjo, qK, qag, nrm]; grind)
  ·have e : nrm (qtz N v 0 1) <= grn N (fun j => v j 0) * grn N (fun j => v j 1) := x1;omega
 | 3, _, hd =>
  have h0 := hd 0 (by omega);have h1 := hd 1 (by omega);have h2 := hd 2 (by omega);have m1 := Int.mul_le_mul h0 h1 c0 b0;have m2 := Int.mul_le_mul m1 h2 d0 (by omega);refine ⟨_, ?_, hd0, by omega⟩;rw [qAh, hs 0, hs 1, hs 2, hg 0 1, hg 0 2, hg 1 2, qAp];rfl
end Go.Tx
end
section
namespace Go.Proofs.YtbcdgfgacigaoaaGreat.Mat
open Go Go.Ab Go.Tx Go.Proofs.YtbcdgfgacigaoaaGreat
abbrev Rn := Mx × Mx × Unit
def qzS (n0 : Nat) (d r : List G) : Int := if ¬ d.length = 0 /\ d.length = n0 /\ r.length = d.length then (if 3 < d.length then 8 else if (d.any (qin 9) || r.any (qin 9)) = true then 2 else 0) else 10
def qlJ (ρ : Rn) : Nat -> Int
 | 0 => 0
 | i + 1 => if qlJ ρ i = 0 then qzS (ρ.1.getD 0 []).length (ρ.1.getD i []) (ρ.2.1.getD i []) else qlJ ρ i
def qoc (ρ : Rn) : Int := if ρ.1.length = 0 \/ ¬ ρ.2.1.length = ρ.1.length then 10 else if 6 < ρ.1.length then 8 else qlJ ρ ρ.1.length
theorem qjD {ρ : Rn} {i j : Nat} (h : qlJ ρ i ≠ 0) (hij : i <= j) : qlJ ρ j = qlJ ρ i := by
 induction j with
 | zero => rw [show i = 0 by omega]
 | succ j ih =>
  by_cases c : i = j + 1
  ·rw [c]
  ·have := ih (by omega);simp only [qlJ];rw [this, if_neg h]
theorem qww {ρ : Rn} {n : Nat} (h : qlJ ρ n = 0) {i : Nat} (hi : i < n) : qzS (ρ.1.getD 0 []).length (ρ.1.getD i []) (ρ.2.1.getD i []) = 0 := by
 have h1 : qlJ ρ (i + 1) = 0 := by
  false_or_by_contra
  rename_i h9;have := qjD h9 (show i + 1 <= n by omega);omega
 simp only [qlJ] at h1;by_cases c : qlJ ρ i = 0
 ·rw [if_pos c] at h1; exact h1
 ·rw [if_neg c] at h1; exact absurd h1 c
theorem qwk {n0 : Nat} {d r : List G} (h : qzS n0 d r = 0) : d.length = n0 /\ r.length = n0 /\ 1 <= n0 /\ n0 <= 3 /\ (∀ z ∈ d, Bd 9 z) /\ ∀ z ∈ r, Bd 9 z := by
 unfold qzS at h;by_cases c : ¬ d.length = 0 /\ d.length = n0 /\ r.length = d.length
 case neg => rw [if_neg c] at h; cases h
 rw [if_pos c] at h;by_cases c2 : 3 < d.length
 ·rw [if_pos c2] at h; cases h
 rw [if_neg c2] at h;cases hb : (d.any (qin 9) || r.any (qin 9)) with
 | true => rw [hb, if_pos rfl] at h; cases h
 | false =>
  rw [Bool.or_eq_false_iff] at hb;refine ⟨c.2.1, by omega, by omega, by omega, fun z hz => ?_, fun z hz => ?_⟩
  ·have := List.any_eq_false.1 hb.1 z hz;unfold qin at this;simpa using this
  ·have := List.any_eq_false.1 hb.2 z hz;unfold qin at this;simpa using this
structure RunB (ρ : Rn) (n : Nat) : Prop where
 len : ρ.2.1.length = ρ.1.length
 l1 : 1 <= ρ.1.length
 l6 : ρ.1.length <= 6
 n1 : 1 <= n
 n3 : n <= 3
 hn : (ρ.1.getD 0 []).length = n
 dl : ∀ j, j < ρ.1.length -> (ρ.1.getD j []).length = n
 rl : ∀ j, j < ρ.1.length -> (ρ.2.1.getD j []).length = n
 dB : ∀ j i, j < ρ.1.length -> i < n -> Bd 9 (ent ρ.1 j i)
 rB : ∀ j i, j < ρ.1.length -> i < n -> Bd 9 (ent ρ.2.1 j i)
theorem qBm {ρ : Rn} (h : qoc ρ = 0) : RunB ρ (ρ.1.getD 0 []).length := by
 unfold qoc at h;by_cases c : ρ.1.length = 0 \/ ¬ ρ.2.1.length = ρ.1.length
 ·rw [if_pos c] at h; cases h
 rw [if_neg c] at h;by_cases c2 : 6 < ρ.1.length
 ·rw [if_pos c2] at h; cases h
 rw [if_neg c2] at h;have hz := fun j hj => qwk (qww h (i := j) hj);have h0 := hz 0 (by omega);refine ⟨by omega, by omega, by omega, h0.2.2.1, h0.2.2.2.1, rfl, fun j hj => (hz j hj).1, fun j hj => (hz j hj).2.1, fun j i hj hi => (hz j hj).2.2.2.2.1 _ (qaD (by rw [(hz j hj).1]; exact hi)), fun j i hj hi => (hz j hj).2.2.2.2.2 _ (qaD (by rw [(hz j hj).2.1]; exact hi))⟩
theorem qyi {d r : List G} (hl : r.length = d.length) (hd : d.length <= 1000000000) (v : Int) (K2 : Unit -> Option (Int ⊕ (Unit ⊕ Int))) :
  ((qp (fun (s9 : Int) =>
   bif decide (s9 < (d.length : Int)) then
    ((idx d s9).bind fun x10 =>
     (qa4 x10 (9 : Int)).bind fun x11 =>
     bif !x11 then
      some true
     else
      (idx r s9).bind fun x12 =>
      (qa4 x12 (9 : Int)).bind fun x13 =>
      some (!x13)).bind fun (p14 : Bool) =>
    bif p14 then
     some (.inr (.inr (.inr (.inr v))))
    else
     some (.inl (w64 (s9 + 1)))
   else
    some (.inr (.inl ()))) 0) : Option (Unit ⊕ (Int ⊕ (Unit ⊕ Int)))).bind (Sum.elim K2 some) = if (d.any (qin 9) || r.any (qin 9)) = true then some (.inr (.inr v)) else K2 () := by
 rw [qgk d _ (fun i z => if (qin 9 z || qin 9 (r.getD i g0)) = true then some (Sum.inr (Sum.inr v) : Int ⊕ (Unit ⊕ Int)) else none) (fun i z hi => ?_), qdA]
 ·cases hf : qd4 (fun i z => if (qin 9 z || qin 9 (r.getD i g0)) = true then some (Sum.inr (Sum.inr v) : Int ⊕ (Unit ⊕ Int)) else none) 0 d with
  | none =>
   rw [qfP] at hf;have h1 : (d.any (qin 9) || r.any (qin 9)) = false := by
    rw [Bool.or_eq_false_iff];refine ⟨List.any_eq_false.2 fun x hx => ?_, List.any_eq_false.2 fun x hx => ?_⟩
    ·obtain ⟨k, hk⟩ := List.mem_iff_getElem?.1 hx;have := hf k x hk;intro hb;rw [hb] at this;simp at this
    ·obtain ⟨k, hk⟩ := List.mem_iff_getElem?.1 hx;have hlt := qhw hk;have := hf k (d.getD k g0) (qfJ g0 (by omega));intro hb;rw [Nat.zero_add, qfD hk, hb, Bool.or_true] at this;simp at this
   rw [h1]; simp
  | some q =>
   obtain ⟨k, z, h1, h2, _⟩ := qf1 hf;by_cases hp : (qin 9 z || qin 9 (r.getD (0 + k) g0)) = true
   case neg => rw [if_neg hp] at h2; cases h2
   rw [if_pos hp] at h2;cases h2;have hlt := qhw h1;have hb : (d.any (qin 9) || r.any (qin 9)) = true := by
    rw [Bool.or_eq_true] at hp ⊢;rcases hp with hp | hp
    ·exact .inl (List.any_eq_true.2 ⟨z, List.mem_of_getElem? h1, hp⟩)
    ·exact .inr (List.any_eq_true.2 ⟨_, qaD (by omega), hp⟩)
   rw [hb]; simp
 ·have hlt := qhw hi;rw [qam hi, qa, qge _ _ (by omega) (by omega), qa, qb7 g0 (l := r) (by omega) (by omega), qa, qge _ _ (by omega) (by omega), qa, wid (by omega) (by omega), Int.toNat_natCast];unfold qin;generalize r.getD i g0 = y;by_cases c1 : Bd 9 z <;> by_cases c2 : Bd 9 y <;> simp [c1, c2, stp]
theorem quL {ρ : Rn} (h1 : ρ.1.length <= 1000000000) (hr : ∀ d ∈ ρ.1, d.length <= 1000000000) : qdh ρ = some (qoc ρ) := by
 unfold qdh qoc;have e1 : (bif decide ((ρ.1.length : Int) = 0) then some true else some (!(decide ((ρ.2.1.length : Int) = (ρ.1.length : Int))))) = some (decide (ρ.1.length = 0 \/ ¬ ρ.2.1.length = ρ.1.length)) := by
  by_cases c : ρ.1.length = 0
  ·rw [decide_eq_true (show (ρ.1.length : Int) = 0 by omega), cond_true, decide_eq_true (show ρ.1.length = 0 \/ ¬ ρ.2.1.length = ρ.1.length from .inl c)]
  ·rw [decide_eq_false (show ¬ (ρ.1.length : Int) = 0 by omega), cond_false];by_cases c2 : ρ.2.1.length = ρ.1.length
   ·rw [decide_eq_true (show (ρ.2.1.length : Int) = (ρ.1.length : Int) by omega), decide_eq_false (show ¬ (ρ.1.length = 0 \/ ¬ ρ.2.1.length = ρ.1.length) by omega)]; rfl
   ·rw [decide_eq_false (show ¬ (ρ.2.1.length : Int) = (ρ.1.length : Int) by omega), decide_eq_true (show ρ.1.length = 0 \/ ¬ ρ.2.1.length = ρ.1.length from .inr c2)]; rfl
 rw [e1, qa];by_cases c : ρ.1.length = 0 \/ ¬ ρ.2.1.length = ρ.1.length
 ·rw [decide_eq_true c, cond_true, if_pos c]
 rw [decide_eq_false c, cond_false, if_neg c];by_cases c2 : 6 < ρ.1.length
 ·rw [decide_eq_true (show (ρ.1.length : Int) > 6 by omega), cond_true, if_pos c2]
 rw [decide_eq_false (show ¬ (ρ.1.length : Int) > 6 by omega), cond_false, if_neg c2];refine Ok.eq ?_;refine qm0.2 ?_;refine (qav ρ.1.length (fun i (s : Int) => s = (i : Int) /\ qlJ ρ i = 0) (fun q : Unit ⊕ Int => match q with
  | .inl _ => qlJ ρ ρ.1.length = 0
  | .inr e => e = qlJ ρ ρ.1.length) ⟨rfl, rfl⟩ ?_).mono ?_
 ·rintro i s hi ⟨rfl, hz⟩;by_cases hlt : i < ρ.1.length
  ·have e2 : decide ((i : Int) < (ρ.1.length : Int)) = true := decide_eq_true (by omega);have f1 : idx ρ.1 (i : Int) = some (ρ.1.getD i []) := by rw [qb7 [] (by omega) (by omega), Int.toNat_natCast]
   have f2 : idx ρ.2.1 (i : Int) = some (ρ.2.1.getD i []) := by rw [qb7 [] (by omega) (by omega), Int.toNat_natCast]
   have f3 : idx ρ.1 0 = some (ρ.1.getD 0 []) := by rw [qb7 [] (by omega) (by omega)]; rfl
   have hnext : qlJ ρ (i + 1) = qzS (ρ.1.getD 0 []).length (ρ.1.getD i []) (ρ.2.1.getD i []) := by simp only [qlJ]; rw [if_pos hz]
   have hdl : (ρ.1.getD i []).length <= 1000000000 := hr _ (qaD hlt);simp only [e2, cond_true, f1, f2, f3, qa];generalize ρ.1.getD i [] = d at *;generalize ρ.2.1.getD i [] = r at *;generalize (ρ.1.getD 0 []).length = n0 at *;have e3 : (bif decide ((d.length : Int) = 0) then some true else bif !(decide ((d.length : Int) = (n0 : Int))) then some true else some (!(decide ((r.length : Int) = (d.length : Int))))) = some (!(decide (¬ d.length = 0 /\ d.length = n0 /\ r.length = d.length))) := by
    by_cases b1 : d.length = 0
    ·rw [decide_eq_true (show (d.length : Int) = 0 by omega), cond_true, decide_eq_false (show ¬ (¬ d.length = 0 /\ d.length = n0 /\ r.length = d.length) from fun h => h.1 b1)]; rfl
    rw [decide_eq_false (show ¬ (d.length : Int) = 0 by omega), cond_false];by_cases b2 : d.length = n0
    case neg => rw [decide_eq_false (show ¬ (d.length : Int) = (n0 : Int) by omega), Bool.not_false, cond_true, decide_eq_false (show ¬ (¬ d.length = 0 /\ d.length = n0 /\ r.length = d.length) from fun h => b2 h.2.1)]; rfl
    rw [decide_eq_true (show (d.length : Int) = (n0 : Int) by omega), Bool.not_true, cond_false];by_cases b3 : r.length = d.length
    ·rw [decide_eq_true (show (r.length : Int) = (d.length : Int) by omega), decide_eq_true (show ¬ d.length = 0 /\ d.length = n0 /\ r.length = d.length from ⟨b1, b2, b3⟩)]
    ·rw [decide_eq_false (show ¬ (r.length : Int) = (d.length : Int) by omega), decide_eq_false (show ¬ (¬ d.length = 0 /\ d.length = n0 /\ r.length = d.length) from fun h => b3 h.2.2)]
   rw [e3, qa];unfold qzS at hnext;by_cases b : ¬ d.length = 0 /\ d.length = n0 /\ r.length = d.length
   case neg =>
    rw [decide_eq_false b, Bool.not_false, cond_true, q8];rw [if_neg b] at hnext;show (10 : Int) = _;rw [qjD (i := i + 1) (by omega) (by omega), hnext]
   rw [decide_eq_true b, Bool.not_true, cond_false];rw [if_pos b] at hnext;by_cases b4 : 3 < d.length
   ·rw [decide_eq_true (show (d.length : Int) > 3 by omega), cond_true, q8];rw [if_pos b4] at hnext;show (8 : Int) = _;rw [qjD (i := i + 1) (by omega) (by omega), hnext]
   rw [decide_eq_false (show ¬ (d.length : Int) > 3 by omega), cond_false];rw [if_neg b4] at hnext;rw [qyi b.2.2 hdl 2 (fun _ => some (.inl (w64 ((i : Int) + 1))))];by_cases b5 : (d.any (qin 9) || r.any (qin 9)) = true
   ·rw [if_pos b5, q8];rw [if_pos b5] at hnext;show (2 : Int) = _;rw [qjD (i := i + 1) (by omega) (by omega), hnext]
   ·rw [if_neg b5, wid (by omega) (by omega), qae];rw [if_neg b5] at hnext;exact ⟨hlt, by simp, hnext⟩
  ·have : i = ρ.1.length := by omega
   subst this;have e2 : decide ((ρ.1.length : Int) < (ρ.1.length : Int)) = false := by simp
   simp only [e2, cond_false];rw [q8];exact hz
 ·rintro (_ | e) hq
  ·exact qR.2 hq.symm
  ·exact hq
end Go.Proofs.YtbcdgfgacigaoaaGreat.Mat
end
section
namespace Go.Proofs.YtbcdgfgacigaoaaGreat.Mat
open Go Go.Ab Go.Tx Go.Proofs.YtbcdgfgacigaoaaGreat
abbrev Rg := Mx × Mx × Int × Int × Int × Unit
theorem qAO (a b c d : Int) : qO [a, b, c, d] = some (if a = 0 then if b = 0 then if c = 0 then d else c else b else a) := by
 rw [qtI _ (by simp)];by_cases h : a = 0 <;> by_cases h2 : b = 0 <;> by_cases h3 : c = 0 <;> by_cases h4 : d = 0 <;> simp [qyv, h, h2, h3, h4]
def low (num den : Int) : Prop := 0 < den /\ Int.gcd num den = 1
instance (num den : Int) : Decidable (low num den) := inferInstanceAs (Decidable (_ /\ _))
def qBP (r : Rg) (i k : Nat) : G := qjo (qxP (r.2.2.2.1 * qBR r.2.1) i k) (qK (qe1 r.2.1.length (ent r.1) (qBK r.2.1) i k) (r.2.2.1, 0, ()))
def qBN (r : Rg) : Int := qBW r.2.1.length r.2.1.length (qBP r)
def qBO (r : Rg) : Int := r.2.2.2.1 * qBR r.2.1
structure ConB (r : Rg) : Prop where
 pB : BdF 73728000000 r.2.1.length r.2.1.length (qe1 r.2.1.length (ent r.1) (qBK r.2.1))
 sB : BdF 14745600000000 r.2.1.length r.2.1.length (fun i k => qK (qe1 r.2.1.length (ent r.1) (qBK r.2.1) i k) (r.2.2.1, 0, ()))
 qB : 1 <= qBO r /\ qBO r <= 7372800000000
 cB : BdF 22118400000000 r.2.1.length r.2.1.length (qBP r)
 rB : 0 <= qBN r /\ qBN r <= 132710400000000
 n1 : 1 <= r.2.1.length
 n3 : r.2.1.length <= 3
def qAL (c : G) : Prop := (-1000000000 <= c.1 /\ c.1 <= 1000000000) /\ c.2.1 <= 1000000000
instance (c : G) : Decidable (qAL c) := inferInstanceAs (Decidable (_ /\ _))
end Go.Proofs.YtbcdgfgacigaoaaGreat.Mat
namespace Go.Proofs.YtbcdgfgacigaoaaGreat
open Go Go.Ab Go.Tx
end Go.Proofs.YtbcdgfgacigaoaaGreat
end
section
namespace Go.Proofs.YtbcdgfgacigaoaaGreat.Mat
open Go Go.Ab Go.Tx Go.Proofs.YtbcdgfgacigaoaaGreat
theorem qBX {l : List G} (hl : l.length <= 1000000000) :
  ((qp (fun (s2 : Int) =>
   bif decide (s2 < (l.length : Int)) then
    (idx l s2).bind fun x3 =>
    (qE x3).bind fun x4 =>
    bif x4 then
     some (.inr (.inr s2))
    else
     some (.inl (w64 (s2 + 1)))
   else
    some (.inr (.inl ()))) 0).bind (Sum.elim (fun (p5 : Unit) =>
  some (-1)) some)).bind (fun x1 : Int => some (decide (x1 >= 0))) = some (l.any (qin 9)) :=
 qz0 l qE (qin 9) (fun x _ => by
  unfold qE;rw [qgL _ _ (by omega) (by omega)]; rfl) hl
theorem qBV : ((qp (fun (s15 : Int) =>
   bif decide (s15 < 0) then
    none
   else
    some (.inr (.inl ()))) 0 : Option (Unit ⊕ Int)).bind (Sum.elim (fun (p16 : Unit) =>
  some (-1)) some)).bind (fun p17 : Int => some (decide (p17 >= 0))) = some false := by
 rw [qeP (r := .inl ()) (by rfl)];rfl
set_option maxHeartbeats 4000000 in
theorem qAS {d r : List G} (hd : d.length <= 1000000) (hr : r.length <= 1000000) :
  (bif decide (w64 (0 + (d.length : Int)) < 0) then
    none
   else
    bif decide (w64 ((w64 (0 + (d.length : Int))) + (r.length : Int)) < 0) then
     none
    else
     bif decide (w64 ((w64 (0 + (d.length : Int))) + (r.length : Int)) < 0) then
      none
     else
      let v13 : Bool := decide (w64 ((w64 ((w64 (0 + (d.length : Int))) + (r.length : Int))) - 0) > 0)
      bif v13 then
       bif (decide (0 < w64 ((w64 ((w64 (0 + (d.length : Int))) + (r.length : Int))) - 0)) && decide (w64 ((w64 ((w64 (0 + (d.length : Int))) + (r.length : Int))) - 0) <= 4294967296)) then
        bif List.isEmpty d then
         bif List.isEmpty r then
          ((qp (fun (s15 : Int) =>
             bif decide (s15 < 0) then
              none
             else
              some (.inr (.inl ()))) 0).bind (Sum.elim (fun (p16 : Unit) =>
           some (-1)) some)).bind fun (p17 : Int) =>
          some (decide (p17 >= 0))
         else
          (app [] r).bind fun x18 =>
          ((qp (fun (s20 : Int) =>
             bif decide (s20 < (x18.length : Int)) then
              (idx x18 s20).bind fun x21 =>
              (qE x21).bind fun x22 =>
              bif x22 then
               some (.inr (.inr s20))
              else
               some (.inl (w64 (s20 + 1)))
             else
              some (.inr (.inl ()))) 0).bind (Sum.elim (fun (p23 : Unit) =>
           some (-1)) some)).bind fun (p24 : Int) =>
          some (decide (p24 >= 0))
        else
         (app [] d).bind fun x25 =>
         (app x25 r).bind fun x26 =>
         ((qp (fun (s28 : Int) =>
            bif decide (s28 < (x26.length : Int)) then
             (idx x26 s28).bind fun x29 =>
             (qE x29).bind fun x30 =>
             bif x30 then
              some (.inr (.inr s28))
             else
              some (.inl (w64 (s28 + 1)))
            else
             some (.inr (.inl ()))) 0).bind (Sum.elim (fun (p31 : Unit) =>
          some (-1)) some)).bind fun (p32 : Int) =>
         some (decide (p32 >= 0))
       else
        none
      else
       bif List.isEmpty d then
        bif List.isEmpty r then
         ((qp (fun (s34 : Int) =>
            bif decide (s34 < 0) then
             none
            else
             some (.inr (.inl ()))) 0).bind (Sum.elim (fun (p35 : Unit) =>
          some (-1)) some)).bind fun (p36 : Int) =>
         some (decide (p36 >= 0))
        else
         (app [] r).bind fun x37 =>
         ((qp (fun (s39 : Int) =>
            bif decide (s39 < (x37.length : Int)) then
             (idx x37 s39).bind fun x40 =>
             (qE x40).bind fun x41 =>
             bif x41 then
              some (.inr (.inr s39))
             else
              some (.inl (w64 (s39 + 1)))
            else
             some (.inr (.inl ()))) 0).bind (Sum.elim (fun (p42 : Unit) =>
          some (-1)) some)).bind fun (p43 : Int) =>
         some (decide (p43 >= 0))
       else
        (app [] d).bind fun x44 =>
        (app x44 r).bind fun x45 =>
        ((qp (fun (s47 : Int) =>
           bif decide (s47 < (x45.length : Int)) then
            (idx x45 s47).bind fun x48 =>
            (qE x48).bind fun x49 =>
            bif x49 then
             some (.inr (.inr s47))
            else
             some (.inl (w64 (s47 + 1)))
           else
            some (.inr (.inl ()))) 0).bind (Sum.elim (fun (p50 : Unit) =>
         some (-1)) some)).bind fun (p51 : Int) =>
        some (decide (p51 >= 0))) = some (d.any (qin 9) || r.any (qin 9)) := by
 have w1 : w64 (0 + (d.length : Int)) = (d.length : Int) := by rw [Int.zero_add, wid (by omega) (by omega)]
 have w2 : w64 ((d.length : Int) + (r.length : Int)) = (d.length : Int) + (r.length : Int) := wid (by omega) (by omega);have w3 : w64 ((d.length : Int) + (r.length : Int) - 0) = (d.length : Int) + (r.length : Int) := by rw [Int.sub_zero]; exact w2
 simp only [w1, w2, w3];rw [decide_eq_false (show ¬ (d.length : Int) < 0 by omega), cond_false, decide_eq_false (show ¬ (d.length : Int) + (r.length : Int) < 0 by omega), cond_false, cond_false];have hA : ∀ l : List G, l.length <= 1000000000 -> _ := fun l hl => qBX (l := l) hl;cases d with
 | nil =>
  cases r with
  | nil =>
   simp only [List.length_nil, List.isEmpty_nil];rw [decide_eq_false (show ¬ (((0 : Nat) : Int) + ((0 : Nat) : Int) > 0) by omega)];simp only [cond_false, cond_true];rw [qBV]; rfl
  | cons z r =>
   have hp : decide ((([] : List G).length : Int) + ((z :: r).length : Int) > 0) = true := decide_eq_true (by simp only [List.length_nil, List.length_cons]; omega);have hp1 : decide (0 < (([] : List G).length : Int) + ((z :: r).length : Int)) = true := decide_eq_true (by simp only [List.length_nil, List.length_cons]; omega);have hp2 : decide ((([] : List G).length : Int) + ((z :: r).length : Int) <= 4294967296) = true := decide_eq_true (by simp only [List.length_nil]; omega);simp only [hp, hp1, hp2, Bool.and_true, cond_true, List.isEmpty_nil, List.isEmpty_cons, cond_false];rw [qsx (by omega), qa, hA _ (by omega)];rfl
 | cons y d =>
  have hp : decide (((y :: d).length : Int) + (r.length : Int) > 0) = true := decide_eq_true (by simp only [List.length_cons]; omega);have hp1 : decide (0 < ((y :: d).length : Int) + (r.length : Int)) = true := decide_eq_true (by simp only [List.length_cons]; omega);have hp2 : decide (((y :: d).length : Int) + (r.length : Int) <= 4294967296) = true := decide_eq_true (by omega);simp only [hp, hp1, hp2, Bool.and_true, cond_true, List.isEmpty_cons, cond_false];rw [qsx (by omega), qa, quh (by omega), qa, hA _ (by rw [List.length_append]; omega), List.any_append]
structure MatB (a : Mx) (N n : Nat) : Prop where
 len : a.length = N
 rows : ∀ j, j < N -> (a.getD j []).length = n
 bd : ∀ j i, j < N -> i < n -> Bd 9 (ent a j i)
theorem RunB.d {ρ : Rn} {n : Nat} (h : RunB ρ n) : MatB ρ.1 ρ.1.length n := ⟨rfl, h.dl, h.dB⟩
theorem RunB.r {ρ : Rn} {n : Nat} (h : RunB ρ n) : MatB ρ.2.1 ρ.1.length n := ⟨h.len, h.rl, h.rB⟩
def qg6 (a b : Mx) (N : Nat) (i k : Nat) : G := qn0 N fun j => qK (ent a j i) (qag (ent b j k))
theorem MatB.at {a : Mx} {N n j i : Nat} (h : MatB a N n) (hj : j < N) (hi : i < n) : ∃ row, idx a (j : Int) = some row /\ idx row (i : Int) = some (ent a j i) := by
 have hl := h.len;have hr := h.rows j hj;exact ⟨a.getD j [], by rw [qb7 [] (by omega) (by omega), Int.toNat_natCast], by rw [qb7 g0 (by omega) (by omega), Int.toNat_natCast]; rfl⟩
theorem qlZ {a b : Mx} {N n i k : Nat} (ha : MatB a N n) (hb : MatB b N n) (hN : N <= 6) (hi : i < n) (hk : k < n) : Bd 972 (qg6 a b N i k) := by
 have h := Bd.sum (n := N) (f := fun j => qK (ent a j i) (qag (ent b j k))) (B := 2 * (9 * 9)) fun j hj => (ha.bd j i hj hi).mul (hb.bd j k hj hk).qzf;exact h.mono (by omega)
theorem qtM {a : Mx} {ρ : Rn} {n i k : Nat} (ha : MatB a ρ.1.length n) (hb : MatB ρ.1 ρ.1.length n) (hN : ρ.1.length <= 6) (hi : i < n) (hk : k < n) : qaS (i : Int) (k : Int) ρ a = some (qg6 a ρ.1 ρ.1.length i k) := by
 unfold qaS;have hf : ∀ j, j < ρ.1.length -> Bd 162 (qK (ent a j i) (qag (ent ρ.1 j k))) := fun j hj => ((ha.bd j i hj hi).mul (hb.bd j k hj hk).qzf).mono (by omega);rw [qhL ρ.1.length (by omega) (A := 162) (by omega) (by omega) (fun j => qK (ent a j i) (qag (ent ρ.1 j k))) hf (fun j hj x y hxy => ?_) (fun x y => ?_)]
 ·rfl
 ·have e0 : decide ((j : Int) < (ρ.1.length : Int)) = true := decide_eq_true (by omega);obtain ⟨r1, h1, h2⟩ := ha.at hj hi;obtain ⟨r2, h3, h4⟩ := hb.at hj hk;simp only [e0, cond_true, h1, h2, h3, h4, qa];rw [qsw (hb.bd j k hj hk) (by omega), qa, qfX (ha.bd j i hj hi) (hb.bd j k hj hk).qzf (by omega), qa, qp3 hxy (hf j hj) (le_next (by omega) hj (by omega))];rfl
 ·have e0 : decide ((ρ.1.length : Int) < (ρ.1.length : Int)) = false := by simp
  simp only [e0, cond_false]
theorem qxE {n c : Nat} (hn : n <= 1000) (hc : c <= 1000) (ρ : Rn) (a : Mx) (f : Nat -> Nat -> G) (h : ∀ i k : Nat, i < n -> k < c -> qaS i k ρ a = some (f i k)) : q9 (n : Int) (c : Int) ρ a = some (mx n c f) := by
 unfold q9;exact qhz n c hn hc (fun i k => qaS i k ρ a) f h
theorem qxX {ρ : Rn} {n : Nat} (h : RunB ρ n) : qd6 ρ (n : Int) = some (mx n n (qg6 ρ.1 ρ.1 ρ.1.length), mx n n (qg6 ρ.2.1 ρ.1 ρ.1.length), ()) := by
 have h3 := h.n3;have h6 := h.l6;unfold qd6 qdQ;have e1 := qxE (n := n) (c := n) (by omega) (by omega) (ρ.1, ρ.2.1, ()) ρ.1 (qg6 ρ.1 ρ.1 ρ.1.length) fun i k hi hk => qtM (ρ := (ρ.1, ρ.2.1, ())) h.d h.d h6 hi hk;have e2 := qxE (n := n) (c := n) (by omega) (by omega) (ρ.1, ρ.2.1, ()) ρ.2.1 (qg6 ρ.2.1 ρ.1 ρ.1.length) fun i k hi hk => qtM (ρ := (ρ.1, ρ.2.1, ())) h.r h.d h6 hi hk;rw [e1, qa, qa, e2];rfl
theorem qf5 {a b : Mx} {N n : Nat} (ha : MatB a N n) (hb : MatB b N n) (hN1 : 1 <= N) (hN : N <= 6) (hn : n <= 3) : qX a b = some (mx n n (qg6 a b N)) := by
 unfold qX;have hla := ha.len;have hlb := hb.len;have ra := ha.rows 0 (by omega);have rb := hb.rows 0 (by omega);have z1 : idx a 0 = some (a.getD 0 []) := by rw [qb7 [] (by omega) (by omega)]; rfl
 have z2 : idx b 0 = some (b.getD 0 []) := by rw [qb7 [] (by omega) (by omega)]; rfl
 rw [qiE n (fun i => mkL n fun k => qg6 a b N i k) (fun i hi => ?_) ?_]
 ·rfl
 ·have e0 : decide ((n : Int) < (n : Int)) = false := by simp
  simp only [z1, qa, ra, e0, cond_false]
 ·have e0 : decide ((i : Int) < (n : Int)) = true := decide_eq_true (by omega);simp only [z1, qa, ra, e0, cond_true];rw [qiE n (fun k => qg6 a b N i k) (fun k hk => ?_) ?_]
  ·simp only [qa];rw [qbd (by rw [qv]; omega)];simp only [qa];rw [wid (by omega) (by omega)]
  ·have e1 : decide ((n : Int) < (n : Int)) = false := by simp
   simp only [z2, qa, rb, e1, cond_false]
  ·have e1 : decide ((k : Int) < (n : Int)) = true := decide_eq_true (by omega);simp only [z2, qa, rb, e1, cond_true, hla];have hf : ∀ j, j < N -> Bd 162 (qK (ent a j i) (qag (ent b j k))) := fun j hj => ((ha.bd j i hj hi).mul (hb.bd j k hj hk).qzf).mono (by omega);rw [qhL N (by omega) (A := 162) (by omega) (by omega) (fun j => qK (ent a j i) (qag (ent b j k))) hf (fun j hj x y hxy => ?_) (fun x y => ?_)]
   ·simp only [qa];rw [qbd (by rw [qv]; omega)];simp only [qa];rw [wid (by omega) (by omega)];rfl
   ·have e2 : decide ((j : Int) < (N : Int)) = true := decide_eq_true (by omega);obtain ⟨r1, h1, h2⟩ := ha.at hj hi;obtain ⟨r2, h3, h4⟩ := hb.at hj hk;simp only [e2, cond_true, h1, h2, h3, h4, qa];rw [qzj (hb.bd j k hj hk) (by omega), qa, qqH (ha.bd j i hj hi) (hb.bd j k hj hk).qzf (by omega), qa, qtc hxy (hf j hj) (le_next (by omega) hj (by omega))];rfl
   ·have e2 : decide ((N : Int) < (N : Int)) = false := by simp
    simp only [e2, cond_false]
def sF (ρ : Rn) : Nat -> Nat -> G := qg6 ρ.1 ρ.1 ρ.1.length
def tF (ρ : Rn) : Nat -> Nat -> G := qg6 ρ.2.1 ρ.1 ρ.1.length
def rnN (ρ : Rn) : Nat := (ρ.1.getD 0 []).length
def sD (ρ : Rn) : G := qfK (rnN ρ) (sF ρ)
theorem qys : ∀ n, n <= 3 -> dB 972 n <= 9000000000000000000 := fun n hn => by
 match n, hn with
 | 0, _ => decide
 | 1, _ => decide
 | 2, _ => decide
 | 3, _ => decide
theorem qzM {f : Nat -> G} : ∀ {N : Nat}, (∀ j, j < N -> Bd 9 (f j)) -> grn N f <= N * 162
 | 0, _ => by simp [grn]
 | N + 1, h => by
  have h1 := qzM (N := N) fun j hj => h j (by omega);have h2 := h N (by omega);have p1 := (qbE h2.1 h2.1).2;have p2 := (qbE h2.2 h2.2).2;simp only [grn, nrm];omega
theorem qAk {ρ : Rn} (h : qoc ρ = 0) : ∃ w : Int, sD ρ = (w, 0, ()) /\ 0 <= w /\ w <= 918330048 := by
 have hB := qBm h;have h6 := hB.l6;obtain ⟨w, e, h0, h1⟩ := qy4 (N := ρ.1.length) (n := rnN ρ) hB.n3 (v := ent ρ.1) (B := 972) (by omega) fun i hi => by
  have := qzM (N := ρ.1.length) (f := fun j => ent ρ.1 j i) fun j hj => hB.dB j i hj hi;omega
 exact ⟨w, e, h0, by omega⟩
def qkD (ρ : Rn) : Int := if qoc ρ ≠ 0 then qoc ρ else if sD ρ = g0 then 11 else 0
end Go.Proofs.YtbcdgfgacigaoaaGreat.Mat
end
section
namespace Go.Proofs.YtbcdgfgacigaoaaGreat.Mat
open Go Go.Ab Go.Tx Go.Proofs.YtbcdgfgacigaoaaGreat
theorem qpo (a : G) : (bif decide (a.1 = 0) then (bif decide (a.2.1 = 0) then true else false) else false) = decide (a = g0) := qtn a g0
theorem qAf (s : Int) (n0 : Nat) (d r : List G) :
  (bif decide ((d.length : Int) > 0) then
   bif decide ((d.length : Int) = (n0 : Int)) then
    (ql (decide ((r.length : Int) = (n0 : Int))) (10 : Int)).bind fun x53 =>
    (ql (decide ((d.length : Int) <= 3)) (8 : Int)).bind fun x54 =>
    (ql (!(d.any (qin 9) || r.any (qin 9))) (2 : Int)).bind fun x55 =>
    (qO ([s, x53, x54, x55])).bind fun x56 =>
    some x56
   else
    (ql false (10 : Int)).bind fun x57 =>
    (ql (decide ((d.length : Int) <= 3)) (8 : Int)).bind fun x58 =>
    (ql (!(d.any (qin 9) || r.any (qin 9))) (2 : Int)).bind fun x59 =>
    (qO ([s, x57, x58, x59])).bind fun x60 =>
    some x60
  else
   (ql false (10 : Int)).bind fun x61 =>
   (ql (decide ((d.length : Int) <= 3)) (8 : Int)).bind fun x62 =>
   (ql (!(d.any (qin 9) || r.any (qin 9))) (2 : Int)).bind fun x63 =>
   (qO ([s, x61, x62, x63])).bind fun x64 =>
   some x64) = some (if s = 0 then qzS n0 d r else s) := by
 simp only [qjz, qa, qAO];unfold qzS;generalize (d.any (qin 9) || r.any (qin 9)) = far;by_cases b1 : d.length = 0
 ·rw [decide_eq_false (show ¬ (d.length : Int) > 0 by omega), cond_false, if_neg (show ¬ (¬ d.length = 0 /\ d.length = n0 /\ r.length = d.length) from fun h => h.1 b1)];simp
 rw [decide_eq_true (show (d.length : Int) > 0 by omega), cond_true];by_cases b2 : d.length = n0
 case neg =>
  rw [decide_eq_false (show ¬ (d.length : Int) = (n0 : Int) by omega), cond_false, if_neg (show ¬ (¬ d.length = 0 /\ d.length = n0 /\ r.length = d.length) from fun h => b2 h.2.1)];simp
 rw [decide_eq_true (show (d.length : Int) = (n0 : Int) by omega), cond_true];by_cases b3 : r.length = d.length
 case neg =>
  rw [decide_eq_false (show ¬ (r.length : Int) = (n0 : Int) by omega), if_neg (show ¬ (¬ d.length = 0 /\ d.length = n0 /\ r.length = d.length) from fun h => b3 h.2.2)];simp
 rw [decide_eq_true (show (r.length : Int) = (n0 : Int) by omega), if_pos (show ¬ d.length = 0 /\ d.length = n0 /\ r.length = d.length from ⟨b1, b2, b3⟩), if_pos rfl, if_pos rfl];by_cases b4 : 3 < d.length
 ·rw [decide_eq_false (show ¬ (d.length : Int) <= 3 by omega), if_pos b4];simp
 ·rw [decide_eq_true (show (d.length : Int) <= 3 by omega), if_neg b4];cases far <;> simp
theorem qn5 {ρ : Rn} (h1 : ρ.1.length <= 1000000) (hr : ∀ d ∈ ρ.1, d.length <= 1000000) (hr2 : ∀ r ∈ ρ.2.1, r.length <= 1000000) :
  ∃ y : Rn × G, qcn ρ = some (y.1, y.2, qkD ρ) /\ (qkD ρ = 0 -> y = ((mx (rnN ρ) (rnN ρ) (sF ρ), mx (rnN ρ) (rnN ρ) (tF ρ), ()), sD ρ)) := by
 unfold qcn;have e1 : (bif decide ((ρ.1.length : Int) > 0) then
   (ql (decide ((ρ.2.1.length : Int) = (ρ.1.length : Int))) (10 : Int)).bind fun x1 =>
   (ql (decide ((ρ.1.length : Int) <= 6)) (8 : Int)).bind fun x2 =>
   (qO ([x1, x2])).bind fun x3 =>
   some x3
  else
   (ql false (10 : Int)).bind fun x4 =>
   (ql (decide ((ρ.1.length : Int) <= 6)) (8 : Int)).bind fun x5 =>
   (qO ([x4, x5])).bind fun x6 =>
   some x6) = some (if ρ.1.length = 0 \/ ¬ ρ.2.1.length = ρ.1.length then 10 else if 6 < ρ.1.length then 8 else 0) := by
  simp only [qjz, qa, qxv];by_cases c1 : ρ.1.length = 0
  ·rw [decide_eq_false (show ¬ (ρ.1.length : Int) > 0 by omega), cond_false, if_pos (.inl c1 : ρ.1.length = 0 \/ ¬ ρ.2.1.length = ρ.1.length)];simp
  rw [decide_eq_true (show (ρ.1.length : Int) > 0 by omega), cond_true];by_cases c2 : ρ.2.1.length = ρ.1.length
  case neg =>
   rw [decide_eq_false (show ¬ (ρ.2.1.length : Int) = (ρ.1.length : Int) by omega), if_pos (.inr c2 : ρ.1.length = 0 \/ ¬ ρ.2.1.length = ρ.1.length)];simp
  rw [decide_eq_true (show (ρ.2.1.length : Int) = (ρ.1.length : Int) by omega), if_neg (show ¬ (ρ.1.length = 0 \/ ¬ ρ.2.1.length = ρ.1.length) by omega)];by_cases c3 : 6 < ρ.1.length
  ·rw [decide_eq_false (show ¬ (ρ.1.length : Int) <= 6 by omega), if_pos c3]; simp
  ·rw [decide_eq_true (show (ρ.1.length : Int) <= 6 by omega), if_neg c3]; simp
 rw [e1, qa];by_cases c : ρ.1.length = 0 \/ ¬ ρ.2.1.length = ρ.1.length
 ·have hE : qoc ρ = 10 := by unfold qoc; rw [if_pos c]
  have hE2 : qkD ρ = 10 := by unfold qkD; rw [hE]; rfl
  rw [if_pos c, decide_eq_false (show ¬ (10 : Int) = 0 by omega), Bool.not_false, cond_true, hE2];exact ⟨(([], [], ()), (0, 0, ())), rfl, fun h => by cases h⟩
 rw [if_neg c];by_cases c2 : 6 < ρ.1.length
 ·have hE : qoc ρ = 8 := by unfold qoc; rw [if_neg c, if_pos c2]
  have hE2 : qkD ρ = 8 := by unfold qkD; rw [hE]; rfl
  rw [if_pos c2, decide_eq_false (show ¬ (8 : Int) = 0 by omega), Bool.not_false, cond_true, hE2];exact ⟨(([], [], ()), (0, 0, ())), rfl, fun h => by cases h⟩
 rw [if_neg c2, decide_eq_true (show (0 : Int) = 0 from rfl), Bool.not_true, cond_false];have hE : qoc ρ = qlJ ρ ρ.1.length := by unfold qoc; rw [if_neg c, if_neg c2]
 have f3 : idx ρ.1 0 = some (ρ.1.getD 0 []) := by rw [qb7 [] (by omega) (by omega)]; rfl
 rw [f3, qa];have hloop : ∀ K : Int × Int -> Option ((Int × Int) ⊕ Int), (∀ i : Nat, i < ρ.1.length -> K (qlJ ρ i, (i : Int)) = some (.inl (qlJ ρ (i + 1), w64 ((i : Int) + 1)))) -> K (qlJ ρ ρ.1.length, (ρ.1.length : Int)) = some (.inr (qlJ ρ ρ.1.length)) -> qp K (0, 0) = some (qlJ ρ ρ.1.length) := fun K hK hKe => by
  refine Ok.eq (qav ρ.1.length (fun i (s : Int × Int) => s = (qlJ ρ i, (i : Int))) (fun q => q = qlJ ρ ρ.1.length) rfl ?_);rintro i s hi rfl;by_cases hlt : i < ρ.1.length
  ·rw [hK i hlt, wid (by omega) (by omega), qae];exact ⟨hlt, rfl⟩
  ·have : i = ρ.1.length := by omega
   subst this;rw [hKe, q8]
 rw [hloop _ (fun i hi => ?_) ?_]
 ·rw [qa, <- hE];by_cases cE : qoc ρ = 0
  case neg =>
   have hE2 : qkD ρ = qoc ρ := by unfold qkD; rw [if_pos cE]
   rw [decide_eq_false cE, Bool.not_false, cond_true, hE2];exact ⟨(([], [], ()), (0, 0, ())), rfl, fun h => absurd h cE⟩
  rw [decide_eq_true cE, Bool.not_true, cond_false];have hB := qBm cE;have es : qd6 (ρ.1, ρ.2.1, ()) ((ρ.1.getD 0 []).length : Int) = some (mx (rnN ρ) (rnN ρ) (sF ρ), mx (rnN ρ) (rnN ρ) (tF ρ), ()) := qxX hB;have hS : BdF 972 (rnN ρ) (rnN ρ) (sF ρ) := fun i k hi hk => qlZ hB.d hB.d hB.l6 hi hk;have ed : qS (mx (rnN ρ) (rnN ρ) (sF ρ)) = some (sD ρ) := qA9 (B := 972) (by omega) (by have := hB.n3; unfold rnN; omega) hS (qys _ hB.n3);rw [es, qa];dsimp only;rw [ed, qa];try dsimp only
  rw [qpo, qjz, qa];have hE2 : qkD ρ = if (!(decide (sD ρ = g0))) = true then 0 else 11 := by
   unfold qkD;rw [if_neg (show ¬ (qoc ρ ≠ 0) from fun hh => hh cE)];by_cases cz : sD ρ = g0
   ·rw [if_pos cz, decide_eq_true cz]; rfl
   ·rw [if_neg cz, decide_eq_false cz]; rfl
  rw [<- hE2];exact ⟨((mx (rnN ρ) (rnN ρ) (sF ρ), mx (rnN ρ) (rnN ρ) (tF ρ), ()), sD ρ), rfl, fun _ => rfl⟩
 ·have e2 : decide ((ρ.1.length : Int) < (ρ.1.length : Int)) = false := by simp
  simp only [e2, cond_false]
 ·have e2 : decide ((i : Int) < (ρ.1.length : Int)) = true := decide_eq_true (by omega);have f1 : idx ρ.1 (i : Int) = some (ρ.1.getD i []) := by rw [qb7 [] (by omega) (by omega), Int.toNat_natCast]
  have f2 : idx ρ.2.1 (i : Int) = some (ρ.2.1.getD i []) := by rw [qb7 [] (by omega) (by omega), Int.toNat_natCast]
  have g1 := hr (ρ.1.getD i []) (qaD hi);have g2 := hr2 (ρ.2.1.getD i []) (qaD (by omega));show (bif decide ((i : Int) < (ρ.1.length : Int)) then (idx ρ.1 (i : Int)).bind _ else _) = _;rw [e2, cond_true, f1, qa, f2, qa, qAS g1 g2, qa, qAf, qa];simp only [qlJ]
theorem qiu {ρ : Rn} (h1 : ρ.1.length <= 1000000) (hr : ∀ d ∈ ρ.1, d.length <= 1000000) : qba ρ = some (qkD ρ) := by
 unfold qba;have e1 : qdh (ρ.1, ρ.2.1, ()) = some (qoc ρ) := quL (ρ := ρ) (by omega) (fun d hd => by have := hr d hd; omega);rw [e1, qa];unfold qkD;by_cases cE : qoc ρ = 0
 case neg => rw [decide_eq_false cE, Bool.not_false, cond_true, if_pos cE]
 rw [decide_eq_true cE, Bool.not_true, cond_false, if_neg (show ¬ (qoc ρ ≠ 0) from fun hh => hh cE)];have hB := qBm cE;have hS : BdF 972 (rnN ρ) (rnN ρ) (sF ρ) := fun i k hi hk => qlZ hB.d hB.d hB.l6 hi hk;have es : qX ρ.1 ρ.1 = some (mx (rnN ρ) (rnN ρ) (sF ρ)) := qf5 hB.d hB.d hB.l1 hB.l6 hB.n3;have ed : qat (mx (rnN ρ) (rnN ρ) (sF ρ)) = some (sD ρ) := qqr (B := 972) (by omega) (by have := hB.n3; unfold rnN; omega) hS (qys _ hB.n3);rw [es, qa, ed, qa];dsimp only;rw [qpo];by_cases cz : sD ρ = g0
 ·rw [if_pos cz, decide_eq_true cz]; rfl
 ·rw [if_neg cz, decide_eq_false cz]; rfl
end Go.Proofs.YtbcdgfgacigaoaaGreat.Mat
end
section
namespace Go.Proofs.YtbcdgfgacigaoaaGreat.Mat
open Go Go.Ab Go.Tx Go.Proofs.YtbcdgfgacigaoaaGreat
theorem qsH {n : Nat} {f : Nat -> Nat -> G} {B M : Int} (hn : n <= 5) (hB : 1 <= B) (hf : BdF B (n + 1) (n + 1) f) (hc : dB B n <= 9000000000000000000) (hM : ∀ i k, i < n + 1 -> k < n + 1 -> Bd M (qAc n f i k)) (M0 : M <= 9000000000000000000) :
  qdW (mx (n + 1) (n + 1) f) = some (mx (n + 1) (n + 1) (qsi n f)) := by
 unfold qdW;rw [qaX];rw [qiE (n + 1) (fun i => mkL (n + 1) fun k => qsi n f i k) (fun i hi => ?_) ?_]
 ·rfl
 ·have e0 : decide (((n + 1 : Nat) : Int) < ((n + 1 : Nat) : Int)) = false := by simp
  simp only [e0, cond_false]
 ·have e0 : decide ((i : Int) < ((n + 1 : Nat) : Int)) = true := decide_eq_true (by omega);simp only [e0, cond_true];rw [qiE (n + 1) (fun k => qsi n f i k) (fun k hk => ?_) ?_]
  ·simp only [qa];rw [qbd (by rw [qv]; omega)];simp only [qa];rw [wid (by omega) (by omega)]
  ·have e1 : decide (((n + 1 : Nat) : Int) < ((n + 1 : Nat) : Int)) = false := by simp
   simp only [e1, cond_false]
  ·have e1 : decide ((k : Int) < ((n + 1 : Nat) : Int)) = true := decide_eq_true (by omega);simp only [e1, cond_true];rw [qoo (by omega) f hk hi];simp only [qa];rw [qqr hB (by omega) (qc8 hf) hc];simp only [qa];rw [wid (by omega) (by omega)];have e2 : ((i : Int) + (k : Int)) = ((i + k : Nat) : Int) := by omega
   rw [e2, qwm _ (by omega)];simp only [qa];have hb := hM i k hi hk;unfold qsi;unfold qAc at hb ⊢;by_cases hp : (i + k) % 2 = 1
   ·have e2 : decide ((((i + k) % 2 : Nat) : Int) = 1) = true := decide_eq_true (by omega);rw [e2, cond_true, if_pos hp, qyu hb M0];simp only [qa, qBe];rw [qbd (by rw [qv]; omega)];simp only [qa];rw [wid (by omega) (by omega)]
   ·have e2 : decide ((((i + k) % 2 : Nat) : Int) = 1) = false := decide_eq_false (by omega);rw [e2, cond_false, if_neg hp];simp only [qa, qBe];rw [qbd (by rw [qv]; omega)];simp only [qa];rw [wid (by omega) (by omega)]
theorem qrW {n c : Nat} {A B : Int} {f : Nat -> Nat -> G} {z : G} (hn : n <= 1000) (hc : c <= 1000) (hf : BdF A n c f) (hz : Bd B z) (hb : 2 * (A * B) <= 9000000000000000000) :
  qfv (mx n c f) z = some (mx n c fun i k => qK (f i k) z) := by
 unfold qfv;rw [qaX];rw [qiE n (fun i => mkL c fun k => qK (f i k) z) (fun i hi => ?_) ?_]
 ·rfl
 ·have e0 : decide ((n : Int) < (n : Int)) = false := by simp
  simp only [e0, cond_false]
 ·have e0 : decide ((i : Int) < (n : Int)) = true := decide_eq_true (by omega);simp only [e0, cond_true];rw [qiE c (fun k => qK (f i k) z) (fun k hk => ?_) ?_]
  ·simp only [qa];rw [qbd (by rw [qv]; omega)];simp only [qa];rw [wid (by omega) (by omega)]
  ·have e1 : decide ((c : Int) < (c : Int)) = false := by simp
   rw [qam (qgo _ hi)];simp only [qa, qv, e1, cond_false]
  ·have e1 : decide ((k : Int) < (c : Int)) = true := decide_eq_true (by omega);rw [qam (qgo _ hi)];simp only [qa, qv, e1, cond_true];rw [qam (qbH (fun k => f i k) hk)];simp only [qa];rw [qqH (hf i k hi hk) hz hb];simp only [qa];rw [qbd (by rw [qv]; omega)];simp only [qa];rw [wid (by omega) (by omega)]
theorem qfE {a s : Int} (hs : 0 < s) : (a * s).natAbs = s.natAbs * a.natAbs := by rw [Int.natAbs_mul, Nat.mul_comm]
theorem qzp {n c : Nat} {f : Nat -> Nat -> G} {a s : Int} (hs : 0 < s) : qg (a * s) (mx n c fun i k => qK (f i k) (s, 0, ())) = s.natAbs * qg a (mx n c f) := by
 have hd1 : ∀ x ∈ qdw (mx n c f), (x * s) ∈ qdw (mx n c fun i k => qK (f i k) (s, 0, ())) := fun x hx => by
  obtain ⟨i, k, hi, hk, h⟩ := qef.1 hx;refine qef.2 ⟨i, k, hi, hk, ?_⟩;rw [qnj];rcases h with h | h
  ·exact .inl (by rw [h])
  ·exact .inr (by rw [h])
 refine Nat.dvd_antisymm ?_ ?_
 ·unfold qg;refine qli ?_ fun x hx => ?_
  ·have := qcs (qdw (mx n c fun i k => qK (f i k) (s, 0, ()))) (a * s).natAbs
   rwa [qfE hs] at this ⊢
  ·have := Int.natAbs_dvd_natAbs.2 (qib (g := (a * s).natAbs) (hd1 x hx));rw [Int.natAbs_natCast, qfE hs (a := x)] at this;exact this
 ·unfold qg;refine qpR ?_ fun y hy => ?_
  ·rw [qfE hs];exact Nat.mul_dvd_mul_left _ (qcs _ _)
  ·obtain ⟨i, k, hi, hk, h⟩ := qef.1 hy;have e : ((s.natAbs * qgb a.natAbs (qdw (mx n c f)) : Nat) : Int) = s * ((qgb a.natAbs (qdw (mx n c f)) : Nat) : Int) := by
    rw [Int.natCast_mul]; congr 1; omega
   rw [e];rw [qnj] at h;simp only at h;rcases h with h | h
   ·rw [h, Int.mul_comm _ s];exact Int.mul_dvd_mul_left _ (qib (qef.2 ⟨i, k, hi, hk, .inl rfl⟩))
   ·rw [h, Int.mul_comm _ s];exact Int.mul_dvd_mul_left _ (qib (qef.2 ⟨i, k, hi, hk, .inr rfl⟩))
theorem qn2 {n c : Nat} {f : Nat -> Nat -> G} {a s : Int} (hs : 0 < s) : qiJ n c (fun i k => qK (f i k) (s, 0, ())) (a * s) = qiJ n c f a := by
 have e : ((qg (a * s) (mx n c fun i k => qK (f i k) (s, 0, ())) : Nat) : Int) = s * (qg a (mx n c f) : Int) := by
  rw [qzp hs, Int.natCast_mul]; congr 1; omega
 have ht : ∀ x : Int, (x * s).tdiv (s * (qg a (mx n c f) : Int)) = x.tdiv (qg a (mx n c f) : Int) := fun x => by
  rw [Int.mul_comm x s];exact Int.mul_tdiv_mul_of_pos _ _ hs
 unfold qiJ;rw [e, ht];have e2 : mx n c (qgE (s * (qg a (mx n c f) : Int)) fun i k => qK (f i k) (s, 0, ())) = mx n c (qgE (qg a (mx n c f)) f) := qqz fun i k _ _ => by
  unfold qgE;simp only [qnj, ht]
 rw [e2]
theorem qtC {n c : Nat} {f h : Nat -> Nat -> G} {a : Int} (e : ∀ i k, i < n -> k < c -> f i k = h i k) : qiJ n c f a = qiJ n c h a := by
 have e1 : mx n c f = mx n c h := qqz e;unfold qiJ;rw [e1];have e2 : mx n c (qgE (qg a (mx n c h)) f) = mx n c (qgE (qg a (mx n c h)) h) := qqz fun i k hi hk => by
  unfold qgE; rw [e i k hi hk]
 rw [e2]
theorem qvu {n c : Nat} {f h : Nat -> Nat -> G} {a e s t : Int} (hs : 0 < s) (ht : 0 < t) (hfh : ∀ i k, i < n -> k < c -> qK (f i k) (s, 0, ()) = qK (h i k) (t, 0, ())) (hae : a * s = e * t) : qiJ n c f a = qiJ n c h e := by
 rw [<- qn2 (f := f) (a := a) hs, <- qn2 (f := h) (a := e) ht, hae];exact qtC hfh
theorem qyf {n c : Nat} {f : Nat -> Nat -> G} {a : Int} {i k : Nat} (hi : i < n) (hk : k < c) : qK (qgE (qg a (mx n c f)) f i k) ((qg a (mx n c f) : Int), 0, ()) = f i k := by
 rw [qnj];exact qqR (Int.tdiv_mul_cancel (qib (qef.2 ⟨i, k, hi, hk, .inl rfl⟩))) (Int.tdiv_mul_cancel (qib (qef.2 ⟨i, k, hi, hk, .inr rfl⟩)))
theorem qyh {n c : Nat} {f : Nat -> Nat -> G} {a : Int} : a.tdiv (qg a (mx n c f) : Int) * (qg a (mx n c f) : Int) = a :=
 Int.tdiv_mul_cancel (Int.ofNat_dvd_left.2 (qcs (qdw (mx n c f)) a.natAbs))
structure EstB (ρ : Rn) (m : Nat) (w : Int) : Prop where
 run : RunB ρ (m + 1)
 len : rnN ρ = m + 1
 det : qfK (m + 1) (sF ρ) = (w, 0, ())
 w0 : 0 < w
 w1 : w <= 918330048
 sB : BdF 972 (m + 1) (m + 1) (sF ρ)
 tB : BdF 972 (m + 1) (m + 1) (tF ρ)
 inv : InvB m (sF ρ) (w, 0, ()) 972 3779136 918330048 1000000000000000000
theorem qBi {ρ : Rn} (h : qkD ρ = 0) : ∃ m w, EstB ρ m w /\ qoc ρ = 0 := by
 unfold qkD at h;by_cases cE : qoc ρ = 0
 case neg => rw [if_pos cE] at h; exact absurd h cE
 rw [if_neg (show ¬ (qoc ρ ≠ 0) from fun hh => hh cE)] at h;by_cases cz : sD ρ = g0
 ·rw [if_pos cz] at h; cases h
 have hB := qBm cE;obtain ⟨w, ew, w0, w1⟩ := qAk cE;have hn1 := hB.n1;have hn3 := hB.n3;obtain ⟨m, hm⟩ : ∃ m, rnN ρ = m + 1 := ⟨rnN ρ - 1, by unfold rnN; omega⟩
 have hB' : RunB ρ (m + 1) := by rw [<- hm]; exact hB
 have hm2 : m <= 2 := by unfold rnN at hm; omega
 have hw : 0 < w := by
  false_or_by_contra
  refine cz ?_;rw [ew, show w = 0 by omega]; rfl
 have sB : BdF 972 (m + 1) (m + 1) (sF ρ) := fun i k hi hk => qlZ hB'.d hB'.d hB'.l6 hi hk;have tB : BdF 972 (m + 1) (m + 1) (tF ρ) := fun i k hi hk => qlZ hB'.r hB'.d hB'.l6 hi hk;have ed : qfK (m + 1) (sF ρ) = (w, 0, ()) := by rw [<- hm]; exact ew
 have hdC : dC 972 m <= 3779136 := by
  match m, hm2 with
  | 0, _ => decide
  | 1, _ => decide
  | 2, _ => decide
 have ww : w * w <= 918330048 * 918330048 := Int.mul_le_mul w1 w1 (by omega) (by omega);refine ⟨m, w, ⟨hB', hm, ed, hw, w1, sB, tB, ⟨by omega, sB, qys m (by omega), fun i k hi hk => (qum (by omega) m _ (qc8 sB)).mono hdC, by unfold Bd; simp only; omega, by omega, by omega, by omega, by omega, by omega, ?_, fun hz => ?_⟩⟩, cE⟩
 ·unfold norm; simp only <;> omega
 ·have := congrArg (fun z : G => z.1) hz;simp only [g0] at this;omega
def qAB (ρ : Rn) (m : Nat) (w : Int) : Qt := qiJ (m + 1) (m + 1) (qe1 (m + 1) (tF ρ) (qsi m (sF ρ))) w
theorem qtu {ρ : Rn} {m : Nat} {w : Int} (h : EstB ρ m w) (hm : m <= 2) : BdF 30000000000 (m + 1) (m + 1) (qe1 (m + 1) (tF ρ) (qsi m (sF ρ))) := fun i k hi hk => by
 have h1 := Bd.sum (n := m + 1) (f := fun j => qK (tF ρ i j) (qsi m (sF ρ) j k)) (B := 2 * (972 * 3779136)) fun j hj => (h.tB i j hi hj).mul (h.inv.adj hj hk);refine h1.mono ?_;have : ((m + 1 : Nat) : Int) * (2 * (972 * 3779136)) <= 3 * (2 * (972 * 3779136)) := Int.mul_le_mul_of_nonneg_right (by omega) (by omega);omega
theorem qr2 {ρ : Rn} (h1 : ρ.1.length <= 1000000) (hr : ∀ d ∈ ρ.1, d.length <= 1000000) (hr2 : ∀ r ∈ ρ.2.1, r.length <= 1000000) :
  ∃ q : Qt, qdc ρ = some (q, qkD ρ) /\ (qkD ρ ≠ 0 -> q = (0, [], ())) /\ ∀ m w, EstB ρ m w -> qkD ρ = 0 -> q = qAB ρ m w := by
 obtain ⟨y, e1, e2⟩ := qn5 h1 hr hr2;unfold qdc;rw [e1, qa];try dsimp only
 by_cases c : qkD ρ = 0
 case neg =>
  rw [decide_eq_false c, Bool.not_false, cond_true];exact ⟨_, rfl, fun _ => rfl, fun m w _ hh => absurd hh c⟩
 rw [decide_eq_true c, Bool.not_true, cond_false, e2 c];obtain ⟨m, w, hE, hrun⟩ := qBi c;have hm2 : m <= 2 := by have := hE.run.n3; omega
 have ed : sD ρ = (w, 0, ()) := by unfold sD; rw [hE.len]; exact hE.det
 rw [hE.len, ed];dsimp only;rw [qu3 (by omega) hE.inv, qa]
 -- the inverse in lowest terms
 generalize hg : qg (norm ((w, 0, ()) : G)) (mx (m + 1) (m + 1) (qqT m (sF ρ) (w, 0, ()))) = g;have w0 := hE.w0;have hnorm : norm ((w, 0, ()) : G) = w * w := by unfold norm; simp
 have hwpos : 0 < w * w := Int.mul_pos w0 w0;have hconj : qag ((w, 0, ()) : G) = (w, 0, ()) := rfl;have hinv : ∀ i k, qqT m (sF ρ) (w, 0, ()) i k = qK (qsi m (sF ρ) i k) (w, 0, ()) := fun i k => by unfold qqT; rw [hconj]
 have hgpos : 0 < g := by rw [<- hg]; exact qxa (by rw [hnorm]; omega)
 have hwg : w <= (g : Int) := by
  have hd : w.natAbs ∣ g := by
   rw [<- hg];unfold qg;refine qpR ?_ fun x hx => ?_
   ·rw [hnorm, Int.natAbs_mul]; exact Nat.dvd_mul_left _ _
   ·obtain ⟨i, k, hi, hk, h⟩ := qef.1 hx;rw [hinv, qnj] at h;have e : ((w.natAbs : Nat) : Int) = w := by omega
    rw [e];rcases h with h | h <;> rw [h] <;> exact Int.dvd_mul_left _ _
  have := Nat.le_of_dvd hgpos hd;omega
 have hX : ∀ i k, i < m + 1 -> k < m + 1 -> qK (qgE (g : Int) (qqT m (sF ρ) (w, 0, ())) i k) ((g : Int), 0, ()) = qK (qsi m (sF ρ) i k) (w, 0, ()) := fun i k hi hk => by
  have := qyf (f := qqT m (sF ρ) (w, 0, ())) (a := norm ((w, 0, ()) : G)) hi hk;rw [hg] at this;rw [this, hinv]
 have hden : (norm ((w, 0, ()) : G)).tdiv (g : Int) * (g : Int) = w * w := by
  have := qyh (n := m + 1) (c := m + 1) (f := qqT m (sF ρ) (w, 0, ())) (a := norm ((w, 0, ()) : G));rw [hg] at this;rw [this, hnorm]
 have hsmall : ∀ {x a : Int}, x * (g : Int) = a * w -> -3779136 <= a /\ a <= 3779136 -> -3779136 <= x /\ x <= 3779136 := fun {x a} hxa ha => by
  have u1 : a * w <= 3779136 * w := Int.mul_le_mul_of_nonneg_right ha.2 (by omega);have u2 : -3779136 * w <= a * w := Int.mul_le_mul_of_nonneg_right ha.1 (by omega);constructor
  ·false_or_by_contra
   have u3 : x * (g : Int) <= -3779137 * (g : Int) := Int.mul_le_mul_of_nonneg_right (by omega) (by omega);omega
  ·false_or_by_contra
   have u3 : 3779137 * (g : Int) <= x * (g : Int) := Int.mul_le_mul_of_nonneg_right (by omega) (by omega);omega
 have hXB : BdF 3779136 (m + 1) (m + 1) (qgE (g : Int) (qqT m (sF ρ) (w, 0, ()))) := fun i k hi hk => by
  have h1 := hX i k hi hk;rw [qnj, qnj] at h1;have ha := hE.inv.adj hi hk;exact ⟨hsmall (congrArg (fun z : G => z.1) h1) ha.1, hsmall (congrArg (fun z : G => z.2.1) h1) ha.2⟩
 have hdpos : 0 < (norm ((w, 0, ()) : G)).tdiv (g : Int) := by
  false_or_by_contra
  have u : (norm ((w, 0, ()) : G)).tdiv (g : Int) * (g : Int) <= 0 * (g : Int) := Int.mul_le_mul_of_nonneg_right (by omega) (by omega);omega
 have hdle : (norm ((w, 0, ()) : G)).tdiv (g : Int) <= 918330048 := by
  false_or_by_contra
  have u : 918330049 * (g : Int) <= (norm ((w, 0, ()) : G)).tdiv (g : Int) * (g : Int) := Int.mul_le_mul_of_nonneg_right (by omega) (by omega);have u2 : w * w <= 918330048 * w := Int.mul_le_mul_of_nonneg_right hE.w1 (by omega);omega
 have eq : qiJ (m + 1) (m + 1) (qqT m (sF ρ) (w, 0, ())) (norm ((w, 0, ()) : G)) = ((norm ((w, 0, ()) : G)).tdiv (g : Int), mx (m + 1) (m + 1) (qgE (g : Int) (qqT m (sF ρ) (w, 0, ()))), ()) := by unfold qiJ; rw [hg]
 rw [eq];dsimp only;rw [qux (A := 972) (B := 3779136) (by omega) (by omega) hE.tB hXB (by omega) (by omega) (by omega) (by omega) (by omega), qa];have hpB : BdF 30000000000 (m + 1) (m + 1) (qe1 (m + 1) (tF ρ) (qgE (g : Int) (qqT m (sF ρ) (w, 0, ())))) := fun i k hi hk => by
  have h1 := Bd.sum (n := m + 1) (f := fun j => qK (tF ρ i j) (qgE (g : Int) (qqT m (sF ρ) (w, 0, ())) j k)) (B := 2 * (972 * 3779136)) fun j hj => (hE.tB i j hi hj).mul (hXB j k hj hk);refine h1.mono ?_;have : ((m + 1 : Nat) : Int) * (2 * (972 * 3779136)) <= 3 * (2 * (972 * 3779136)) := Int.mul_le_mul_of_nonneg_right (by omega) (by omega);omega
 rw [qm8 (B := 30000000000) (by omega) (by omega) (by omega) (by omega) hpB hdpos (by omega), qa, c];refine ⟨_, rfl, fun hh => absurd rfl hh, fun m' w' hE' _ => ?_⟩;have em : m' = m := by have := hE'.len; have := hE.len; omega
 subst em;have ew : w' = w := by
  have := hE'.det;rw [hE.det] at this;exact (congrArg (fun z : G => z.1) this).symm
 subst ew;unfold qAB;refine qvu (s := (g : Int)) (t := w') (by omega) w0 (fun i k hi hk => ?_) hden;rw [<- qpk, <- qpk];exact qs1 (fun j hj => rfl) (fun j hj => hX j k hj hk)
theorem qs2 {ρ : Rn} {m : Nat} {w : Int} (h : EstB ρ m w) : qdT ρ = some (qAB ρ m w) := by
 have hm2 : m <= 2 := by have := h.run.n3; omega
 unfold qdT;have es : qX ρ.1 ρ.1 = some (mx (m + 1) (m + 1) (sF ρ)) := qf5 h.run.d h.run.d h.run.l1 h.run.l6 h.run.n3;have et : qX ρ.2.1 ρ.1 = some (mx (m + 1) (m + 1) (tF ρ)) := qf5 h.run.r h.run.d h.run.l1 h.run.l6 h.run.n3;rw [es, qa, qqr (B := 972) (by omega) (by omega) h.sB (qys _ h.run.n3), qa, et, qa, qsH (B := 972) (M := 3779136) (by omega) (by omega) h.sB h.inv.crude h.inv.minor (by omega), qa];have hadj : BdF 3779136 (m + 1) (m + 1) (qsi m (sF ρ)) := fun i k hi hk => h.inv.adj hi hk;rw [qpa (A := 972) (B := 3779136) (by omega) (by omega) h.tB hadj (by omega) (by omega) (by omega) (by omega) (by omega), qa, h.det];dsimp only;have hw := h.w1;rw [qx2 (B := 30000000000) (by omega) (by omega) (by omega) (qtu h hm2) h.w0 (by omega)];rfl
end Go.Proofs.YtbcdgfgacigaoaaGreat.Mat
end
