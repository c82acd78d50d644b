/-
  ONE LAW OF A CHAPTER: its program side is run by an interpreter that is proved sound; what it computes is shown to be what the law says. No conditions. Part 6 of 7.
-/
import Derived.Test.YtbcdgfgacigaoaaGreatMdze
import Derived.Test.YtbcdgfgacigaoaaGreatProg
import Derived.KernelRfl
set_option linter.unusedSimpArgs false
set_option linter.unusedVariables false
set_option linter.unnecessarySimpa false
section
namespace Go.Tx
open Go
theorem qkN {n : Int} (h1 : -9223372036854775808 <= n) (h2 : n <= 9223372036854775807) : IntKind.wrap .i64 n = n := by
 rw [IntKind.wrap_i64]; omega
theorem qoL {α : Type} (l : List α) : idx l 0 = l[0]? := by simp [idx]
theorem qaj {α : Type} {l : List α} {i : Nat} {a : α} (h : l[i]? = some a) : idx l (i : Int) = some a := by simp [idx, h]
theorem qAT {α : Type} {l l2 : List α} (h : l.length + l2.length <= 4294967296) : app l l2 = some (l ++ l2) := by simp [app, h]
section
variable {σ ρ : Type} {f : σ -> Option (σ ⊕ ρ)}
theorem qmH : ∀ {n m : Nat} {s : σ} {r : ρ}, qkk f n s = some r -> n <= m -> qkk f m s = some r
 | 0, m, s, r, h, _ => by simp [qkk] at h
 | n + 1, 0, s, r, h, hm => by omega
 | n + 1, m + 1, s, r, h, hm => by
  simp only [qkk] at h ⊢;cases hf : f s with
  | none => rw [hf] at h; cases h
  | some x =>
   rw [hf] at h;cases x with
   | inl s' => exact qmH h (by omega)
   | inr r' => exact h
theorem qug {n : Nat} {s : σ} {r : ρ} (h : qkk f n s = some r) : qF f s = some r := by
 have hex : ∃ n r, qkk f n s = some r := ⟨n, r, h⟩
 cases hl : qF f s with
 | none => exfalso; unfold qF at hl; rw [dif_pos hex] at hl; cases hl
 | some r' =>
  obtain ⟨m, hm⟩ := qj9 hl;have h1 := qmH h (Nat.le_max_left n m);have h2 := qmH hm (Nat.le_max_right n m);rw [<- h1, <- h2]
theorem ql4 {s s' : σ} (h : f s = some (.inl s')) : qF f s = qF f s' := by
 cases hl : qF f s' with
 | some r =>
  obtain ⟨n, hn⟩ := qj9 hl;exact qug (n := n + 1) (by simp [qkk, h, hn])
 | none =>
  cases hl2 : qF f s with
  | none => rfl
  | some r =>
   obtain ⟨n, hn⟩ := qj9 hl2;cases n with
   | zero => simp [qkk] at hn
   | succ n =>
    simp only [qkk, h] at hn;rw [qug hn] at hl;cases hl
theorem qfp {s : σ} {r : ρ} (h : f s = some (.inr r)) : qF f s = some r := qug (n := 1) (by simp [qkk, h])
theorem qDA (n : Nat) (I : Nat -> σ -> Prop) (Q : ρ -> Prop)
  (hs : ∀ i s, i <= n -> I i s -> (∃ s', f s = some (.inl s') /\ i < n /\ I (i + 1) s') \/ (∃ r, f s = some (.inr r) /\ Q r)) {s : σ} (h0 : I 0 s) : ∃ r, qF f s = some r /\ Q r := by
 have h : ∀ k i s, n - i = k -> i <= n -> I i s -> ∃ r, qF f s = some r /\ Q r := by
  intro k;induction k with
  | zero =>
   intro i s hk hi hI;rcases hs i s hi hI with ⟨s', _, h, _⟩ | ⟨r, h, hq⟩
   ·omega
   ·exact ⟨r, qfp h, hq⟩
  | succ k ih =>
   intro i s hk hi hI;rcases hs i s hi hI with ⟨s', h, hlt, hI'⟩ | ⟨r, h, hq⟩
   ·obtain ⟨r, hr, hq⟩ := ih (i + 1) s' (by omega) (by omega) hI';exact ⟨r, by rw [ql4 h, hr], hq⟩
   ·exact ⟨r, qfp h, hq⟩
 exact h n 0 s (by omega) (by omega) h0
end
def qgz {α ρ : Type} (g : Nat -> α -> Option ρ) : Nat -> List α -> Option ρ
 | _, [] => none
 | k, a :: l => match g k a with
  | some r => some r
  | none => qgz g (k + 1) l
def qD1 {ρ : Type} : Option ρ -> Unit ⊕ ρ
 | some r => .inr r
 | none => .inl ()
def stp {ρ : Type} (i : Nat) : Option ρ -> Int ⊕ (Unit ⊕ ρ)
 | some r => .inr (.inr r)
 | none => .inl ((i : Int) + 1)
theorem qCC {α ρ : Type} (l : List α) {f : Int -> Option (Int ⊕ (Unit ⊕ ρ))} (g : Nat -> α -> Option ρ)
  (h : ∀ (i : Nat) (a : α), l[i]? = some a -> f i = some (stp i (g i a)))
  (he : f l.length = some (.inr (.inl ()))) : qF f 0 = some (qD1 (qgz g 0 l)) := by
 have key : ∀ (l2 l1 : List α), l1 ++ l2 = l -> qF f (l1.length : Nat) = some (qD1 (qgz g l1.length l2)) := by
  intro l2;induction l2 with
  | nil =>
   intro l1 e;have : l1 = l := by simpa using e
   subst this;rw [qfp he]; rfl
  | cons a l2 ih =>
   intro l1 e;have hi : l[l1.length]? = some a := by rw [<- e]; simp
   have hf := h _ _ hi;simp only [qgz];cases hg : g l1.length a with
   | some r => rw [hg] at hf; rw [qfp hf]; rfl
   | none =>
    rw [hg] at hf;rw [ql4 hf];have := ih (l1 ++ [a]) (by simp [e]);simpa using this
 simpa using key l [] rfl
end Go.Tx
end
section
namespace Go.Tx
open Go
def Ok {α : Type} (o : Option α) (Q : α -> Prop) : Prop := ∃ a, o = some a /\ Q a
section
variable {α β σ ρ τ : Type}
theorem qH {a : α} {Q : α -> Prop} : Ok (some a) Q ↔ Q a := ⟨fun ⟨_, h, hq⟩ => by cases h; exact hq, fun h => ⟨a, rfl, h⟩⟩
theorem ok_none {Q : α -> Prop} : Ok (none : Option α) Q ↔ False := ⟨fun ⟨_, h, _⟩ => (by cases h), fun h => h.elim⟩
theorem ok_eq {o : Option α} {a : α} : Ok o (fun r => r = a) ↔ o = some a := ⟨fun ⟨_, h, hq⟩ => by rw [h, hq], fun h => ⟨a, h, rfl⟩⟩
theorem Ok.eq {o : Option α} {a : α} (h : Ok o (fun r => r = a)) : o = some a := ok_eq.1 h
theorem Ok.mono {o : Option α} {P Q : α -> Prop} (h : Ok o P) (hq : ∀ a, P a -> Q a) : Ok o Q := by obtain ⟨a, h1, h2⟩ := h; exact ⟨a, h1, hq a h2⟩
theorem Ok.bind {o : Option α} {k : α -> Option β} {P : α -> Prop} {Q : β -> Prop} (h : Ok o P) (hk : ∀ a, P a -> Ok (k a) Q) : Ok (o.bind k) Q := by
 obtain ⟨a, h1, h2⟩ := h; rw [h1]; exact hk a h2
theorem qa4 {o : Option α} {k : α -> Option β} {Q : β -> Prop} : Ok (o.bind k) Q ↔ Ok o fun a => Ok (k a) Q := by
 cases o with
 | none => simp [ok_none]
 | some a => simp [qH]
theorem qcF {c : Prop} [Decidable c] {a b : α} : (bif decide c then a else b) = if c then a else b := by by_cases h : c <;> simp [h]
theorem qtV {c : Prop} [Decidable c] {a b : α} : (bif !(decide c) then a else b) = if c then b else a := by by_cases h : c <;> simp [h]
theorem qya {l : List α} {n : Int} (d : α) (h0 : 0 <= n) (h1 : n < l.length) : idx l n = some (l.getD n.toNat d) := by
 unfold idx;rw [if_pos h0];have : n.toNat < l.length := by omega
 simp [this]
theorem qga {l : List Int} {n : Int} (h0 : 0 <= n) (h1 : n < l.length) : idx l n = some (l.getD n.toNat 0) := qya 0 h0 h1
theorem qCA {l l2 : List α} (h : l.length + l2.length <= 4294967296) : app l l2 = some (l ++ l2) := qAT h
theorem qc6 {l : List α} {a : α} (h : l.length <= 4294967295) : app l [a] = some (l ++ [a]) := qAT (by simp; omega)
theorem qFD {l2 : List α} (h : l2.length <= 4294967296) : app [] l2 = some l2 := by rw [qAT (by simpa using h)]; rfl
theorem quE {l : List α} {a b : Int} (h : 0 <= a /\ a <= b /\ b <= l.length) : slc l a b = some ((l.take b.toNat).drop a.toNat) := by unfold slc; rw [if_pos h]
theorem qys {z : α} {n : Int} (h : 0 <= n /\ n <= 4294967296) : mkS z n = some (List.replicate n.toNat z) := by unfold mkS; rw [if_pos h]
def Rnd (o : Option (σ ⊕ ρ)) (I : σ -> Prop) (Q : ρ -> Prop) : Prop := Ok o fun x => match x with
 | .inl s => I s
 | .inr r => Q r
theorem qM {s : σ} {I : σ -> Prop} {Q : ρ -> Prop} : Rnd (some (.inl s)) I Q ↔ I s := qH
theorem qW {r : ρ} {I : σ -> Prop} {Q : ρ -> Prop} : Rnd (some (.inr r) : Option (σ ⊕ ρ)) I Q ↔ Q r := qH
theorem qfG {o : Option α} {k : α -> Option (σ ⊕ ρ)} {I : σ -> Prop} {Q : ρ -> Prop} : Rnd (o.bind k) I Q ↔ Ok o fun a => Rnd (k a) I Q := qa4
theorem qg8 {f : σ -> Option (σ ⊕ ρ)} (μ : σ -> Nat) (I : σ -> Prop) (Q : ρ -> Prop) {s : σ} (h0 : I s)
  (hs : ∀ s, I s -> Rnd (f s) (fun s' => I s' /\ μ s' < μ s) Q) : Ok (qF f s) Q := by
 have key : ∀ n s, μ s <= n -> I s -> Ok (qF f s) Q := by
  intro n;induction n with
  | zero =>
   intro s hn hI;obtain ⟨x, hx, h⟩ := hs s hI;cases x with
   | inl s' => exact absurd h.2 (by omega)
   | inr r => exact ⟨r, qfp hx, h⟩
  | succ n ih =>
   intro s hn hI;obtain ⟨x, hx, h⟩ := hs s hI;cases x with
   | inl s' => rw [ql4 hx]; exact ih s' (by have := h.2; omega) h.1
   | inr r => exact ⟨r, qfp hx, h⟩
 exact key _ s (Nat.le_refl _) h0
theorem qa8 {f : σ -> Option (σ ⊕ ρ)} (n : Nat) (I : Nat -> σ -> Prop) (Q : ρ -> Prop) {s : σ} (h0 : I 0 s)
  (hs : ∀ i s, i <= n -> I i s -> Rnd (f s) (fun s' => i < n /\ I (i + 1) s') Q) : Ok (qF f s) Q := by
 obtain ⟨r, h1, h2⟩ := qDA n I Q (fun i s hi hI => by
  obtain ⟨x, hx, h⟩ := hs i s hi hI;cases x with
  | inl s' => exact .inl ⟨s', hx, h⟩
  | inr r => exact .inr ⟨r, hx, h⟩) h0
 exact ⟨r, h1, h2⟩
theorem qwI {o : Option (α ⊕ β)} {k : α -> Option β} {Q : β -> Prop} : Ok (o.bind (Sum.elim k some)) Q ↔ Ok o fun x => match x with
  | .inl a => Ok (k a) Q
  | .inr b => Q b := by
 rw [qa4];cases o with
 | none => simp [ok_none]
 | some x => cases x <;> simp [qH]
end
theorem qC5 {α σ ρ : Type} {o : Option (α ⊕ (σ ⊕ ρ))} {k : α -> Option (σ ⊕ ρ)} {I : σ -> Prop} {Q : ρ -> Prop} : Rnd (o.bind (Sum.elim k some)) I Q ↔ Ok o fun x => match x with
  | .inl a => Rnd (k a) I Q
  | .inr b => match b with
   | .inl s => I s
   | .inr r => Q r := by
 cases o with
 | none => simp [Rnd, ok_none]
 | some x => cases x with
  | inl a => simp only [qa, Sum.elim_inl, qH]
  | inr b => simp only [qa, Sum.elim_inr, qH]; unfold Rnd; rw [qH]
theorem qh1 {α : Type} {l : List α} {i : Nat} {a d : α} (h : l[i]? = some a) : l.getD i d = a := by simp [h]
theorem qhq {α : Type} {l : List α} {i : Nat} (d : α) (h : i < l.length) : l.take (i + 1) = l.take i ++ [l.getD i d] := by
 rw [List.take_add_one]; simp [h]
end Go.Tx
end
section
namespace Go.Tx
open Go
section
variable {α β ρ τ : Type}
theorem qmf {l : List α} {i : Nat} {a : α} (h : l[i]? = some a) : i < l.length := (List.getElem?_eq_some_iff.1 h).1
theorem qhS (l : List α) (K : Int -> Option (Int ⊕ (Unit ⊕ ρ))) (g : Nat -> α -> Option ρ) (h : ∀ (i : Nat) (a : α), l[i]? = some a -> K i = some (stp i (g i a))) :
  qF (fun s => bif decide (s < (l.length : Int)) then K s else some (.inr (.inl ()))) 0 = some (qD1 (qgz g 0 l)) := by
 refine qCC l g (fun i a hi => ?_) ?_
 ·have := qmf hi;have e : decide ((i : Int) < (l.length : Int)) = true := by simp <;> omega
  simp only [e, cond_true];exact h i a hi
 ·simp
theorem qeE {o : Option ρ} {k : Unit -> Option ρ} : (some (qD1 o)).bind (Sum.elim k some) = (match o with
  | some r => some r
  | none => k ()) := by cases o <;> rfl
theorem qfY {g : Nat -> α -> Option ρ} : ∀ {l : List α} {k : Nat}, qgz g k l = none ↔ ∀ i a, l[i]? = some a -> g (k + i) a = none
 | [], k => by simp [qgz]
 | a :: l, k => by
  simp only [qgz];cases hg : g k a with
  | some r =>
   simp only [reduceCtorEq, false_iff];intro h;have := h 0 a rfl;simp [hg] at this
  | none =>
   simp only
   rw [qfY (l := l) (k := k + 1)];constructor
   ·intro h i b hb;cases i with
    | zero => simp at hb; subst hb; simpa using hg
    | succ i => have := h i b (by simpa using hb); rw [<- this]; congr 1; omega
   ·intro h i b hb;have := h (i + 1) b (by simpa using hb);rw [<- this]; congr 1; omega
theorem qf0 {g : Nat -> α -> Option ρ} {r : ρ} : ∀ {l : List α} {k : Nat}, qgz g k l = some r -> ∃ i a, l[i]? = some a /\ g (k + i) a = some r /\ ∀ j b, j < i -> l[j]? = some b -> g (k + j) b = none
 | [], k, h => by simp [qgz] at h
 | a :: l, k, h => by
  simp only [qgz] at h;cases hg : g k a with
  | some r' =>
   rw [hg] at h;simp only [qb] at h;subst h;exact ⟨0, a, rfl, by simpa using hg, fun j b hj => by omega⟩
  | none =>
   rw [hg] at h;obtain ⟨i, b, h1, h2, h3⟩ := qf0 (l := l) (k := k + 1) h;refine ⟨i + 1, b, by simpa using h1, by rw [<- h2]; congr 1; omega, fun j c hj hc => ?_⟩;cases j with
   | zero => simp at hc; subst hc; simpa using hg
   | succ j => have := h3 j c (by omega) (by simpa using hc); rw [<- this]; congr 1; omega
theorem qCp (l : List α) (pf : α -> Option Bool) (p : α -> Bool) (h : ∀ x ∈ l, pf x = some (p x)) (hl : l.length <= 1000000000) :
  ((qF (fun (s2 : Int) =>
   bif decide (s2 < (l.length : Int)) then
    (idx l s2).bind fun x3 =>
    (pf x3).bind fun x4 =>
    bif x4 then
     some (.inr (.inr s2))
    else
     some (.inl (IntKind.wrap .i64 (s2 + 1)))
   else
    some (.inr (.inl ()))) 0).bind (Sum.elim (fun (p5 : Unit) =>
  some (-1)) some)).bind (fun x1 => some (decide (x1 >= 0))) = some (l.any p) := by
 rw [qhS l _ (fun i a => if p a then some (i : Int) else none) (fun i a hi => by
  have := qmf hi;rw [qaj hi];simp only [qa];rw [h a (List.mem_of_getElem? hi)];simp only [qa];cases hp : p a
  ·simp only [cond_false, qf, if_false, stp]; rw [qkN (by omega) (by omega)]
  ·simp [stp]), qeE]
 cases hf : qgz (fun i a => if p a then some (i : Int) else none) 0 l with
 | none =>
  rw [qfY] at hf;have : l.any p = false := by
   rw [List.any_eq_false];intro x hx;obtain ⟨i, hi⟩ := List.mem_iff_getElem?.1 hx;have := hf i x hi;simpa using this
  rw [this]; rfl
 | some r =>
  obtain ⟨i, a, h1, h2, _⟩ := qf0 hf;have hp : p a = true := by
   cases hp : p a
   ·simp [hp] at h2
   ·rfl
  have : l.any p = true := List.any_eq_true.2 ⟨a, List.mem_of_getElem? h1, hp⟩;rw [this];simp only [hp, if_true, qb] at h2;simp only [qa];have : decide (r >= 0) = true := by simp <;> omega
  rw [this]
def qwb : List Int -> Int
 | [] => 0
 | e :: l => if e = 0 then qwb l else e
theorem qsO : ∀ (l : List Int) (k : Nat), qgz (fun _ e => if e = 0 then none else some e) k l = if qwb l = 0 then none else some (qwb l)
 | [], k => rfl
 | e :: l, k => by
  simp only [qgz, qwb];by_cases h : e = 0
  ·simp only [h, if_true]; exact qsO l (k + 1)
  ·simp [h]
theorem qBl (l : List Int) (hl : l.length <= 1000000000) :
  (qF (fun (s2 : Int) =>
   bif decide (s2 < (l.length : Int)) then
    (idx l s2).bind fun x3 =>
    bif !(decide (x3 = 0)) then
     some (.inr (.inr x3))
    else
     some (.inl (IntKind.wrap .i64 (s2 + 1)))
   else
    some (.inr (.inl ()))) 0).bind (Sum.elim (fun (p4 : Unit) => some 0) some) = some (qwb l) := by
 rw [qhS l _ (fun _ e => if e = 0 then none else some e) (fun i a hi => by
  have := qmf hi;rw [qaj hi];simp only [qa];by_cases h : a = 0
  ·simp only [h, decide_true, Bool.not_true, cond_false, if_true, stp]; rw [qkN (by omega) (by omega)]
  ·simp [h, stp]), qeE, qsO]
 by_cases h : qwb l = 0
 ·simp [h]
 ·simp [h]
end
end Go.Tx
end
section
namespace Go.Tx
open Go
theorem qlj {f : Int × Int -> Option ((Int × Int) ⊕ Int)} (hf : ∀ s, f s = if s.2 = 0 then some (.inr s.1) else some (.inl (s.2, s.1.tmod s.2))) : ∀ (n : Nat) (a b : Int), b.natAbs <= n -> ∃ r, qF f (a, b) = some r /\ r.natAbs = Int.gcd a b := by
 intro n;induction n with
 | zero =>
  intro a b hb;have : b = 0 := by omega
  subst this;exact ⟨a, qfp (by rw [hf]; simp), by simp⟩
 | succ n ih =>
  intro a b hb;by_cases h0 : b = 0
  ·subst h0;exact ⟨a, qfp (by rw [hf]; simp), by simp⟩
  ·have hlt : (a.tmod b).natAbs < b.natAbs := by
    rw [Int.natAbs_tmod]; exact Nat.mod_lt _ (by omega)
   obtain ⟨r, h1, h2⟩ := ih b (a.tmod b) (by omega);refine ⟨r, by rw [ql4 (s' := (b, a.tmod b)) (by rw [hf]; simp [h0])]; exact h1, ?_⟩;rw [h2];unfold Int.gcd;rw [Int.natAbs_tmod, Nat.gcd_comm, <- Nat.gcd_rec, Nat.gcd_comm]
def qq2 : Nat -> List Int -> Nat
 | g, [] => g
 | g, n :: l => qq2 (Nat.gcd g n.natAbs) l
def qwf (l : List Int) : Nat := qq2 0 l
theorem qlV (g : Nat) (n : Int) : ∀ (l : List Int), qq2 g (l ++ [n]) = Nat.gcd (qq2 g l) n.natAbs := by
 intro l;induction l generalizing g with
 | nil => rfl
 | cons m l ih => simp only [List.cons_append, qq2]; exact ih _
theorem qyF (a b : Int) : qwf [a, b] = Int.gcd a b := by simp [qwf, qq2, Int.gcd]
theorem qzr (a b c : Int) : qwf [a, b, c] = Nat.gcd (Int.gcd a b) c.natAbs := by simp [qwf, qq2, Int.gcd]
theorem qtg {B : Nat} : ∀ {l : List Int} {g : Nat}, g <= B -> (∀ x ∈ l, x.natAbs <= B) -> qq2 g l <= B
 | [], g, hg, _ => hg
 | n :: l, g, hg, h => by
  simp only [qq2];refine qtg ?_ fun x hx => h x (by simp [hx]);have h1 := h n (by simp);by_cases hg0 : g = 0
  ·subst hg0; simpa using h1
  ·exact Nat.le_trans (Nat.le_of_dvd (by omega) (Nat.gcd_dvd_left g n.natAbs)) hg
theorem qvs : ∀ {l : List Int} {g : Nat}, qq2 g l = 0 ↔ g = 0 /\ ∀ x ∈ l, x = 0
 | [], g => by simp [qq2]
 | n :: l, g => by
  simp only [qq2, qvs (l := l), Nat.gcd_eq_zero_iff, List.mem_cons, forall_eq_or_imp];constructor
  ·rintro ⟨⟨h1, h2⟩, h3⟩; exact ⟨h1, by omega, h3⟩
  ·rintro ⟨h1, h2, h3⟩; exact ⟨⟨h1, by omega⟩, h3⟩
theorem qkC : ∀ (l : List Int) (g : Nat), qq2 g l ∣ g
 | [], g => Nat.dvd_refl g
 | n :: l, g => Nat.dvd_trans (qkC l _) (Nat.gcd_dvd_left ..)
theorem qvr (l : List Int) (hl : l.length <= 1000000000) (hb : ∀ x ∈ l, x.natAbs <= 4611686018427387904) :
  (qF (fun (s2 : (Int × Int)) =>
   bif decide (s2.2 < (l.length : Int)) then
    (idx l s2.2).bind fun x3 =>
    (qF (fun (s5 : (Int × Int)) =>
      bif !(decide (s5.2 = 0)) then
       bif decide (s5.2 = 0) then
        none
       else
        some (.inl (s5.2, s5.1.tmod s5.2))
      else
       some (.inr s5.1)) (s2.1, x3)).bind fun (p6 : Int) =>
    some (.inl (p6, IntKind.wrap .i64 (s2.2 + 1)))
   else
    some (.inr s2.1)) (0, 0)).bind (fun (p7 : Int) => some (max p7 (IntKind.wrap .i64 (0 - p7)))) = some (qwf l : Int) := by
 refine Ok.eq ?_;rw [qa4];refine (qa8 l.length (fun i (s : Int × Int) => s.2 = (i : Int) /\ s.1.natAbs = qwf (l.take i)) (fun r : Int => r.natAbs = qwf l) ⟨rfl, rfl⟩ ?_).mono ?_
 ·rintro i ⟨g, s⟩ hi ⟨h1, h2⟩;simp only at h1 h2;subst h1;by_cases hlt : i < l.length
  ·have e0 : decide ((i : Int) < (l.length : Int)) = true := by simp <;> omega
   simp only [e0, cond_true];rw [qya 0 (by omega) (by omega)];simp only [qa, Int.toNat_natCast];obtain ⟨r, h3, h4⟩ := qlj (f := fun (s5 : (Int × Int)) => bif !(decide (s5.2 = 0)) then bif decide (s5.2 = 0) then none else some (.inl (s5.2, s5.1.tmod s5.2)) else some (.inr s5.1)) (fun s => by
    by_cases h : s.2 = 0 <;> simp [h]) (l.getD i 0).natAbs g (l.getD i 0) (Nat.le_refl _)
   rw [h3];simp only [qa];rw [qkN (by omega) (by omega), qM];refine ⟨hlt, by simp, ?_⟩;rw [h4, qhq 0 hlt];unfold qwf at h2 ⊢;rw [qlV, <- h2];rfl
  ·have : i = l.length := by omega
   subst this;have e0 : decide ((l.length : Int) < (l.length : Int)) = false := by simp
   simp only [e0, cond_false];rw [qW];simpa using h2
 ·intro r hr;have hle : qwf l <= 4611686018427387904 := qtg (by omega) hb;rw [qkN (by omega) (by omega), qH];omega
end Go.Tx
end
section
namespace Go.Tx
open Go
section
variable {α : Type}
theorem sq_nonneg (z : Int) : 0 <= z * z := by
 rcases Int.le_total 0 z with hz | hz
 ·exact Int.mul_nonneg hz hz
 ·have := Int.mul_nonneg (show 0 <= -z by omega) (show 0 <= -z by omega); rwa [Int.neg_mul_neg] at this
theorem qAQ {z : Int} (h : z * z = 0) : z = 0 := by
 rcases Int.mul_eq_zero.1 h with h | h <;> exact h
theorem qaP {a b A B : Int} (h1 : -A <= a /\ a <= A) (h2 : -B <= b /\ b <= B) : -(A * B) <= a * b /\ a * b <= A * B := by
 have hA : 0 <= A := by omega
 have hB : 0 <= B := by omega
 have e : (a * b).natAbs = a.natAbs * b.natAbs := Int.natAbs_mul a b;have h3 : a.natAbs * b.natAbs <= A.natAbs * B.natAbs := Nat.mul_le_mul (by omega) (by omega);have h4 : ((A.natAbs * B.natAbs : Nat) : Int) = A * B := by
  rw [Int.natCast_mul]; congr 1 <;> omega
 omega
end
end Go.Tx
end
section
namespace Go.Tx
open Go
section
variable {α β : Type}
def mkL (n : Nat) (f : Nat -> α) : List α := (List.range n).map f
theorem qK (n : Nat) (f : Nat -> α) : (mkL n f).length = n := by simp [mkL]
theorem qax {n : Nat} (f : Nat -> α) {k : Nat} (h : k < n) : (mkL n f)[k]? = some (f k) := by simp [mkL, h]
theorem qCY {n : Nat} (f : Nat -> α) {k : Nat} (d : α) (h : k < n) : (mkL n f).getD k d = f k := qh1 (qax f h)
theorem qyP (f : Nat -> α) : mkL 0 f = [] := rfl
theorem qio (n : Nat) (f : Nat -> α) : mkL (n + 1) f = mkL n f ++ [f n] := by simp [mkL, List.range_succ]
theorem qbG {n : Nat} {f g : Nat -> α} (h : ∀ k, k < n -> f k = g k) : mkL n f = mkL n g := List.map_congr_left fun k hk => h k (by simpa using hk)
theorem qxl {n : Nat} {f : Nat -> α} {x : α} (h : x ∈ mkL n f) : ∃ k, k < n /\ x = f k := by
 obtain ⟨k, hk, rfl⟩ := List.mem_map.1 h;exact ⟨k, by simpa using hk, rfl⟩
theorem qxJ {n : Nat} {f : Nat -> α} {k : Nat} (h : k < n) : f k ∈ mkL n f := List.mem_map.2 ⟨k, by simpa using h, rfl⟩
theorem qmp (l : List α) (d : α) : l = mkL l.length fun k => l.getD k d := by
 apply List.ext_getElem?;intro k;by_cases h : k < l.length
 ·rw [qax _ h]; simp [h]
 ·rw [List.getElem?_eq_none (by omega), List.getElem?_eq_none (by rw [qK]; omega)]
theorem qpb {l : List α} {n : Nat} {f : Nat -> α} (hl : l.length = n) (h : ∀ k, k < n -> l[k]? = some (f k)) : l = mkL n f := by
 apply List.ext_getElem?;intro k;by_cases hk : k < n
 ·rw [qax _ hk, h k hk]
 ·rw [List.getElem?_eq_none (by omega), List.getElem?_eq_none (by rw [qK]; omega)]
theorem qd6 {l : List α} {i : Nat} {d : α} (h : i < l.length) : l.getD i d ∈ l := by
 have : l[i]? = some (l.getD i d) := by simp [h]
 exact List.mem_of_getElem? this
theorem qua {l : List α} {i : Nat} (d : α) (h : i < l.length) : l[i]? = some (l.getD i d) := by simp [h]
theorem qvl {K : List β × Int -> Option ((List β × Int) ⊕ List β)} (n : Nat) (f : Nat -> β)
  (h : ∀ i, i < n -> K (mkL i f, (i : Int)) = some (.inl (mkL i f ++ [f i], (i : Int) + 1))) (he : K (mkL n f, (n : Int)) = some (.inr (mkL n f))) : qF K ([], 0) = some (mkL n f) := by
 refine Ok.eq (qa8 n (fun i (s : List β × Int) => s = (mkL i f, (i : Int))) (fun r => r = mkL n f) rfl ?_);rintro i s hi rfl;by_cases hlt : i < n
 ·rw [h i hlt, qM];exact ⟨hlt, by rw [qio]; rfl⟩
 ·have : i = n := by omega
  subst this;rw [he, qW]
theorem qFs {K : List β × Int -> Option ((List β × Int) ⊕ List β)} (l : List α) (f : α -> β)
  (h : ∀ (i : Nat) a out, l[i]? = some a -> out.length = i -> K (out, (i : Int)) = some (.inl (out ++ [f a], (i : Int) + 1))) (he : ∀ out, out.length = l.length -> K (out, (l.length : Int)) = some (.inr out)) : qF K ([], 0) = some (l.map f) := by
 refine Ok.eq (qa8 l.length (fun i (s : List β × Int) => s = ((l.take i).map f, (i : Int))) (fun r => r = l.map f) (by simp) ?_);rintro i s hi rfl;by_cases hlt : i < l.length
 ·have ha : l[i]? = some l[i] := by simp [hlt]
  rw [h i _ _ ha (by simp; omega), qM];refine ⟨hlt, ?_⟩;have e : (l.take (i + 1)).map f = (l.take i).map f ++ [f l[i]] := by rw [List.take_add_one, ha]; simp only [List.map_append, Option.toList_some, List.map_cons, List.map_nil]
  rw [e]; rfl
 ·have : i = l.length := by omega
  subst this;rw [he _ (by simp), qW];simp
end
end Go.Tx
end
section
namespace Go.Tx
open Go
abbrev G := Int × Int × Unit
def g0 : G := (0, 0, ())
def g1 : G := (1, 0, ())
def qdL (a b : G) : G := (a.1 + b.1, a.2.1 + b.2.1, ())
def qgu (a b : G) : G := (a.1 - b.1, a.2.1 - b.2.1, ())
def qao (a b : G) : G := (a.1 * b.1 - a.2.1 * b.2.1, a.1 * b.2.1 + a.2.1 * b.1, ())
def qtH (a : G) : G := (-a.1, -a.2.1, ())
def quu (a : G) : G := (a.1, -a.2.1, ())
theorem qo4 {a b : G} (h1 : a.1 = b.1) (h2 : a.2.1 = b.2.1) : a = b := by
 obtain ⟨x, y, _⟩ := a; obtain ⟨x', y', _⟩ := b; simp only at h1 h2; rw [h1, h2]
theorem qDB {a b : G} : a = b ↔ a.1 = b.1 /\ a.2.1 = b.2.1 := ⟨fun h => by rw [h]; exact ⟨rfl, rfl⟩, fun h => qo4 h.1 h.2⟩
theorem qG4 (a : G) : (a.1, a.2.1, ()) = a := rfl
def Bd (B : Int) (a : G) : Prop := (-B <= a.1 /\ a.1 <= B) /\ (-B <= a.2.1 /\ a.2.1 <= B)
theorem Bd.mono {A B : Int} {a : G} (h : Bd A a) (hAB : A <= B) : Bd B a := by unfold Bd at *; omega
theorem qtz {B : Int} (h : 0 <= B) : Bd B g0 := by unfold Bd g0; simp <;> omega
theorem qEC {B : Int} (h : 1 <= B) : Bd B g1 := by unfold Bd g1; simp <;> omega
theorem Bd.add {A B : Int} {a b : G} (h : Bd A a) (h' : Bd B b) : Bd (A + B) (qdL a b) := by unfold Bd qdL at *; simp only <;> omega
theorem Bd.sub {A B : Int} {a b : G} (h : Bd A a) (h' : Bd B b) : Bd (A + B) (qgu a b) := by unfold Bd qgu at *; simp only <;> omega
theorem Bd.neg {A : Int} {a : G} (h : Bd A a) : Bd A (qtH a) := by unfold Bd qtH at *; simp only <;> omega
theorem Bd.qFL {A : Int} {a : G} (h : Bd A a) : Bd A (quu a) := by unfold Bd quu at *; simp only <;> omega
theorem Bd.mul {A B : Int} {a b : G} (h : Bd A a) (h' : Bd B b) : Bd (2 * (A * B)) (qao a b) := by
 obtain ⟨h1, h2⟩ := h;obtain ⟨h3, h4⟩ := h';have p1 := qaP h1 h3;have p2 := qaP h2 h4;have p3 := qaP h1 h4;have p4 := qaP h2 h3;unfold Bd qao;simp only
 generalize A * B = Q at *;omega
theorem qAa {n : Int} (h1 : -9223372036854775808 <= n) (h2 : n <= 9223372036854775807) : IntKind.wrap .i64 n = n := qkN h1 h2
theorem qFU {A B : Int} {a b : G} (h : Bd A a) (h' : Bd B b) (hb : 2 * (A * B) <= 9000000000000000000) :
  ((IntKind.wrap .i64 (IntKind.wrap .i64 (a.1 * b.1) - IntKind.wrap .i64 (a.2.1 * b.2.1)), IntKind.wrap .i64 (IntKind.wrap .i64 (a.1 * b.2.1) + IntKind.wrap .i64 (a.2.1 * b.1)), ()) : G) = qao a b := by
 obtain ⟨h1, h2⟩ := h;obtain ⟨h3, h4⟩ := h';have p1 := qaP h1 h3;have p2 := qaP h2 h4;have p3 := qaP h1 h4;have p4 := qaP h2 h3;unfold qao;generalize A * B = Q at *;rw [qAa (n := a.1 * b.1) (by omega) (by omega), qAa (n := a.2.1 * b.2.1) (by omega) (by omega), qAa (n := a.1 * b.2.1) (by omega) (by omega), qAa (n := a.2.1 * b.1) (by omega) (by omega), qAa (by omega) (by omega), qAa (by omega) (by omega)]
theorem qGj {A B : Int} {a b : G} (h : Bd A a) (h' : Bd B b) (hb : A + B <= 9000000000000000000) :
  ((IntKind.wrap .i64 (a.1 + b.1), IntKind.wrap .i64 (a.2.1 + b.2.1), ()) : G) = qdL a b := by
 unfold Bd at h h';unfold qdL;rw [qAa (by omega) (by omega), qAa (by omega) (by omega)]
theorem qBG {A B : Int} {a b : G} (h : Bd A a) (h' : Bd B b) (hb : A + B <= 9000000000000000000) :
  ((IntKind.wrap .i64 (a.1 - b.1), IntKind.wrap .i64 (a.2.1 - b.2.1), ()) : G) = qgu a b := by
 unfold Bd at h h';unfold qgu;rw [qAa (by omega) (by omega), qAa (by omega) (by omega)]
theorem qvG (a : G) : qdL a g0 = a := qo4 (by simp [qdL, g0]) (by simp [qdL, g0])
theorem qCj (a : G) : qdL g0 a = a := qo4 (by simp [qdL, g0]) (by simp [qdL, g0])
theorem qls (a b : G) : qao a b = qao b a := qo4 (by simp only [qao]; grind) (by simp only [qao]; grind)
theorem qjU (a b c : G) : qao (qao a b) c = qao a (qao b c) := qo4 (by simp only [qao]; grind) (by simp only [qao]; grind)
theorem qDn (a b c : G) : qao a (qdL b c) = qdL (qao a b) (qao a c) := qo4 (by simp only [qao, qdL]; grind) (by simp only [qao, qdL]; grind)
theorem qDS (a b c : G) : qao (qdL a b) c = qdL (qao a c) (qao b c) := qo4 (by simp only [qao, qdL]; grind) (by simp only [qao, qdL]; grind)
theorem qp3 (a : G) : qao g0 a = g0 := qo4 (by simp [qao, g0]) (by simp [qao, g0])
theorem qDf (a : G) : qao g1 a = a := qo4 (by simp [qao, g1]) (by simp [qao, g1])
theorem qFp (a b : G) : qgu a b = qdL a (qtH b) := qo4 (by simp only [qgu, qdL, qtH]; omega) (by simp only [qgu, qdL, qtH]; omega)
theorem qvM (a : G) : qgu g0 a = qtH a := qo4 (by simp [qgu, qtH, g0]) (by simp [qgu, qtH, g0])
def qeY : Nat -> (Nat -> G) -> G
 | 0, _ => g0
 | n + 1, f => qdL (qeY n f) (f n)
theorem qcV {n : Nat} {f h : Nat -> G} (e : ∀ k, k < n -> f k = h k) : qeY n f = qeY n h := by
 induction n with
 | zero => rfl
 | succ n ih => simp only [qeY]; rw [ih fun k hk => e k (by omega), e n (by omega)]
theorem Bd.sum {B : Int} {f : Nat -> G} : ∀ {n : Nat}, (∀ k, k < n -> Bd B (f k)) -> Bd (n * B) (qeY n f)
 | 0, _ => qtz (by simp)
 | n + 1, h => by
  have h1 := Bd.sum (n := n) fun k hk => h k (by omega);have e : ((n + 1 : Nat) : Int) * B = n * B + B := by rw [Int.natCast_add, Int.add_mul]; simp
  rw [e];exact h1.add (h n (by omega))
theorem qmm (n : Nat) (hn : n <= 1000) {A : Int} (hA : 0 <= A) (hAn : n * A <= 9000000000000000000) (f : Nat -> G) (hf : ∀ k, k < n -> Bd A (f k)) {K : Int × Int × Int -> Option ((Int × Int × Int) ⊕ (Int × Int))}
  (h : ∀ k, k < n -> ∀ a b : Int, Bd (k * A) (a, b, ()) -> K ((k : Int), a, b) = some (.inl (IntKind.wrap .i64 ((k : Int) + 1), (qdL (a, b, ()) (f k)).1, (qdL (a, b, ()) (f k)).2.1)))
  (he : ∀ a b : Int, K ((n : Int), a, b) = some (.inr (a, b))) : qF K (0, 0, 0) = some ((qeY n f).1, (qeY n f).2.1) := by
 refine Ok.eq (qa8 n (fun i (s : Int × Int × Int) => s = ((i : Int), (qeY i f).1, (qeY i f).2.1)) (fun r => r = ((qeY n f).1, (qeY n f).2.1)) rfl ?_);rintro i s hi rfl;by_cases hlt : i < n
 ·have hb : Bd (i * A) (qeY i f) := Bd.sum fun k hk => hf k (by omega);rw [h i hlt _ _ hb, qAa (by omega) (by omega), qM];exact ⟨hlt, rfl⟩
 ·have : i = n := by omega
  subst this;rw [he, qW]
abbrev Mx := List (List G)
def mx (n c : Nat) (f : Nat -> Nat -> G) : Mx := mkL n fun i => mkL c fun k => f i k
def ent (m : Mx) (i k : Nat) : G := (m.getD i []).getD k g0
def qGp (n c : Nat) (m : Mx) : Prop := m.length = n /\ ∀ r ∈ m, r.length = c
theorem qew (n c : Nat) (f : Nat -> Nat -> G) : (mx n c f).length = n := qK _ _
theorem qmv {n c i : Nat} (f : Nat -> Nat -> G) (h : i < n) : (mx n c f)[i]? = some (mkL c fun k => f i k) := qax _ h
theorem qDw {n c : Nat} {f h : Nat -> Nat -> G} (e : ∀ i k, i < n -> k < c -> f i k = h i k) : mx n c f = mx n c h := qbG fun i hi => qbG fun k hk => e i k hi hk
theorem qFr (n c : Nat) (f : Nat -> Nat -> G) : qGp n c (mx n c f) := ⟨qew _ _ _, fun r hr => by obtain ⟨i, hi, rfl⟩ := qxl hr; exact qK _ _⟩
theorem quc {n c : Nat} {m : Mx} (h : qGp n c m) : m = mx n c (ent m) := by
 refine qpb h.1 fun i hi => ?_;rw [qua [] (by rw [h.1]; exact hi)];congr 1
 refine qpb (h.2 _ (qd6 (by rw [h.1]; exact hi))) fun k hk => ?_;rw [qua g0 (by rw [h.2 _ (qd6 (by rw [h.1]; exact hi))]; exact hk)];rfl
def BdM (B : Int) (m : Mx) : Prop := ∀ r ∈ m, ∀ z ∈ r, Bd B z
def BdF (B : Int) (n c : Nat) (f : Nat -> Nat -> G) : Prop := ∀ i k, i < n -> k < c -> Bd B (f i k)
theorem qo6 {B : Int} {n c : Nat} {m : Mx} (h : BdM B m) (hr : qGp n c m) : BdF B n c (ent m) := fun i k hi hk => by
 have h1 : m.getD i [] ∈ m := qd6 (by rw [hr.1]; exact hi);exact h _ h1 _ (qd6 (by rw [hr.2 _ h1]; exact hk))
theorem qGm {B : Int} {n c : Nat} {f : Nat -> Nat -> G} : BdM B (mx n c f) ↔ BdF B n c f := by
 constructor
 ·intro h i k hi hk;exact h _ (qxJ (f := fun i => mkL c fun k => f i k) hi) _ (qxJ (f := fun k => f i k) hk)
 ·intro h r hr z hz;obtain ⟨i, hi, rfl⟩ := qxl hr;obtain ⟨k, hk, rfl⟩ := qxl hz;exact h i k hi hk
theorem qhI (n c : Nat) (hn : n <= 1000) (hc : c <= 1000) (ask : Int -> Int -> Option G) (f : Nat -> Nat -> G) (h : ∀ i k, i < n -> k < c -> ask i k = some (f i k)) :
  ((mkS ([] : List G) (n : Int)).bind fun x1 =>
   bif decide ((n : Int) = (n : Int)) then
    (qF (fun (s3 : (Mx × Int)) =>
      bif decide (s3.2 < (x1.length : Int)) then
       (qF (fun (s5 : (Mx × Int)) =>
         bif decide (s5.2 < (c : Int)) then
          (idx s5.1 s3.2).bind fun x6 =>
          (ask s3.2 s5.2).bind fun x7 =>
          (idx s5.1 s3.2).bind fun x8 =>
          (app x8 ([x7])).bind fun x9 =>
          (idx s5.1 s3.2).bind fun x10 =>
          bif decide (s3.2 = s3.2) then
           let l11 : Mx := List.set s5.1 s3.2.toNat x9
           some (.inl (l11, IntKind.wrap .i64 (s5.2 + 1)))
          else
           none
         else
          some (.inr s5.1)) (s3.1, 0)).bind fun (p12 : Mx) =>
       some (.inl (p12, IntKind.wrap .i64 (s3.2 + 1)))
      else
       some (.inr s3.1)) (x1, 0)).bind fun (p13 : Mx) =>
    some p13
   else
    none) = some (mx n c f) := by
 have e1 : decide ((n : Int) = (n : Int)) = true := by simp
 rw [qys (by omega), qa, e1, cond_true];have hlen : (List.replicate ((n : Int).toNat) ([] : List G)).length = n := by simp
 rw [hlen];let row (i : Nat) : List G := mkL c fun k => f i k
 refine Ok.eq ?_;rw [qa4];refine (qa8 n (fun i (s : Mx × Int) => s = (mkL n fun j => if j < i then row j else [], (i : Int))) (fun r => r = mx n c f) ?_ ?_).mono (fun a ha => by rw [ha]; exact qH.2 rfl)
 ·congr 1
  refine (qpb (by simp) fun k hk => ?_);simp [hk]
 ·rintro i s hi rfl;by_cases hlt : i < n
  ·have e0 : decide ((i : Int) < (n : Int)) = true := by simp <;> omega
   simp only [e0, cond_true];rw [qfG];refine (qa8 c (fun k (s : Mx × Int) => s = (mkL n fun j => if j < i then row j else if j = i then (row i).take k else [], (k : Int))) (fun r => r = mkL n fun j => if j < i + 1 then row j else []) ?_ ?_).mono ?_
   ·congr 1
    refine qbG fun j hj => ?_;by_cases c1 : j < i
    ·rw [if_pos c1, if_pos c1]
    ·rw [if_neg c1, if_neg c1]; simp
   ·rintro k s hk rfl;by_cases hlt2 : k < c
    ·have e2 : decide ((k : Int) < (c : Int)) = true := by simp <;> omega
     have hat : idx (mkL n fun j => if j < i then row j else if j = i then (row i).take k else []) (i : Int) = some ((row i).take k) := by
      rw [qaj (qax _ hlt)];simp
     simp only [e2, cond_true, hat, qa, h i k hlt hlt2, decide_true, Int.toNat_natCast];have hrl : (row i).length = c := qK _ _;rw [qc6 (by simp [hrl]; omega)];simp only [qa];rw [qAa (by omega) (by omega), qM];refine ⟨hlt2, ?_⟩;congr 1
     refine qpb (by simp [qK]) fun j hj => ?_;rw [List.getElem?_set, qK];by_cases c1 : i = j
     ·subst c1;rw [if_pos rfl, if_pos hj];simp only [Nat.lt_irrefl, if_false, if_true];rw [qhq g0 (by rw [hrl]; exact hlt2)];have : (row i).getD k g0 = f i k := qCY _ _ hlt2;rw [this]
     ·rw [if_neg c1, qax _ hj];have : ¬ j = i := fun e => c1 e.symm;simp [this]
    ·have : k = c := by omega
     subst this;have e2 : decide ((k : Int) < (k : Int)) = false := by simp
     simp only [e2, cond_false];rw [qW];refine qbG fun j hj => ?_;by_cases c1 : j < i
     ·rw [if_pos c1, if_pos (by omega)]
     ·rw [if_neg c1];by_cases c2 : j = i
      ·subst c2;rw [if_pos rfl, if_pos (by omega), List.take_of_length_le (by rw [show (row j).length = k from qK _ _]; omega)]
      ·rw [if_neg c2, if_neg (by omega)]
   ·rintro r rfl;rw [qAa (by omega) (by omega), qM];exact ⟨hlt, rfl⟩
  ·have : i = n := by omega
   subst this;have e0 : decide ((i : Int) < (i : Int)) = false := by simp
   simp only [e0, cond_false];rw [qW];exact qbG fun j hj => by rw [if_pos hj]
def skip (r i : Nat) : Nat := if i < r then i else i + 1
def minor (f : Nat -> Nat -> G) (r c i k : Nat) : G := f (skip r i) (skip c k)
theorem qCf {α : Type} {n c : Nat} (f : Nat -> α) (h : c < n) : ((mkL n f).take c).drop 0 ++ ((mkL n f).take n).drop (c + 1) = mkL (n - 1) fun k => f (skip c k) := by
 refine qpb (by simp [qK]; omega) fun k hk => ?_;have hl : (mkL n f).length = n := qK _ _;rw [List.drop_zero, List.take_of_length_le (l := mkL n f) (i := n) (by omega)];unfold skip;by_cases c1 : k < c
 ·rw [List.getElem?_append_left (by rw [List.length_take]; omega), List.getElem?_take_of_lt c1, qax f (by omega), if_pos c1]
 ·rw [List.getElem?_append_right (by rw [List.length_take]; omega), List.length_take, hl, Nat.min_eq_left (by omega), List.getElem?_drop, if_neg c1];rw [show c + 1 + (k - c) = k + 1 by omega, qax f (by omega)]
def qky : Nat -> (Nat -> Nat -> G) -> G
 | 0, _ => g1
 | n + 1, f => qeY (n + 1) fun k => if k % 2 = 1 then qtH (qao (f 0 k) (qky n (minor f 0 k))) else qao (f 0 k) (qky n (minor f 0 k))
theorem qeQ {B : Int} {n : Nat} {f : Nat -> Nat -> G} {r c : Nat} (h : BdF B (n + 1) (n + 1) f) : BdF B n n (minor f r c) := fun i k hi hk => h _ _ (by unfold skip; split <;> omega) (by unfold skip; split <;> omega)
def dB (B : Int) : Nat -> Int
 | 0 => 1
 | n + 1 => ((n + 1 : Nat) : Int) * (2 * (B * dB B n))
theorem qlu {B : Int} (h : 0 <= B) : ∀ n, 0 <= dB B n
 | 0 => by simp [dB]
 | n + 1 => by
  simp only [dB];have := Int.mul_nonneg h (qlu h n);exact Int.mul_nonneg (by omega) (by omega)
theorem qpA {B : Int} (hB : 0 <= B) : ∀ (n : Nat) (f : Nat -> Nat -> G), BdF B n n f -> Bd (dB B n) (qky n f)
 | 0, f, _ => qEC (by simp [dB])
 | n + 1, f, h => by
  simp only [qky, dB];refine Bd.sum fun k hk => ?_;have h1 := (h 0 k (by omega) hk).mul (qpA hB n _ (qeQ (r := 0) (c := k) h));split
  ·exact h1.neg
  ·exact h1
def qdr (n : Nat) (f h : Nat -> Nat -> G) (i k : Nat) : G := qeY n fun j => qao (f i j) (h j k)
end Go.Tx
end
section
set_option maxRecDepth 100000
namespace Go.Proofs.YtbcdgfgacigaoaaGreat
open Go Go.Ab Go.Tx
noncomputable section
@[reducible] def I : Ty := .int .i64
@[reducible] def w64 (n : Int) : Int := IntKind.wrap .i64 n
def qD9 : List (List Tmp × FuncId × Kind × Join) -> List Tmp -> FuncId -> Kind -> Option Join
 | [], _, _, _ => none
 | (c, f, k, j) :: l, c', f', k' => if f = f' then (if k = k' then (if c = c' then some j else qD9 l c' f' k') else qD9 l c' f' k') else qD9 l c' f' k'
def qwn : Nat := 12
def qa0 (js : List (List Tmp × FuncId × Kind × Join)) (inl : List (List Tmp × FuncId × Tmp)) : TH where
 lib := fun g => decide (g = qwn)
 join := qD9 js
 inl := fun c f d => inl.any fun (c', f', d') => decide (f = f') && decide (d = d') && decide (c = c')
def Lb : FuncId -> Option (List V -> Option V) := fun g => if g = qwn then some (fun args => match args with
  | [] => some (.val (.bool true))
  | _ => none) else none
theorem hJ {js : List (List Tmp × FuncId × Kind × Join)} {inl : List (List Tmp × FuncId × Tmp)} : ∀ g, (qa0 js inl).lib g = false -> Lb g = none := fun g h => by
 simp only [qa0, decide_eq_false_iff_not] at h;simp [Lb, h]
def KT (e : Entry) (j : TH) (l : List Entry) (n : Nat) : Prop := ∀ x : denP e.ps, fnT Tryz.prog Hn.hints j (qyu l) n e.g (qkQ e.ps x) e.rs = e.F x
abbrev OT (e : Entry) : Prop := qeb Tryz.prog Hn.hints Lb e
theorem entK {e : Entry} {j : TH} {l : List Entry} {n : Nat} (h : TOk Tryz.prog Hn.hints Lb (qyu l)) (hj : ∀ g, j.lib g = false -> Lb g = none) (k : KT e j l n) : OT e := qoD h hj n e.g e.ps e.rs e.F k
abbrev gT : Ty := .pair I (.pair I .unit)
def qkR : Option Bool := some true
def qdS : Entry := ⟨12, [], [(.bool, 0)], fun _ => qkR⟩
theorem qtS : qeb Tryz.prog Hn.hints Lb qdS := fun x y h vs hv => by
 obtain rfl : true = y := Option.some.inj h;simp only [qdS, qkQ, RVL] at hv;subst hv;refine ⟨.val (.bool true), ⟨1, fun m hm => ?_⟩, by simp [qt1, qdS, ofL, qdT, ofTy, RV, RTy]⟩;obtain ⟨m', rfl⟩ : ∃ m', m = m' + 1 := ⟨m - 1, by omega⟩
 simp [qwa, Lb, qwn, qdS]
def qhY (a0 : (List (List (Int × Int × Unit)))) (a1 : Int) : Option Bool :=
 bif decide ((a0.length : Int) > a1) then
  some false
 else
  (qF (fun (s2 : Int) =>
    bif decide (s2 < (a0.length : Int)) then
     (idx a0 s2).bind fun x3 =>
     bif decide ((x3.length : Int) > 5) then
      some (.inr (.inr false))
     else
      some (.inl (w64 (s2 + 1)))
    else
     some (.inr (.inl ()))) 0).bind (Sum.elim (fun (p4 : Unit) =>
  some true) some)
def qh6 : Entry := ⟨77, [.ty (.sl (.sl gT)), .ty I], [(.bool, 0)], fun x => qhY x.1 x.2⟩
def qtB : TH := qa0 [([], 77, .block 0, { lv := [], ps := [], abn := true, D := ⟨4193312⟩ }),
 ([], 77, .loop 0, { lv := [⟨none, 5, 0⟩], ps := [(I, 0)], D := ⟨4193312⟩ })] []
theorem qsX : KT qh6 qtB [] 40 := fun x => by kernel_rfl
theorem qto : OT qh6 := entK qj hJ qsX
def qbq (a0 : (List (Int × Int × Unit))) : Option (List (Int × Int × Unit)) :=
 (app [] a0).bind fun x1 =>
 some x1
def qcq : Entry := ⟨22, [.ty (.sl gT)], [((.sl gT), 1)], fun x => qbq x⟩
def qlK : TH := qa0 [] []
theorem ql1 : KT qcq qlK [] 40 := fun x => by kernel_rfl
theorem qgO : OT qcq := entK qj hJ ql1
def qb9 (a0 : (List (List (Int × Int × Unit)))) : Option (List (List (Int × Int × Unit))) :=
 (qF (fun (s3 : ((List (List (Int × Int × Unit))) × Int)) =>
   bif decide (s3.2 < (a0.length : Int)) then
    (idx a0 s3.2).bind fun x4 =>
    (qbq x4).bind fun x5 =>
    (app s3.1 ([x5])).bind fun x6 =>
    some (.inl (x6, w64 (s3.2 + 1)))
   else
    some (.inr s3.1)) ([], 0)).bind fun (p7 : (List (List (Int × Int × Unit)))) =>
 some p7
def qen : Entry := ⟨29, [.ty (.sl (.sl gT))], [((.sl (.sl gT)), 2)], fun x => qb9 x⟩
def qmr : TH := qa0 [([], 29, .block 0, { lv := [⟨none, 3, 0⟩], ps := [((.sl (.sl gT)), 2)], D := ⟨524280⟩ }),
 ([], 29, .loop 0, { lv := [⟨none, 3, 0⟩, ⟨none, 4, 0⟩], ps := [((.sl (.sl gT)), 2), (I, 0)], D := ⟨524280⟩ })] []
theorem qlr : KT qen qmr [qcq] 40 := fun x => by kernel_rfl
theorem qml : OT qen := entK (qh qgO qj) hJ qlr
def qo (a0 : Bool) (a1 : Int) : Option Int :=
 bif a0 then
  some 0
 else
  some a1
def qcf : Entry := ⟨80, [.ty .bool, .ty I], [(I, 0)], fun x => qo x.1 x.2⟩
def qrD : TH := qa0 [] []
theorem qrO : KT qcf qrD [] 40 := fun x => by kernel_rfl
theorem qeW : OT qcf := entK qj hJ qrO
def qO (a0 : (List Int)) : Option Int :=
 (qF (fun (s2 : Int) =>
   bif decide (s2 < (a0.length : Int)) then
    (idx a0 s2).bind fun x3 =>
    bif !(decide (x3 = 0)) then
     some (.inr (.inr x3))
    else
     some (.inl (w64 (s2 + 1)))
   else
    some (.inr (.inl ()))) 0).bind (Sum.elim (fun (p4 : Unit) =>
 some 0) some)
def qbU : Entry := ⟨79, [.ty (.sl I)], [(I, 0)], fun x => qO x⟩
def qtp : TH := qa0 [([], 79, .block 0, { lv := [], ps := [], abn := true, D := ⟨32656⟩ }),
 ([], 79, .loop 0, { lv := [⟨none, 7, 0⟩], ps := [(I, 0)], D := ⟨32656⟩ })] []
theorem qt4 : KT qbU qtp [] 40 := fun x => by kernel_rfl
theorem qd2 : OT qbU := entK qj hJ qt4
def qS (a0 : Int) (a1 : Int) (a2 : Int) : Option Bool :=
 (bif decide (a1 <= a0) then
   some (decide (a0 <= a2))
  else
   some false).bind fun (p1 : Bool) =>
 some p1
def qdj : Entry := ⟨81, [.ty I, .ty I, .ty I], [(.bool, 0)], fun x => qS x.1 x.2.1 x.2.2⟩
def qrr : TH := qa0 [([], 81, .region 1, { lv := [⟨none, 6, 0⟩], ps := [(.bool, 0)], D := ⟨32704⟩ })] []
theorem qrk : KT qdj qrr [] 40 := fun x => by kernel_rfl
theorem qg7 : OT qdj := entK qj hJ qrk
def qcL (a0 : Int) (a1 : Int) : Option Bool :=
 (qS a0 (w64 (0 - a1)) a1).bind fun x1 =>
 some x1
def qef : Entry := ⟨152, [.ty I, .ty I], [(.bool, 0)], fun x => qcL x.1 x.2⟩
def qo2 : TH := qa0 [] []
theorem qqq : KT qef qo2 [qdj] 40 := fun x => by kernel_rfl
theorem qjw : OT qef := entK (qh qg7 qj) hJ qqq
def qbi (a0 : (Int × Int × Unit)) (a1 : Int) : Option Bool :=
 ((qcL a0.1 a1).bind fun x1 =>
  bif x1 then
   (qcL a0.2.1 a1).bind fun x2 =>
   some x2
  else
   some false).bind fun (p3 : Bool) =>
 some p3
def qbs : Entry := ⟨105, [.ty gT, .ty I], [(.bool, 0)], fun x => qbi x.1 x.2⟩
def qjs : TH := qa0 [([], 105, .region 1, { lv := [⟨none, 4, 0⟩], ps := [(.bool, 0)], D := ⟨32752⟩, rs := [⟨0, 2⟩], Dn := ⟨31696⟩ })] []
theorem qjk : KT qbs qjs [qef] 40 := fun x => by kernel_rfl
theorem qe9 : OT qbs := entK (qh qjw qj) hJ qjk
def qce (a0 : (Int × Int × Unit)) : Option (Int × Int × Unit) :=
 some (a0.1, w64 (0 - a0.2.1), ())
def qcw : Entry := ⟨83, [.ty gT], [(gT, 0)], fun x => qce x⟩
def ql0 : TH := qa0 [] []
theorem ql7 : KT qcw ql0 [] 40 := fun x => by kernel_rfl
theorem qgL : OT qcw := entK qj hJ ql7
def qac (a0 : (Int × Int × Unit)) (a1 : (Int × Int × Unit)) : Option (Int × Int × Unit) :=
 some (w64 ((w64 (a0.1 * a1.1)) - (w64 (a0.2.1 * a1.2.1))), w64 ((w64 (a0.1 * a1.2.1)) + (w64 (a0.2.1 * a1.1))), ())
def q9 : Entry := ⟨82, [.ty gT, .ty gT], [(gT, 0)], fun x => qac x.1 x.2⟩
def qkH : TH := qa0 [] []
theorem qlg : KT q9 qkH [] 40 := fun x => by kernel_rfl
theorem qaM : OT q9 := entK qj hJ qlg
def qa5 (a0 : (Int × Int × Unit)) (a1 : (Int × Int × Unit)) : Option (Int × Int × Unit) :=
 some (w64 (a0.1 + a1.1), w64 (a0.2.1 + a1.2.1), ())
def qa2 : Entry := ⟨154, [.ty gT, .ty gT], [(gT, 0)], fun x => qa5 x.1 x.2⟩
def qlZ : TH := qa0 [] []
theorem qlD : KT qa2 qlZ [] 40 := fun x => by kernel_rfl
theorem qcv : OT qa2 := entK qj hJ qlD
def qaa (a0 : (List (List (Int × Int × Unit)))) (a1 : Int) (a2 : Int) : Option (Int × Int × Unit) :=
 (idx a0 a1).bind fun x1 =>
 (idx x1 a2).bind fun x2 =>
 some x2
def qaO : Entry := ⟨87, [.ty (.sl (.sl gT)), .ty I, .ty I], [(gT, 0)], fun x => qaa x.1 x.2.1 x.2.2⟩
def qnn : TH := qa0 [] []
theorem qmz : KT qaO qnn [] 40 := fun x => by kernel_rfl
theorem qbO : OT qaO := entK qj hJ qmz
def qY (a0 : (List (List (Int × Int × Unit)))) (a1 : Int) (a2 : Int) : Option (List (List (Int × Int × Unit))) :=
 (qF (fun (s2 : ((List (List (Int × Int × Unit))) × Int)) =>
   bif decide (s2.2 < (a0.length : Int)) then
    (idx a0 s2.2).bind fun x3 =>
    (bif !(decide (s2.2 = a1)) then
      (slc x3 0 a2).bind fun x4 =>
      bif decide (a2 = a2) then
       (slc x3 (w64 (a2 + 1)) (x3.length : Int)).bind fun x5 =>
       (app x4 x5).bind fun x6 =>
       (app s2.1 ([x6])).bind fun x7 =>
       some x7
      else
       none
     else
      some s2.1).bind fun (p8 : (List (List (Int × Int × Unit)))) =>
    some (.inl (p8, w64 (s2.2 + 1)))
   else
    some (.inr s2.1)) ([], 0)).bind fun (p9 : (List (List (Int × Int × Unit)))) =>
 some p9
def qbm : Entry := ⟨150, [.ty (.sl (.sl gT)), .ty I, .ty I], [((.sl (.sl gT)), 2001)], fun x => qY x.1 x.2.1 x.2.2⟩
def qiC : TH := qa0 [([], 150, .block 0, { lv := [⟨none, 7, 0⟩], ps := [((.sl (.sl gT)), 2001)], D := ⟨8589931392⟩ }),
 ([], 150, .loop 0, { lv := [⟨none, 7, 0⟩, ⟨none, 12, 0⟩], ps := [((.sl (.sl gT)), 2001), (I, 0)], D := ⟨8589931392⟩ }),
 ([], 150, .cond 19, { lv := [⟨none, 7, 0⟩], ps := [((.sl (.sl gT)), 2001)], D := ⟨4293918848⟩ })] []
theorem qiA : KT qbm qiC [] 40 := fun x => by kernel_rfl
theorem qeA : OT qbm := entK qj hJ qiA
def qX (a0 : (Int × Int × Unit)) (a1 : (Int × Int × Unit)) : Option (Int × Int × Unit) :=
 some (w64 (a0.1 - a1.1), w64 (a0.2.1 - a1.2.1), ())
def qaL : Entry := ⟨104, [.ty gT, .ty gT], [(gT, 0)], fun x => qX x.1 x.2⟩
def qk8 : TH := qa0 [] []
theorem qkZ : KT qaL qk8 [] 40 := fun x => by kernel_rfl
theorem qb5 : OT qaL := entK qj hJ qkZ
def qag (n : Nat) : (List (List (Int × Int × Unit))) -> Option (Int × Int × Unit) :=
 Nat.rec (motive := fun _ => (List (List (Int × Int × Unit))) -> Option (Int × Int × Unit)) (fun _ => none) (fun _ ih a0 =>
 bif decide ((a0.length : Int) = 0) then
  some (1, 0, ())
 else
  (qF (fun (s2 : (Int × Int × Int)) =>
    bif decide (s2.1 < (a0.length : Int)) then
     (qaa a0 (0 : Int) s2.1).bind fun x3 =>
     (qY a0 (0 : Int) s2.1).bind fun x4 =>
     (ih x4).bind fun x5 =>
     (qac x3 x5).bind fun x6 =>
     (bif decide (s2.1.tmod 2 = 1) then
       (qX (0, 0, ()) x6).bind fun x7 =>
       some (x7.1, x7.2.1)
      else
       some (x6.1, x6.2.1)).bind fun (p8 : (Int × Int)) =>
     (qa5 (s2.2.1, s2.2.2, ()) (p8.1, p8.2, ())).bind fun x9 =>
     some (.inl (w64 (s2.1 + 1), x9.1, x9.2.1))
    else
     some (.inr (s2.2.1, s2.2.2))) (0, 0, 0)).bind fun (p10 : (Int × Int)) =>
  some (p10.1, p10.2, ())) n
def q6 : (List (List (Int × Int × Unit))) -> Option (Int × Int × Unit) := qag 12
def qbn : Entry := ⟨136, [.ty (.sl (.sl gT))], [(gT, 0)], fun x => q6 x⟩
def qgA : TH := qa0 [([], 136, .block 0, { lv := [⟨some 0, 3, 0⟩, ⟨some 0, 3, 1⟩], ps := [(I, 0), (I, 0)], D := ⟨8589930544⟩, wr := [⟨0, 3⟩, ⟨0, 5⟩] }),
 ([], 136, .loop 0, { lv := [⟨none, 12, 0⟩, ⟨some 0, 3, 0⟩, ⟨some 0, 3, 1⟩], ps := [(I, 0), (I, 0), (I, 0)], D := ⟨8589930544⟩, wr := [⟨0, 3⟩, ⟨0, 5⟩], rs := [⟨0, 5⟩], Dn := ⟨8589930512⟩ }),
 ([], 136, .cond 25, { lv := [⟨some 0, 5, 0⟩, ⟨some 0, 5, 1⟩], ps := [(I, 0), (I, 0)], D := ⟨469762048⟩, wr := [⟨0, 5⟩] })] []
def qP (n : Nat) : Entry := ⟨136, [.ty (.sl (.sl gT))], [(gT, 0)], fun x => qag n x⟩
theorem qgv (n : Nat) (x : denP (qP (n + 1)).ps) : fnT Tryz.prog Hn.hints qgA (qyu [(qP n), qaO, qbm, qaL, qa2, q9]) 40 136 (qkQ (qP (n + 1)).ps x) (qP (n + 1)).rs = (qP (n + 1)).F x := by kernel_rfl
theorem qcu : ∀ n, qeb Tryz.prog Hn.hints Lb (qP n)
 | 0 => fun x y h => by cases (show none = some y from h)
 | n + 1 => qoD (qh (qcu n) (qh qbO (qh qeA (qh qb5 (qh qcv (qh qaM qj)))))) hJ 40 _ _ _ _ (qgv n)
theorem qc0 : qeb Tryz.prog Hn.hints Lb qbn := qcu 12
def qaI (a0 : Int) (a1 : Int) (a2 : (List (List (Int × Int × Unit)))) (a3 : (Int × Int × Unit)) : Option (Int × Int × Unit) :=
 (qY a2 a1 a0).bind fun x1 =>
 (q6 x1).bind fun x2 =>
 (qce a3).bind fun x3 =>
 (qac x2 x3).bind fun x4 =>
 bif decide ((w64 (a0 + a1)).tmod 2 = 1) then
  (qX (0, 0, ()) x4).bind fun x5 =>
  some x5
 else
  some x4
def qbI : Entry := ⟨149, [.ty I, .ty I, .ptr (.sl (.sl gT)), .ptr gT], [(gT, 0)], fun x => qaI x.1 x.2.1 x.2.2.1 x.2.2.2⟩
def qhx : TH := qa0 [] []
theorem qhp : KT qbI qhx [qbn, qbm, qcw, qaL, q9] 40 := fun x => by kernel_rfl
theorem qhF : OT qbI := entK (qh qc0 (qh qeA (qh qgL (qh qb5 (qh qaM qj))))) hJ qhp
def qR (a0 : Int) (a1 : Int) (a2 : (List (List (Int × Int × Unit)))) (a3 : (Int × Int × Unit)) : Option (List (List (Int × Int × Unit))) :=
 (mkS ([] : (List (Int × Int × Unit))) a0).bind fun x1 =>
 bif decide (a0 = a0) then
  (qF (fun (s3 : ((List (List (Int × Int × Unit))) × Int)) =>
    bif decide (s3.2 < (x1.length : Int)) then
     (qF (fun (s5 : ((List (List (Int × Int × Unit))) × Int)) =>
       bif decide (s5.2 < a1) then
        (idx s5.1 s3.2).bind fun x6 =>
        (qaI s3.2 s5.2 a2 a3).bind fun x7 =>
        (idx s5.1 s3.2).bind fun x8 =>
        (app x8 ([x7])).bind fun x9 =>
        (idx s5.1 s3.2).bind fun x10 =>
        bif decide (s3.2 = s3.2) then
         let l11 : (List (List (Int × Int × Unit))) := List.set s5.1 s3.2.toNat x9
         some (.inl (l11, w64 (s5.2 + 1)))
        else
         none
       else
        some (.inr s5.1)) (s3.1, 0)).bind fun (p12 : (List (List (Int × Int × Unit)))) =>
     some (.inl (p12, w64 (s3.2 + 1)))
    else
     some (.inr s3.1)) (x1, 0)).bind fun (p13 : (List (List (Int × Int × Unit)))) =>
  some p13
 else
  none
def qad : Entry := ⟨85, [.ty I, .ty I, .fn 149 [.p (.sl (.sl gT)), .p gT]], [((.sl (.sl gT)), 2)], fun x => qR x.1 x.2.1 x.2.2.1 x.2.2.2⟩
def qcX : TH := qa0 [([], 85, .block 0, { lv := [⟨none, 7, 0⟩], ps := [((.sl (.sl gT)), 2)], D := ⟨68719467392⟩ }),
 ([], 85, .loop 0, { lv := [⟨none, 7, 0⟩, ⟨none, 14, 0⟩], ps := [((.sl (.sl gT)), 2), (I, 0)], D := ⟨68719467392⟩ }),
 ([], 85, .block 2, { lv := [⟨none, 7, 0⟩], ps := [((.sl (.sl gT)), 2)], D := ⟨34359476864⟩ }),
 ([], 85, .loop 2, { lv := [⟨none, 7, 0⟩, ⟨none, 18, 0⟩], ps := [((.sl (.sl gT)), 2), (I, 0)], D := ⟨34359476864⟩ })] []
theorem qcP : KT qad qcX [qbI] 40 := fun x => by kernel_rfl
theorem qcM : OT qad := entK (qh qhF qj) hJ qcP
def qaq (a0 : (List Int)) : Option Int :=
 (qF (fun (s2 : (Int × Int)) =>
   bif decide (s2.2 < (a0.length : Int)) then
    (idx a0 s2.2).bind fun x3 =>
    (qF (fun (s5 : (Int × Int)) =>
      bif !(decide (s5.2 = 0)) then
       bif decide (s5.2 = 0) then
        none
       else
        some (.inl (s5.2, s5.1.tmod s5.2))
      else
       some (.inr s5.1)) (s2.1, x3)).bind fun (p6 : Int) =>
    some (.inl (p6, w64 (s2.2 + 1)))
   else
    some (.inr s2.1)) (0, 0)).bind fun (p7 : Int) =>
 some (max p7 (w64 (0 - p7)))
def qcE : Entry := ⟨151, [.ty (.sl I)], [(I, 0)], fun x => qaq x⟩
def qpr : TH := qa0 [([], 151, .block 0, { lv := [⟨none, 3, 0⟩], ps := [(I, 0)], D := ⟨524072⟩ }),
 ([], 151, .loop 0, { lv := [⟨none, 3, 0⟩, ⟨none, 8, 0⟩], ps := [(I, 0), (I, 0)], D := ⟨524072⟩ }),
 ([], 151, .block 2, { lv := [⟨none, 3, 0⟩], ps := [(I, 0)], D := ⟨258088⟩ }),
 ([], 151, .loop 2, { lv := [⟨none, 3, 0⟩, ⟨none, 5, 0⟩], ps := [(I, 0), (I, 0)], D := ⟨258088⟩ })] []
theorem qqI : KT qcE qpr [] 40 := fun x => by kernel_rfl
theorem qgq : OT qcE := entK qj hJ qqI
def qcb (a0 : Int) (a1 : Int) (a2 : (List (List (Int × Int × Unit)))) (a3 : Int) : Option (Int × Int × Unit) :=
 (idx a2 a0).bind fun x1 =>
 (idx x1 a1).bind fun x2 =>
 bif decide (a3 = 0) then
  none
 else
  (idx a2 a0).bind fun x3 =>
  (idx x3 a1).bind fun x4 =>
  bif decide (a3 = 0) then
   none
  else
   some (w64 (x2.1.tdiv a3), w64 (x4.2.1.tdiv a3), ())
def qec : Entry := ⟨176, [.ty I, .ty I, .ptr (.sl (.sl gT)), .ptr I], [(gT, 0)], fun x => qcb x.1 x.2.1 x.2.2.1 x.2.2.2⟩
def qlL : TH := qa0 [] []
theorem qmd : KT qec qlL [] 40 := fun x => by kernel_rfl
theorem qlN : OT qec := entK qj hJ qmd
def qak (a0 : Int) (a1 : Int) (a2 : (List (List (Int × Int × Unit)))) (a3 : Int) : Option (List (List (Int × Int × Unit))) :=
 (mkS ([] : (List (Int × Int × Unit))) a0).bind fun x1 =>
 bif decide (a0 = a0) then
  (qF (fun (s3 : ((List (List (Int × Int × Unit))) × Int)) =>
    bif decide (s3.2 < (x1.length : Int)) then
     (qF (fun (s5 : ((List (List (Int × Int × Unit))) × Int)) =>
       bif decide (s5.2 < a1) then
        (idx s5.1 s3.2).bind fun x6 =>
        (qcb s3.2 s5.2 a2 a3).bind fun x7 =>
        (idx s5.1 s3.2).bind fun x8 =>
        (app x8 ([x7])).bind fun x9 =>
        (idx s5.1 s3.2).bind fun x10 =>
        bif decide (s3.2 = s3.2) then
         let l11 : (List (List (Int × Int × Unit))) := List.set s5.1 s3.2.toNat x9
         some (.inl (l11, w64 (s5.2 + 1)))
        else
         none
       else
        some (.inr s5.1)) (s3.1, 0)).bind fun (p12 : (List (List (Int × Int × Unit)))) =>
     some (.inl (p12, w64 (s3.2 + 1)))
    else
     some (.inr s3.1)) (x1, 0)).bind fun (p13 : (List (List (Int × Int × Unit)))) =>
  some p13
 else
  none
def qaE : Entry := ⟨85, [.ty I, .ty I, .fn 176 [.p (.sl (.sl gT)), .p I]], [((.sl (.sl gT)), 2)], fun x => qak x.1 x.2.1 x.2.2.1 x.2.2.2⟩
def qeu : TH := qa0 [([], 85, .block 0, { lv := [⟨none, 7, 0⟩], ps := [((.sl (.sl gT)), 2)], D := ⟨68719467392⟩ }),
 ([], 85, .loop 0, { lv := [⟨none, 7, 0⟩, ⟨none, 14, 0⟩], ps := [((.sl (.sl gT)), 2), (I, 0)], D := ⟨68719467392⟩ }),
 ([], 85, .block 2, { lv := [⟨none, 7, 0⟩], ps := [((.sl (.sl gT)), 2)], D := ⟨34359476864⟩ }),
 ([], 85, .loop 2, { lv := [⟨none, 7, 0⟩, ⟨none, 18, 0⟩], ps := [((.sl (.sl gT)), 2), (I, 0)], D := ⟨34359476864⟩ })] []
theorem qes : KT qaE qeu [qec] 40 := fun x => by kernel_rfl
theorem qet : OT qaE := entK (qh qlN qj) hJ qes
def qe1 (a0 : (List (List (Int × Int × Unit)))) (a1 : Int) : Option (Int × (List (List (Int × Int × Unit))) × Unit) :=
 (qF (fun (s2 : (Int × Int)) =>
   bif decide (s2.1 < (a0.length : Int)) then
    (idx a0 s2.1).bind fun x3 =>
    (qF (fun (s5 : (Int × Int)) =>
      bif decide (s5.1 < (x3.length : Int)) then
       (idx x3 s5.1).bind fun x6 =>
       (qaq ([s5.2, x6.1, x6.2.1])).bind fun x7 =>
       some (.inl (w64 (s5.1 + 1), x7))
      else
       some (.inr s5.2)) (0, s2.2)).bind fun (p8 : Int) =>
    some (.inl (w64 (s2.1 + 1), p8))
   else
    some (.inr s2.2)) (0, a1)).bind fun (p9 : Int) =>
 (idx a0 0).bind fun x10 =>
 (qak (a0.length : Int) (x10.length : Int) a0 p9).bind fun x11 =>
 bif decide (p9 = 0) then
  none
 else
  some (w64 (a1.tdiv p9), x11, ())
def qfA : Entry := ⟨128, [.ty (.sl (.sl gT)), .ty I], [((.pair I (.pair (.sl (.sl gT)) .unit)), 2)], fun x => qe1 x.1 x.2⟩
def qou : TH := qa0 [([], 128, .block 0, { lv := [⟨some 0, 5, 0⟩], ps := [(I, 0)], D := ⟨8589919872⟩, wr := [⟨0, 5⟩, ⟨0, 9⟩] }),
 ([], 128, .loop 0, { lv := [⟨none, 14, 0⟩, ⟨some 0, 5, 0⟩], ps := [(I, 0), (I, 0)], D := ⟨8589919872⟩, wr := [⟨0, 5⟩, ⟨0, 9⟩] }),
 ([], 128, .block 2, { lv := [⟨some 0, 5, 0⟩], ps := [(I, 0)], D := ⟨4293920384⟩, wr := [⟨0, 5⟩, ⟨0, 9⟩] }),
 ([], 128, .loop 2, { lv := [⟨none, 20, 0⟩, ⟨some 0, 5, 0⟩], ps := [(I, 0), (I, 0)], D := ⟨4293920384⟩, wr := [⟨0, 5⟩, ⟨0, 9⟩], rs := [⟨0, 9⟩], Dn := ⟨4126147712⟩ })] []
theorem qor : KT qfA qou [qcE, qaE] 40 := fun x => by kernel_rfl
theorem qok : OT qfA := entK (qh qgq (qh qet qj)) hJ qor
def qbB (a0 : (List (List (Int × Int × Unit)))) (a1 : (Int × Int × Unit)) : Option (Int × (List (List (Int × Int × Unit))) × Unit) :=
 (qR (a0.length : Int) (a0.length : Int) a0 a1).bind fun x1 =>
 (qce a1).bind fun x2 =>
 (qac a1 x2).bind fun x3 =>
 (qe1 x1 x3.1).bind fun x4 =>
 some x4
def qcl : Entry := ⟨84, [.ty (.sl (.sl gT)), .ty gT], [((.pair I (.pair (.sl (.sl gT)) .unit)), 2)], fun x => qbB x.1 x.2⟩
def qiz : TH := qa0 [] []
theorem qiF : KT qcl qiz [qad, qfA, qcw, q9] 40 := fun x => by kernel_rfl
theorem qiG : OT qcl := entK (qh qcM (qh qok (qh qgL (qh qaM qj)))) hJ qiF
def qa7 (a0 : Int) (a1 : Int) (a2 : (List (List (Int × Int × Unit)))) (a3 : (List (List (Int × Int × Unit)))) : Option (Int × Int × Unit) :=
 (qF (fun (s2 : (Int × Int × Int)) =>
   bif decide (s2.1 < (a2.length : Int)) then
    (qaa a3 a0 s2.1).bind fun x3 =>
    (qaa a2 s2.1 a1).bind fun x4 =>
    (qac x3 x4).bind fun x5 =>
    (qa5 (s2.2.1, s2.2.2, ()) x5).bind fun x6 =>
    some (.inl (w64 (s2.1 + 1), x6.1, x6.2.1))
   else
    some (.inr (s2.2.1, s2.2.2))) (0, 0, 0)).bind fun (p7 : (Int × Int)) =>
 some (p7.1, p7.2, ())
def qcn : Entry := ⟨153, [.ty I, .ty I, .ptr (.sl (.sl gT)), .ptr (.sl (.sl gT))], [(gT, 0)], fun x => qa7 x.1 x.2.1 x.2.2.1 x.2.2.2⟩
def qiM : TH := qa0 [([], 153, .block 0, { lv := [⟨some 0, 7, 0⟩, ⟨some 0, 7, 1⟩], ps := [(I, 0), (I, 0)], D := ⟨67107072⟩, wr := [⟨0, 7⟩] }),
 ([], 153, .loop 0, { lv := [⟨none, 11, 0⟩, ⟨some 0, 7, 0⟩, ⟨some 0, 7, 1⟩], ps := [(I, 0), (I, 0), (I, 0)], D := ⟨67107072⟩, wr := [⟨0, 7⟩] })] []
theorem qiB : KT qcn qiM [qaO, qa2, q9] 40 := fun x => by kernel_rfl
theorem qiD : OT qcn := entK (qh qbO (qh qcv (qh qaM qj))) hJ qiB
def qat (a0 : Int) (a1 : Int) (a2 : (List (List (Int × Int × Unit)))) (a3 : (List (List (Int × Int × Unit)))) : Option (List (List (Int × Int × Unit))) :=
 (mkS ([] : (List (Int × Int × Unit))) a0).bind fun x1 =>
 bif decide (a0 = a0) then
  (qF (fun (s3 : ((List (List (Int × Int × Unit))) × Int)) =>
    bif decide (s3.2 < (x1.length : Int)) then
     (qF (fun (s5 : ((List (List (Int × Int × Unit))) × Int)) =>
       bif decide (s5.2 < a1) then
        (idx s5.1 s3.2).bind fun x6 =>
        (qa7 s3.2 s5.2 a2 a3).bind fun x7 =>
        (idx s5.1 s3.2).bind fun x8 =>
        (app x8 ([x7])).bind fun x9 =>
        (idx s5.1 s3.2).bind fun x10 =>
        bif decide (s3.2 = s3.2) then
         let l11 : (List (List (Int × Int × Unit))) := List.set s5.1 s3.2.toNat x9
         some (.inl (l11, w64 (s5.2 + 1)))
        else
         none
       else
        some (.inr s5.1)) (s3.1, 0)).bind fun (p12 : (List (List (Int × Int × Unit)))) =>
     some (.inl (p12, w64 (s3.2 + 1)))
    else
     some (.inr s3.1)) (x1, 0)).bind fun (p13 : (List (List (Int × Int × Unit)))) =>
  some p13
 else
  none
def qap : Entry := ⟨85, [.ty I, .ty I, .fn 153 [.p (.sl (.sl gT)), .p (.sl (.sl gT))]], [((.sl (.sl gT)), 2)], fun x => qat x.1 x.2.1 x.2.2.1 x.2.2.2⟩
def qdt : TH := qa0 [([], 85, .block 0, { lv := [⟨none, 7, 0⟩], ps := [((.sl (.sl gT)), 2)], D := ⟨68719467392⟩ }),
 ([], 85, .loop 0, { lv := [⟨none, 7, 0⟩, ⟨none, 14, 0⟩], ps := [((.sl (.sl gT)), 2), (I, 0)], D := ⟨68719467392⟩ }),
 ([], 85, .block 2, { lv := [⟨none, 7, 0⟩], ps := [((.sl (.sl gT)), 2)], D := ⟨34359476864⟩ }),
 ([], 85, .loop 2, { lv := [⟨none, 7, 0⟩, ⟨none, 18, 0⟩], ps := [((.sl (.sl gT)), 2), (I, 0)], D := ⟨34359476864⟩ })] []
theorem qdq : KT qap qdt [qcn] 40 := fun x => by kernel_rfl
theorem qdi : OT qap := entK (qh qiD qj) hJ qdq
def qco (a0 : (List (List (Int × Int × Unit)))) (a1 : (List (List (Int × Int × Unit)))) : Option (List (List (Int × Int × Unit))) :=
 (idx a1 0).bind fun x1 =>
 (qat (a0.length : Int) (x1.length : Int) a1 a0).bind fun x2 =>
 some x2
def qc8 : Entry := ⟨89, [.ty (.sl (.sl gT)), .ty (.sl (.sl gT))], [((.sl (.sl gT)), 2)], fun x => qco x.1 x.2⟩
def qki : TH := qa0 [] []
theorem qke : KT qc8 qki [qap] 40 := fun x => by kernel_rfl
theorem qkh : OT qc8 := entK (qh qdi qj) hJ qke
def qhT (a0 : Int) (a1 : Int) : Option ((Int × Int × Unit) × Int) :=
 (qaq ([a0, a1])).bind fun x1 =>
 bif decide (x1 = 0) then
  none
 else
  bif decide (x1 = 0) then
   none
  else
   ((qcL (w64 (a0.tdiv x1)) (1000000000 : Int)).bind fun x2 =>
    bif !x2 then
     some true
    else
     some (decide (w64 (a1.tdiv x1) > 1000000000))).bind fun (p3 : Bool) =>
   bif p3 then
    some ((0, 0, ()), 8)
   else
    some ((w64 (a0.tdiv x1), w64 (a1.tdiv x1), ()), 0)
def qic : Entry := ⟨88, [.ty I, .ty I], [(gT, 0), (I, 0)], fun x => qhT x.1 x.2⟩
def qub : TH := qa0 [([], 88, .region 3, { lv := [⟨none, 27, 0⟩], ps := [(.bool, 0)], D := ⟨267911168⟩, rs := [⟨0, 7⟩], Dn := ⟨250609664⟩ })] []
theorem qtR : KT qic qub [qcE, qef] 40 := fun x => by kernel_rfl
theorem qtk : OT qic := entK (qh qgq (qh qjw qj)) hJ qtR
def qa6 (a0 : Int) (a1 : Int) (a2 : Int) : Option Bool :=
 (bif decide (a1 <= a0) then
   some (decide (a0 <= a2))
  else
   some false).bind fun (p1 : Bool) =>
 some p1
def qdV : Entry := ⟨18, [.ty I, .ty I, .ty I], [(.bool, 0)], fun x => qa6 x.1 x.2.1 x.2.2⟩
def qt5 : TH := qa0 [([], 18, .region 1, { lv := [⟨none, 6, 0⟩], ps := [(.bool, 0)], D := ⟨32704⟩ })] []
theorem qs6 : KT qdV qt5 [] 40 := fun x => by kernel_rfl
theorem qip : OT qdV := entK qj hJ qs6
def qd8 (a0 : (Int × Int × Unit)) (a1 : Int) : Option Bool :=
 ((qa6 a0.1 (w64 (0 - a1)) a1).bind fun x1 =>
  bif x1 then
   (qa6 a0.2.1 (w64 (0 - a1)) a1).bind fun x2 =>
   some x2
  else
   some false).bind fun (p3 : Bool) =>
 some p3
def qeq : Entry := ⟨114, [.ty gT, .ty I], [(.bool, 0)], fun x => qd8 x.1 x.2⟩
def qpC : TH := qa0 [([], 114, .region 1, { lv := [⟨none, 4, 0⟩], ps := [(.bool, 0)], D := ⟨524272⟩, rs := [⟨0, 2⟩], Dn := ⟨520144⟩ })] []
theorem qpX : KT qeq qpC [qdV] 40 := fun x => by kernel_rfl
theorem qja : OT qeq := entK (qh qip qj) hJ qpX
def qjo (a0 : (Int × Int × Unit)) (a1 : (Int × Int × Unit)) : Option (Int × Int × Unit) :=
 some (w64 ((w64 (a0.1 * a1.1)) - (w64 (a0.2.1 * a1.2.1))), w64 ((w64 (a0.1 * a1.2.1)) + (w64 (a0.2.1 * a1.1))), ())
def qhZ : Entry := ⟨94, [.ty gT, .ty gT], [(gT, 0)], fun x => qjo x.1 x.2⟩
def qwj : TH := qa0 [] []
theorem qwN : KT qhZ qwj [] 40 := fun x => by kernel_rfl
theorem qqN : OT qhZ := entK qj hJ qwN
def qiV (a0 : (Int × Int × Unit)) (a1 : (Int × Int × Unit)) : Option (Int × Int × Unit) :=
 some (w64 (a0.1 + a1.1), w64 (a0.2.1 + a1.2.1), ())
def qii : Entry := ⟨68, [.ty gT, .ty gT], [(gT, 0)], fun x => qiV x.1 x.2⟩
def qwe : TH := qa0 [] []
theorem qwM : KT qii qwe [] 40 := fun x => by kernel_rfl
theorem qo9 : OT qii := entK qj hJ qwM
def qdN (a0 : (List (List (Int × Int × Unit)))) (a1 : Int) (a2 : Int) : Option (List (List (Int × Int × Unit))) :=
 (qF (fun (s2 : ((List (List (Int × Int × Unit))) × Int)) =>
   bif decide (s2.2 < (a0.length : Int)) then
    (bif decide (s2.2 = a1) then
      some s2.1
     else
      (qF (fun (s4 : ((List (Int × Int × Unit)) × Int)) =>
        bif decide (s4.2 < (a0.length : Int)) then
         (bif !(decide (s4.2 = a2)) then
           (idx a0 s2.2).bind fun x5 =>
           (idx x5 s4.2).bind fun x6 =>
           (app s4.1 ([x6])).bind fun x7 =>
           some x7
          else
           some s4.1).bind fun (p8 : (List (Int × Int × Unit))) =>
         some (.inl (p8, w64 (s4.2 + 1)))
        else
         some (.inr s4.1)) ([], 0)).bind fun (p9 : (List (Int × Int × Unit))) =>
      (app s2.1 ([p9])).bind fun x10 =>
      some x10).bind fun (p11 : (List (List (Int × Int × Unit)))) =>
    some (.inl (p11, w64 (s2.2 + 1)))
   else
    some (.inr s2.1)) ([], 0)).bind fun (p12 : (List (List (Int × Int × Unit)))) =>
 some p12
def qgj : Entry := ⟨138, [.ty (.sl (.sl gT)), .ty I, .ty I], [((.sl (.sl gT)), 2)], fun x => qdN x.1 x.2.1 x.2.2⟩
def qqB : TH := qa0 [([], 138, .block 0, { lv := [⟨none, 7, 0⟩], ps := [((.sl (.sl gT)), 2)], D := ⟨8796093022080⟩ }),
 ([], 138, .loop 0, { lv := [⟨none, 7, 0⟩, ⟨none, 8, 0⟩], ps := [((.sl (.sl gT)), 2), (I, 0)], D := ⟨8796093022080⟩ }),
 ([], 138, .block 1, { lv := [⟨none, 7, 0⟩], ps := [((.sl (.sl gT)), 2)], D := ⟨8796092892800⟩ }),
 ([], 138, .block 2, { lv := [⟨none, 9, 0⟩], ps := [((.sl gT), 1)], D := ⟨549754766848⟩ }),
 ([], 138, .loop 2, { lv := [⟨none, 9, 0⟩, ⟨none, 10, 0⟩], ps := [((.sl gT), 1), (I, 0)], D := ⟨549754766848⟩ }),
 ([], 138, .cond 28, { lv := [⟨none, 9, 0⟩], ps := [((.sl gT), 1)], D := ⟨549218943488⟩ })] []
theorem qpD : KT qgj qqB [] 40 := fun x => by kernel_rfl
theorem qpU : OT qgj := entK qj hJ qpD
def qlU (a0 : Int) (a1 : Int) : Option Int :=
 bif decide (a1 = 0) then
  none
 else
  (bif decide (a0.tmod a1 < 0) then
    some (w64 ((a0.tmod a1) + a1))
   else
    some (a0.tmod a1)).bind fun (p1 : Int) =>
  some p1
def qmU : Entry := ⟨67, [.ty I, .ty I], [(I, 0)], fun x => qlU x.1 x.2⟩
def qzm : TH := qa0 [([], 67, .cond 9, { lv := [⟨none, 0, 0⟩], ps := [(I, 0)], D := ⟨7169⟩ })] []
theorem qzz : KT qmU qzm [] 40 := fun x => by kernel_rfl
theorem qyY : OT qmU := entK qj hJ qzz
def qgd (a0 : (Int × Int × Unit)) (a1 : (Int × Int × Unit)) : Option (Int × Int × Unit) :=
 some (w64 (a0.1 - a1.1), w64 (a0.2.1 - a1.2.1), ())
def qgp : Entry := ⟨41, [.ty gT, .ty gT], [(gT, 0)], fun x => qgd x.1 x.2⟩
def qwK : TH := qa0 [] []
theorem qwW : KT qgp qwK [] 40 := fun x => by kernel_rfl
theorem qkY : OT qgp := entK qj hJ qwW
def qbl (n : Nat) : (List (List (Int × Int × Unit))) -> Option (Int × Int × Unit) :=
 Nat.rec (motive := fun _ => (List (List (Int × Int × Unit))) -> Option (Int × Int × Unit)) (fun _ => none) (fun _ ih a0 =>
 bif decide ((a0.length : Int) = 0) then
  some (1, 0, ())
 else
  (qF (fun (s2 : (Int × Int × Int)) =>
    bif decide (s2.1 < (a0.length : Int)) then
     (idx a0 0).bind fun x3 =>
     (idx x3 s2.1).bind fun x4 =>
     (qdN a0 (0 : Int) s2.1).bind fun x5 =>
     (ih x5).bind fun x6 =>
     (qjo x4 x6).bind fun x7 =>
     (qlU s2.1 (2 : Int)).bind fun x8 =>
     (bif decide (x8 = 0) then
       (qiV (s2.2.1, s2.2.2, ()) x7).bind fun x9 =>
       some (x9.1, x9.2.1)
      else
       (qgd (s2.2.1, s2.2.2, ()) x7).bind fun x10 =>
       some (x10.1, x10.2.1)).bind fun (p11 : (Int × Int)) =>
     some (.inl (w64 (s2.1 + 1), p11.1, p11.2))
    else
     some (.inr (s2.2.1, s2.2.2))) (0, 0, 0)).bind fun (p12 : (Int × Int)) =>
  some (p12.1, p12.2, ())) n
def qbL : (List (List (Int × Int × Unit))) -> Option (Int × Int × Unit) := qbl 12
def qgr : Entry := ⟨69, [.ty (.sl (.sl gT))], [(gT, 0)], fun x => qbL x⟩
def qkO : TH := qa0 [([], 69, .block 0, { lv := [⟨some 0, 3, 0⟩, ⟨some 0, 3, 1⟩], ps := [(I, 0), (I, 0)], D := ⟨68719475760⟩, wr := [⟨0, 3⟩, ⟨0, 5⟩] }),
 ([], 69, .loop 0, { lv := [⟨none, 4, 0⟩, ⟨some 0, 3, 0⟩, ⟨some 0, 3, 1⟩], ps := [(I, 0), (I, 0), (I, 0)], D := ⟨68719475760⟩, wr := [⟨0, 3⟩, ⟨0, 5⟩], rs := [⟨0, 5⟩], Dn := ⟨68719475728⟩ }),
 ([], 69, .cond 29, { lv := [⟨some 0, 3, 0⟩, ⟨some 0, 3, 1⟩], ps := [(I, 0), (I, 0)], D := ⟨67645734912⟩, wr := [⟨0, 3⟩] })] []
def qar (n : Nat) : Entry := ⟨69, [.ty (.sl (.sl gT))], [(gT, 0)], fun x => qbl n x⟩
theorem qkM (n : Nat) (x : denP (qar (n + 1)).ps) : fnT Tryz.prog Hn.hints qkO (qyu [(qar n), qii, qhZ, qgp, qmU, qgj]) 40 69 (qkQ (qar (n + 1)).ps x) (qar (n + 1)).rs = (qar (n + 1)).F x := by kernel_rfl
theorem qfi : ∀ n, qeb Tryz.prog Hn.hints Lb (qar n)
 | 0 => fun x y h => by cases (show none = some y from h)
 | n + 1 => qoD (qh (qfi n) (qh qo9 (qh qqN (qh qkY (qh qyY (qh qpU qj)))))) hJ 40 _ _ _ _ (qkM n)
theorem qlh : qeb Tryz.prog Hn.hints Lb qgr := qfi 12
def qbk (a0 : Int) : Option Int :=
 some (max a0 (w64 (0 - a0)))
def qeD : Entry := ⟨42, [.ty I], [(I, 0)], fun x => qbk x⟩
def qxw : TH := qa0 [] []
theorem qwt : KT qeD qxw [] 40 := fun x => by kernel_rfl
theorem qh2 : OT qeD := entK qj hJ qwt
def qoC (a0 : Int) (a1 : Int) : Option Int :=
 (qF (fun (s2 : (Int × Int)) =>
   bif !(decide (s2.2 = 0)) then
    bif decide (s2.2 = 0) then
     none
    else
     some (.inl (s2.2, s2.1.tmod s2.2))
   else
    some (.inr s2.1)) (a0, a1)).bind fun (p3 : Int) =>
 (qbk p3).bind fun x4 =>
 some x4
def qmS : Entry := ⟨155, [.ty I, .ty I], [(I, 0)], fun x => qoC x.1 x.2⟩
def qzh : TH := qa0 [([], 155, .block 0, { lv := [⟨none, 0, 0⟩], ps := [(I, 0)], D := ⟨2019⟩ }),
 ([], 155, .loop 0, { lv := [⟨none, 0, 0⟩, ⟨none, 1, 0⟩], ps := [(I, 0), (I, 0)], D := ⟨2019⟩ })] []
theorem qze : KT qmS qzh [qeD] 40 := fun x => by kernel_rfl
theorem qzE : OT qmS := entK (qh qh2 qj) hJ qze
def qjf (a0 : (List (List (Int × Int × Unit)))) : Option Bool :=
 (qhY a0 (5 : Int)).bind fun x1 =>
 some x1
def qk2 : Entry := ⟨51, [.ty (.sl (.sl gT))], [(.bool, 0)], fun x => qjf x⟩
def qwB : TH := qa0 [] []
theorem qwk : KT qk2 qwB [qh6] 40 := fun x => by kernel_rfl
theorem qxp : OT qk2 := entK (qh qto qj) hJ qwk
def qb4 (a0 : (Int × Int × Unit)) : Option Bool :=
 (qbi a0 (20 : Int)).bind fun x1 =>
 some (!x1)
def qcD : Entry := ⟨187, [.ty gT], [(.bool, 0)], fun x => qb4 x⟩
def qi6 : TH := qa0 [] []
theorem qjj : KT qcD qi6 [qbs] 40 := fun x => by kernel_rfl
theorem qjG : OT qcD := entK (qh qe9 qj) hJ qjj
def qv (a0 : (List (Int × Int × Unit))) : Option Int :=
 (qF (fun (s2 : Int) =>
   bif decide (s2 < (a0.length : Int)) then
    (idx a0 s2).bind fun x3 =>
    (qb4 x3).bind fun x4 =>
    bif x4 then
     some (.inr (.inr s2))
    else
     some (.inl (w64 (s2 + 1)))
   else
    some (.inr (.inl ()))) 0).bind (Sum.elim (fun (p5 : Unit) =>
 some (-1)) some)
def qq : Entry := ⟨183, [.ty (.sl gT), .fn 187 []], [(I, 0)], fun x => qv x.1⟩
def qaB : TH := qa0 [([], 183, .block 0, { lv := [], ps := [], abn := true, D := ⟨524064⟩ }),
 ([], 183, .loop 0, { lv := [⟨none, 8, 0⟩], ps := [(I, 0)], D := ⟨524064⟩ })] []
theorem qaz : KT qq qaB [qcD] 40 := fun x => by kernel_rfl
theorem qaA : OT qq := entK (qh qjG qj) hJ qaz
def qm (a0 : (List (Int × Int × Unit))) : Option Bool :=
 (qv a0).bind fun x1 =>
 some (decide (x1 >= 0))
def qp : Entry := ⟨145, [.ty (.sl gT), .fn 187 []], [(.bool, 0)], fun x => qm x.1⟩
def qaw : TH := qa0 [] []
theorem qau : KT qp qaw [qq] 40 := fun x => by kernel_rfl
theorem qav : OT qp := entK (qh qaA qj) hJ qau
def qcT (a0 : (List (List (Int × Int × Unit)))) : Option (Int × Int) :=
 (qo (decide ((a0.length : Int) > 0)) (10 : Int)).bind fun x1 =>
 (qo (decide ((a0.length : Int) <= 3)) (8 : Int)).bind fun x2 =>
 (qO ([x1, x2])).bind fun x3 =>
 bif !(decide (x3 = 0)) then
  some (0, x3)
 else
  (qF (fun (s5 : Int) =>
    bif decide (s5 < (a0.length : Int)) then
     (idx a0 s5).bind fun x6 =>
     (qm x6).bind fun x7 =>
     (qo (decide ((x6.length : Int) = (a0.length : Int))) (10 : Int)).bind fun x8 =>
     (qo (!x7) (2 : Int)).bind fun x9 =>
     (qO ([x8, x9])).bind fun x10 =>
     bif !(decide (x10 = 0)) then
      some (.inr (.inr (s5, x10)))
     else
      some (.inl (w64 (s5 + 1)))
    else
     some (.inr (.inl ()))) 0).bind (Sum.elim (fun (p11 : Unit) =>
  some (0, 0)) some)
def qdD : Entry := ⟨159, [.ty (.sl (.sl gT))], [(I, 0), (I, 0)], fun x => qcT x⟩
def qkU : TH := qa0 [([], 159, .block 0, { lv := [], ps := [], abn := true, D := ⟨140737471578592⟩ }),
 ([], 159, .loop 0, { lv := [⟨none, 24, 0⟩], ps := [(I, 0)], D := ⟨140737471578592⟩ })] []
theorem qk1 : KT qdD qkU [qbU, qcf, qp] 40 := fun x => by kernel_rfl
theorem qkS : OT qdD := entK (qh qd2 (qh qeW (qh qav qj))) hJ qk1
def qbN (a0 : (List (List (Int × Int × Unit)))) : Option Int :=
 (qcT a0).bind fun x1 =>
 some x1.2
def qcQ : Entry := ⟨108, [.ty (.sl (.sl gT))], [(I, 0)], fun x => qbN x⟩
def qmI : TH := qa0 [] []
theorem qmM : KT qcQ qmI [qdD] 40 := fun x => by kernel_rfl
theorem qhj : OT qcQ := entK (qh qkS qj) hJ qmM
def qdO (a0 : (List (List (Int × Int × Unit)))) : Option ((Int × (List (List (Int × Int × Unit))) × Unit) × Int) :=
 (qbN a0).bind fun x1 =>
 bif !(decide (x1 = 0)) then
  some ((0, [], ()), x1)
 else
  (q6 a0).bind fun x2 =>
  let v3 : Bool := (bif decide (x2.1 = 0) then (bif decide (x2.2.1 = 0) then true else false) else false)
  bif v3 then
   some ((0, [], ()), 11)
  else
   (qbB a0 x2).bind fun x4 =>
   some (x4, 0)
def qeO : Entry := ⟨59, [.ty (.sl (.sl gT))], [((.pair I (.pair (.sl (.sl gT)) .unit)), 2), (I, 0)], fun x => qdO x⟩
def qmY : TH := qa0 [] []
theorem qne : KT qeO qmY [qcQ, qbn, qcl] 40 := fun x => by kernel_rfl
theorem qmN : OT qeO := entK (qh qhj (qh qc0 (qh qiG qj))) hJ qne
def qdu (a0 : (Int × Int × Unit)) : Option Int :=
 some (w64 ((max a0.1 (w64 (0 - a0.1))) + (max a0.2.1 (w64 (0 - a0.2.1)))))
def qd5 : Entry := ⟨166, [.ty gT], [(I, 0)], fun x => qdu x⟩
def qms : TH := qa0 [] []
theorem ql9 : KT qd5 qms [] 40 := fun x => by kernel_rfl
theorem qmo : OT qd5 := entK qj hJ ql9
def qbY (a0 : (List (List (Int × Int × Unit)))) : Option Int :=
 (qF (fun (s2 : (Int × Int)) =>
   bif decide (s2.2 < (a0.length : Int)) then
    (idx a0 s2.2).bind fun x3 =>
    (qF (fun (s5 : (Int × Int)) =>
      bif decide (s5.2 < (x3.length : Int)) then
       (qaa a0 s2.2 s5.2).bind fun x6 =>
       (qdu x6).bind fun x7 =>
       some (.inl (w64 (s5.1 + x7), w64 (s5.2 + 1)))
      else
       some (.inr s5.1)) (0, 0)).bind fun (p8 : Int) =>
    some (.inl (max s2.1 p8, w64 (s2.2 + 1)))
   else
    some (.inr s2.1)) (0, 0)).bind fun (p9 : Int) =>
 some p9
def qcC : Entry := ⟨119, [.ty (.sl (.sl gT))], [(I, 0)], fun x => qbY x⟩
def qjr : TH := qa0 [([], 119, .block 0, { lv := [⟨none, 3, 0⟩], ps := [(I, 0)], D := ⟨4294966520⟩ }),
 ([], 119, .loop 0, { lv := [⟨none, 3, 0⟩, ⟨none, 10, 0⟩], ps := [(I, 0), (I, 0)], D := ⟨4294966520⟩ }),
 ([], 119, .block 2, { lv := [⟨none, 6, 0⟩], ps := [(I, 0)], D := ⟨268304608⟩ }),
 ([], 119, .loop 2, { lv := [⟨none, 6, 0⟩, ⟨none, 17, 0⟩], ps := [(I, 0), (I, 0)], D := ⟨268304608⟩ })] []
theorem qi5 : KT qcC qjr [qaO, qd5] 40 := fun x => by kernel_rfl
theorem qjB : OT qcC := entK (qh qbO (qh qmo qj)) hJ qi5
def qfk (a0 : Int) (a1 : Int) : Option (Int × Int × Unit) :=
 bif decide (a0 = a1) then
  some (1, 0, ())
 else
  some (0, 0, ())
def qhd : Entry := ⟨164, [.ty I, .ty I], [(gT, 0)], fun x => qfk x.1 x.2⟩
def qre : TH := qa0 [] []
theorem qrG : KT qhd qre [] 40 := fun x => by kernel_rfl
theorem qrx : OT qhd := entK qj hJ qrG
def qaG (a0 : Int) (a1 : Int) : Option (List (List (Int × Int × Unit))) :=
 (mkS ([] : (List (Int × Int × Unit))) a0).bind fun x1 =>
 bif decide (a0 = a0) then
  (qF (fun (s3 : ((List (List (Int × Int × Unit))) × Int)) =>
    bif decide (s3.2 < (x1.length : Int)) then
     (qF (fun (s5 : ((List (List (Int × Int × Unit))) × Int)) =>
       bif decide (s5.2 < a1) then
        (idx s5.1 s3.2).bind fun x6 =>
        (qfk s3.2 s5.2).bind fun x7 =>
        (idx s5.1 s3.2).bind fun x8 =>
        (app x8 ([x7])).bind fun x9 =>
        (idx s5.1 s3.2).bind fun x10 =>
        bif decide (s3.2 = s3.2) then
         let l11 : (List (List (Int × Int × Unit))) := List.set s5.1 s3.2.toNat x9
         some (.inl (l11, w64 (s5.2 + 1)))
        else
         none
       else
        some (.inr s5.1)) (s3.1, 0)).bind fun (p12 : (List (List (Int × Int × Unit)))) =>
     some (.inl (p12, w64 (s3.2 + 1)))
    else
     some (.inr s3.1)) (x1, 0)).bind fun (p13 : (List (List (Int × Int × Unit)))) =>
  some p13
 else
  none
def qbc : Entry := ⟨85, [.ty I, .ty I, .fn 164 []], [((.sl (.sl gT)), 2)], fun x => qaG x.1 x.2.1⟩
def qfJ : TH := qa0 [([], 85, .block 0, { lv := [⟨none, 7, 0⟩], ps := [((.sl (.sl gT)), 2)], D := ⟨68719467392⟩ }),
 ([], 85, .loop 0, { lv := [⟨none, 7, 0⟩, ⟨none, 14, 0⟩], ps := [((.sl (.sl gT)), 2), (I, 0)], D := ⟨68719467392⟩ }),
 ([], 85, .block 2, { lv := [⟨none, 7, 0⟩], ps := [((.sl (.sl gT)), 2)], D := ⟨34359476864⟩ }),
 ([], 85, .loop 2, { lv := [⟨none, 7, 0⟩, ⟨none, 18, 0⟩], ps := [((.sl (.sl gT)), 2), (I, 0)], D := ⟨34359476864⟩ })] []
theorem qfR : KT qbc qfJ [qhd] 40 := fun x => by kernel_rfl
theorem qfM : OT qbc := entK (qh qrx qj) hJ qfR
def qj1 (a0 : Int) : Option (List (List (Int × Int × Unit))) :=
 (qaG a0 a0).bind fun x1 =>
 some x1
def qi1 : Entry := ⟨116, [.ty I], [((.sl (.sl gT)), 2)], fun x => qj1 x⟩
def quv : TH := qa0 [] []
theorem quZ : KT qi1 quv [qbc] 40 := fun x => by kernel_rfl
theorem qvm : OT qi1 := entK (qh qfM qj) hJ quZ
def qaZ (a0 : Int) (a1 : Int) (a2 : (List (List (Int × Int × Unit)))) (a3 : Int) : Option (Int × Int × Unit) :=
 (qaa a2 a0 a1).bind fun x1 =>
 (qac x1 (a3, 0, ())).bind fun x2 =>
 some x2
def qb1 : Entry := ⟨165, [.ty I, .ty I, .ptr (.sl (.sl gT)), .ptr I], [(gT, 0)], fun x => qaZ x.1 x.2.1 x.2.2.1 x.2.2.2⟩
def qhP : TH := qa0 [] []
theorem qh8 : KT qb1 qhP [qaO, q9] 40 := fun x => by kernel_rfl
theorem qhU : OT qb1 := entK (qh qbO (qh qaM qj)) hJ qh8
def qT (a0 : Int) (a1 : Int) (a2 : (List (List (Int × Int × Unit)))) (a3 : Int) : Option (List (List (Int × Int × Unit))) :=
 (mkS ([] : (List (Int × Int × Unit))) a0).bind fun x1 =>
 bif decide (a0 = a0) then
  (qF (fun (s3 : ((List (List (Int × Int × Unit))) × Int)) =>
    bif decide (s3.2 < (x1.length : Int)) then
     (qF (fun (s5 : ((List (List (Int × Int × Unit))) × Int)) =>
       bif decide (s5.2 < a1) then
        (idx s5.1 s3.2).bind fun x6 =>
        (qaZ s3.2 s5.2 a2 a3).bind fun x7 =>
        (idx s5.1 s3.2).bind fun x8 =>
        (app x8 ([x7])).bind fun x9 =>
        (idx s5.1 s3.2).bind fun x10 =>
        bif decide (s3.2 = s3.2) then
         let l11 : (List (List (Int × Int × Unit))) := List.set s5.1 s3.2.toNat x9
         some (.inl (l11, w64 (s5.2 + 1)))
        else
         none
       else
        some (.inr s5.1)) (s3.1, 0)).bind fun (p12 : (List (List (Int × Int × Unit)))) =>
     some (.inl (p12, w64 (s3.2 + 1)))
    else
     some (.inr s3.1)) (x1, 0)).bind fun (p13 : (List (List (Int × Int × Unit)))) =>
  some p13
 else
  none
def qah : Entry := ⟨85, [.ty I, .ty I, .fn 165 [.p (.sl (.sl gT)), .p I]], [((.sl (.sl gT)), 2)], fun x => qT x.1 x.2.1 x.2.2.1 x.2.2.2⟩
def qda : TH := qa0 [([], 85, .block 0, { lv := [⟨none, 7, 0⟩], ps := [((.sl (.sl gT)), 2)], D := ⟨68719467392⟩ }),
 ([], 85, .loop 0, { lv := [⟨none, 7, 0⟩, ⟨none, 14, 0⟩], ps := [((.sl (.sl gT)), 2), (I, 0)], D := ⟨68719467392⟩ }),
 ([], 85, .block 2, { lv := [⟨none, 7, 0⟩], ps := [((.sl (.sl gT)), 2)], D := ⟨34359476864⟩ }),
 ([], 85, .loop 2, { lv := [⟨none, 7, 0⟩, ⟨none, 18, 0⟩], ps := [((.sl (.sl gT)), 2), (I, 0)], D := ⟨34359476864⟩ })] []
theorem qc9 : KT qah qda [qb1] 40 := fun x => by kernel_rfl
theorem qc1 : OT qah := entK (qh qhU qj) hJ qc9
def qaN (a0 : (List (List (Int × Int × Unit)))) (a1 : Int) : Option (List (List (Int × Int × Unit))) :=
 (idx a0 0).bind fun x1 =>
 (qT (a0.length : Int) (x1.length : Int) a0 a1).bind fun x2 =>
 some x2
def qcH : Entry := ⟨117, [.ty (.sl (.sl gT)), .ty I], [((.sl (.sl gT)), 2)], fun x => qaN x.1 x.2⟩
def qi4 : TH := qa0 [] []
theorem qjm : KT qcH qi4 [qah] 40 := fun x => by kernel_rfl
theorem qiR : OT qcH := entK (qh qc1 qj) hJ qjm
def qcZ (a0 : (List (List (Int × Int × Unit)))) : Option (Int × Int) :=
 bif decide ((a0.length : Int) = 0) then
  some (0, 10)
 else
  bif decide ((a0.length : Int) > 3) then
   some (0, 8)
  else
   (qF (fun (s2 : Int) =>
     bif decide (s2 < (a0.length : Int)) then
      (idx a0 s2).bind fun x3 =>
      bif !(decide ((x3.length : Int) = (a0.length : Int))) then
       some (.inr (.inr (s2, 10)))
      else
       (qF (fun (s5 : Int) =>
         (idx a0 s2).bind fun x6 =>
         bif decide (s5 < (x6.length : Int)) then
          (idx a0 s2).bind fun x7 =>
          (idx x7 s5).bind fun x8 =>
          (qd8 x8 (20 : Int)).bind fun x9 =>
          bif !x9 then
           some (.inr (.inr (.inr (.inr (s2, 2)))))
          else
           some (.inl (w64 (s5 + 1)))
         else
          some (.inr (.inl ()))) 0).bind (Sum.elim (fun (p10 : Unit) =>
       some (.inl (w64 (s2 + 1)))) some)
     else
      some (.inr (.inl ()))) 0).bind (Sum.elim (fun (p11 : Unit) =>
   some (0, 0)) some)
def qdE : Entry := ⟨113, [.ty (.sl (.sl gT))], [(I, 0), (I, 0)], fun x => qcZ x⟩
def qk4 : TH := qa0 [([], 113, .block 0, { lv := [], ps := [], abn := true, D := ⟨70368744173616⟩ }),
 ([], 113, .loop 0, { lv := [⟨none, 4, 0⟩], ps := [(I, 0)], D := ⟨70368744173616⟩ }),
 ([], 113, .block 2, { lv := [], ps := [], abn := true, D := ⟨70368609959968⟩ }),
 ([], 113, .loop 2, { lv := [⟨none, 5, 0⟩], ps := [(I, 0)], D := ⟨70368609959968⟩ })] []
theorem qkT : KT qdE qk4 [qeq] 40 := fun x => by kernel_rfl
theorem qlb : OT qdE := entK (qh qja qj) hJ qkT
def qbK (a0 : (List (List (Int × Int × Unit)))) : Option Int :=
 (qcZ a0).bind fun x1 =>
 some x1.2
def qcU : Entry := ⟨33, [.ty (.sl (.sl gT))], [(I, 0)], fun x => qbK x⟩
def qmV : TH := qa0 [] []
theorem qmX : KT qcU qmV [qdE] 40 := fun x => by kernel_rfl
theorem qhD : OT qcU := entK (qh qlb qj) hJ qmX
def quH (a0 : Int) (a1 : Int) : Option (List (List (Int × Int × Unit))) :=
 (qF (fun (s3 : ((List (List (Int × Int × Unit))) × Int)) =>
   bif decide (s3.2 < a0) then
    (mkS (0, 0, ()) a0).bind fun x4 =>
    bif decide (a0 = a0) then
     (idx x4 s3.2).bind fun x5 =>
     (idx x4 s3.2).bind fun x6 =>
     let l7 : (List (Int × Int × Unit)) := List.set x4 s3.2.toNat (a1, 0, ())
     (app s3.1 ([l7])).bind fun x8 =>
     some (.inl (x8, w64 (s3.2 + 1)))
    else
     none
   else
    some (.inr s3.1)) ([], 0)).bind fun (p9 : (List (List (Int × Int × Unit)))) =>
 some p9
def qdy (a0 : (List (List (Int × Int × Unit)))) : Option Int :=
 (qbK a0).bind fun x1 =>
 bif !(decide (x1 = 0)) then
  some x1
 else
  (qbL a0).bind fun x2 =>
  let v3 : Bool := (bif decide (x2.1 = 0) then (bif decide (x2.2.1 = 0) then true else false) else false)
  bif v3 then
   some 11
  else
   some 0
def qd0 : Entry := ⟨63, [.ty (.sl (.sl gT))], [(I, 0)], fun x => qdy x⟩
def qlv : TH := qa0 [] []
theorem qlF : KT qd0 qlv [qgr, qcU] 40 := fun x => by kernel_rfl
theorem qlW : OT qd0 := entK (qh qlh (qh qhD qj)) hJ qlF
def qhk (a0 : (Int × Int × Unit)) : Option Int :=
 (qbk a0.1).bind fun x1 =>
 (qbk a0.2.1).bind fun x2 =>
 some (w64 (x1 + x2))
def qgB : Entry := ⟨121, [.ty gT], [(I, 0)], fun x => qhk x⟩
def qus : TH := qa0 [] []
theorem qvi : KT qgB qus [qeD] 40 := fun x => by kernel_rfl
theorem qnM : OT qgB := entK (qh qh2 qj) hJ qvi
def qfo (a0 : (List (List (Int × Int × Unit)))) : Option Int :=
 (qF (fun (s2 : (Int × Int)) =>
   bif decide (s2.2 < (a0.length : Int)) then
    (qF (fun (s4 : (Int × Int)) =>
      (idx a0 s2.2).bind fun x5 =>
      bif decide (s4.2 < (x5.length : Int)) then
       (idx a0 s2.2).bind fun x6 =>
       (idx x6 s4.2).bind fun x7 =>
       (qhk x7).bind fun x8 =>
       some (.inl (w64 (s4.1 + x8), w64 (s4.2 + 1)))
      else
       some (.inr s4.1)) (0, 0)).bind fun (p9 : Int) =>
    some (.inl (max s2.1 p9, w64 (s2.2 + 1)))
   else
    some (.inr s2.1)) (0, 0)).bind fun (p10 : Int) =>
 some p10
def qhc : Entry := ⟨50, [.ty (.sl (.sl gT))], [(I, 0)], fun x => qfo x⟩
def qrp : TH := qa0 [([], 50, .block 0, { lv := [⟨none, 3, 0⟩], ps := [(I, 0)], D := ⟨34359738360⟩ }),
 ([], 50, .loop 0, { lv := [⟨none, 3, 0⟩, ⟨none, 4, 0⟩], ps := [(I, 0), (I, 0)], D := ⟨34359738360⟩ }),
 ([], 50, .block 2, { lv := [⟨none, 5, 0⟩], ps := [(I, 0)], D := ⟨4294959200⟩ }),
 ([], 50, .loop 2, { lv := [⟨none, 5, 0⟩, ⟨none, 6, 0⟩], ps := [(I, 0), (I, 0)], D := ⟨4294959200⟩ })] []
theorem qrf : KT qhc qrp [qgB] 40 := fun x => by kernel_rfl
theorem qra : OT qhc := entK (qh qnM qj) hJ qrf
def qgI (a0 : ((List (List (Int × Int × Unit))) × (List (List (Int × Int × Unit))) × Int × Int × Int × Unit)) : Option Bool :=
 ((qjf a0.1).bind fun x1 =>
  bif x1 then
   (qjf a0.2.1).bind fun x2 =>
   some x2
  else
   some false).bind fun (p3 : Bool) =>
 some p3
def qg0 : Entry := ⟨19, [.ty (.pair (.sl (.sl gT)) (.pair (.sl (.sl gT)) (.pair I gT)))], [(.bool, 0)], fun x => qgI x⟩
def qrC : TH := qa0 [([], 19, .region 1, { lv := [⟨none, 2, 0⟩], ps := [(.bool, 0)], D := ⟨2044⟩, rs := [⟨0, 1⟩], Dn := ⟨1908⟩ })] []
theorem qq6 : KT qg0 qrC [qk2] 40 := fun x => by kernel_rfl
theorem qrt : OT qg0 := entK (qh qxp qj) hJ qq6
def qd9 (a0 : ((List (List (Int × Int × Unit))) × (List (List (Int × Int × Unit))) × Int × Int × Int × Unit)) : Option ((List (List (Int × Int × Unit))) × (List (List (Int × Int × Unit))) × Int × Int × Int × Unit) :=
 (qb9 a0.1).bind fun x1 =>
 (qb9 a0.2.1).bind fun x2 =>
 some (x1, x2, a0.2.2.1, a0.2.2.2.1, a0.2.2.2.2.1, ())
def qgg : Entry := ⟨21, [.ty (.pair (.sl (.sl gT)) (.pair (.sl (.sl gT)) (.pair I gT)))], [((.pair (.sl (.sl gT)) (.pair (.sl (.sl gT)) (.pair I gT))), 0)], fun x => qd9 x⟩
def qqQ : TH := qa0 [] []
theorem qo7 : KT qgg qqQ [qen] 40 := fun x => by kernel_rfl
theorem qpY : OT qgg := entK (qh qml qj) hJ qo7
def qb2 (a0 : ((List (List (Int × Int × Unit))) × (List (List (Int × Int × Unit))) × Int × Int × Int × Unit)) : Option (((List (List (Int × Int × Unit))) × (List (List (Int × Int × Unit))) × Int × Int × Int × Int × (List (List (Int × Int × Unit))) × Unit) × Int) :=
 (qbN a0.1).bind fun x1 =>
 (qbN a0.2.1).bind fun x2 =>
 (qo (decide ((a0.1.length : Int) = (a0.2.1.length : Int))) (13 : Int)).bind fun x3 =>
 (qO ([x1, x2, x3])).bind fun x4 =>
 bif !(decide (x4 = 0)) then
  some (([], [], 0, 0, 0, 0, [], ()), x4)
 else
  (qdO a0.2.1).bind fun x5 =>
  (bif decide (a0.2.2.2.1 > 0) then
    (qaq ([a0.2.2.1, a0.2.2.2.1])).bind fun x6 =>
    (qo (decide (x6 = 1)) (3 : Int)).bind fun x7 =>
    (qS a0.2.2.1 (0 : Int) a0.2.2.2.1).bind fun x8 =>
    bif x8 then
     (qo (decide (a0.2.2.2.1 <= 100)) (2 : Int)).bind fun x9 =>
     (qS a0.2.2.2.2.1 (0 : Int) (1000 : Int)).bind fun x10 =>
     (qo x10 (2 : Int)).bind fun x11 =>
     (qO ([x5.2, x7, x9, x11])).bind fun x12 =>
     some x12
    else
     (qo false (2 : Int)).bind fun x13 =>
     (qS a0.2.2.2.2.1 (0 : Int) (1000 : Int)).bind fun x14 =>
     (qo x14 (2 : Int)).bind fun x15 =>
     (qO ([x5.2, x7, x13, x15])).bind fun x16 =>
     some x16
   else
    (qo false (3 : Int)).bind fun x17 =>
    (qS a0.2.2.1 (0 : Int) a0.2.2.2.1).bind fun x18 =>
    bif x18 then
     (qo (decide (a0.2.2.2.1 <= 100)) (2 : Int)).bind fun x19 =>
     (qS a0.2.2.2.2.1 (0 : Int) (1000 : Int)).bind fun x20 =>
     (qo x20 (2 : Int)).bind fun x21 =>
     (qO ([x5.2, x17, x19, x21])).bind fun x22 =>
     some x22
    else
     (qo false (2 : Int)).bind fun x23 =>
     (qS a0.2.2.2.2.1 (0 : Int) (1000 : Int)).bind fun x24 =>
     (qo x24 (2 : Int)).bind fun x25 =>
     (qO ([x5.2, x17, x23, x25])).bind fun x26 =>
     some x26).bind fun (p27 : Int) =>
  some ((a0.1, a0.2.1, a0.2.2.1, a0.2.2.2.1, a0.2.2.2.2.1, x5.1.1, x5.1.2.1, ()), p27)
def qem : Entry := ⟨111, [.ty (.pair (.sl (.sl gT)) (.pair (.sl (.sl gT)) (.pair I gT)))], [((.pair (.sl (.sl gT)) (.pair (.sl (.sl gT)) (.pair I (.pair I (.pair I (.pair I (.pair (.sl (.sl gT)) .unit))))))), 2000), (I, 0)], fun x => qb2 x⟩
def qpj : TH := qa0 [([], 111, .region 6, { lv := [⟨none, 6, 0⟩], ps := [(I, 0)], D := ⟨147573952520956936256⟩, rs := [⟨0, 1⟩, ⟨0, 7⟩], Dn := ⟨145190411285615870016⟩ })] []
theorem qpe : KT qem qpj [qeO, qcE, qbU, qcQ, qcf, qdj] 40 := fun x => by kernel_rfl
theorem qjb : OT qem := entK (qh qmN (qh qgq (qh qd2 (qh qhj (qh qeW (qh qg7 qj)))))) hJ qpe
def qaY (a0 : Int) (a1 : Int) (a2 : (List (List (Int × Int × Unit)))) (a3 : (List (List (Int × Int × Unit)))) : Option (Int × Int × Unit) :=
 (qaa a2 a0 a1).bind fun x1 =>
 (qaa a3 a0 a1).bind fun x2 =>
 (qX x1 x2).bind fun x3 =>
 some x3
def qbS : Entry := ⟨118, [.ty I, .ty I, .ptr (.sl (.sl gT)), .ptr (.sl (.sl gT))], [(gT, 0)], fun x => qaY x.1 x.2.1 x.2.2.1 x.2.2.2⟩
def qh9 : TH := qa0 [] []
theorem qil : KT qbS qh9 [qaO, qaL] 40 := fun x => by kernel_rfl
theorem qia : OT qbS := entK (qh qbO (qh qb5 qj)) hJ qil
def qU (a0 : Int) (a1 : Int) (a2 : (List (List (Int × Int × Unit)))) (a3 : (List (List (Int × Int × Unit)))) : Option (List (List (Int × Int × Unit))) :=
 (mkS ([] : (List (Int × Int × Unit))) a0).bind fun x1 =>
 bif decide (a0 = a0) then
  (qF (fun (s3 : ((List (List (Int × Int × Unit))) × Int)) =>
    bif decide (s3.2 < (x1.length : Int)) then
     (qF (fun (s5 : ((List (List (Int × Int × Unit))) × Int)) =>
       bif decide (s5.2 < a1) then
        (idx s5.1 s3.2).bind fun x6 =>
        (qaY s3.2 s5.2 a2 a3).bind fun x7 =>
        (idx s5.1 s3.2).bind fun x8 =>
        (app x8 ([x7])).bind fun x9 =>
        (idx s5.1 s3.2).bind fun x10 =>
        bif decide (s3.2 = s3.2) then
         let l11 : (List (List (Int × Int × Unit))) := List.set s5.1 s3.2.toNat x9
         some (.inl (l11, w64 (s5.2 + 1)))
        else
         none
       else
        some (.inr s5.1)) (s3.1, 0)).bind fun (p12 : (List (List (Int × Int × Unit)))) =>
     some (.inl (p12, w64 (s3.2 + 1)))
    else
     some (.inr s3.1)) (x1, 0)).bind fun (p13 : (List (List (Int × Int × Unit)))) =>
  some p13
 else
  none
def qai : Entry := ⟨85, [.ty I, .ty I, .fn 118 [.p (.sl (.sl gT)), .p (.sl (.sl gT))]], [((.sl (.sl gT)), 2)], fun x => qU x.1 x.2.1 x.2.2.1 x.2.2.2⟩
def qc7 : TH := qa0 [([], 85, .block 0, { lv := [⟨none, 7, 0⟩], ps := [((.sl (.sl gT)), 2)], D := ⟨68719467392⟩ }),
 ([], 85, .loop 0, { lv := [⟨none, 7, 0⟩, ⟨none, 14, 0⟩], ps := [((.sl (.sl gT)), 2), (I, 0)], D := ⟨68719467392⟩ }),
 ([], 85, .block 2, { lv := [⟨none, 7, 0⟩], ps := [((.sl (.sl gT)), 2)], D := ⟨34359476864⟩ }),
 ([], 85, .loop 2, { lv := [⟨none, 7, 0⟩, ⟨none, 18, 0⟩], ps := [((.sl (.sl gT)), 2), (I, 0)], D := ⟨34359476864⟩ })] []
theorem qdb : KT qai qc7 [qbS] 40 := fun x => by kernel_rfl
theorem qc3 : OT qai := entK (qh qia qj) hJ qdb
def qb0 (a0 : ((List (List (Int × Int × Unit))) × (List (List (Int × Int × Unit))) × Int × Int × Int × Unit)) : Option ((Int × Int × Unit) × Int) :=
 (qb2 a0).bind fun x1 =>
 bif !(decide (x1.2 = 0)) then
  some ((0, 0, ()), x1.2)
 else
  (qj1 (a0.1.length : Int)).bind fun x2 =>
  (qaN x2 (w64 (x1.1.2.2.2.1 * x1.1.2.2.2.2.2.1))).bind fun x3 =>
  (qco a0.1 x1.1.2.2.2.2.2.2.1).bind fun x4 =>
  (qaN x4 x1.1.2.2.1).bind fun x5 =>
  (qU (x3.length : Int) (x3.length : Int) x3 x5).bind fun x6 =>
  (qbY x6).bind fun x7 =>
  (qhT x7 (w64 (x1.1.2.2.2.1 * x1.1.2.2.2.2.2.1))).bind fun x8 =>
  some (x8.1, x8.2)
def qcI : Entry := ⟨38, [.ty (.pair (.sl (.sl gT)) (.pair (.sl (.sl gT)) (.pair I gT)))], [(gT, 0), (I, 0)], fun x => qb0 x⟩
def qjv : TH := qa0 [] []
theorem qiU : KT qcI qjv [qai, qcC, qcH, qc8, qem, qic, qi1] 40 := fun x => by kernel_rfl
theorem qju : OT qcI := entK (qh qc3 (qh qjB (qh qiR (qh qkh (qh qjb (qh qtk (qh qvm qj))))))) hJ qiU
def qfL (a0 : (Int × Int × Unit)) : Option Bool :=
 (bif decide (a0.2.1 > 0) then
   (qoC a0.1 a0.2.1).bind fun x1 =>
   some (decide (x1 = 1))
  else
   some false).bind fun (p2 : Bool) =>
 some p2
def qgm : Entry := ⟨112, [.ty gT], [(.bool, 0)], fun x => qfL x⟩
def qpH : TH := qa0 [([], 112, .region 1, { lv := [⟨none, 2, 0⟩], ps := [(.bool, 0)], D := ⟨16380⟩, rs := [⟨0, 1⟩], Dn := ⟨15732⟩ })] []
theorem qqH : KT qgm qpH [qmS] 40 := fun x => by kernel_rfl
theorem qqy : OT qgm := entK (qh qzE qj) hJ qqH
def qgP (a0 : ((List (List (Int × Int × Unit))) × (List (List (Int × Int × Unit))) × Int × Int × Int × Unit)) : Option Int :=
 (qbK a0.1).bind fun x1 =>
 bif !(decide (x1 = 0)) then
  some x1
 else
  (qbK a0.2.1).bind fun x2 =>
  bif !(decide (x2 = 0)) then
   some x2
  else
   bif !(decide ((a0.2.1.length : Int) = (a0.1.length : Int))) then
    some 13
   else
    (qdy a0.2.1).bind fun x3 =>
    bif !(decide (x3 = 0)) then
     some x3
    else
     (qfL (a0.2.2.1, a0.2.2.2.1, ())).bind fun x4 =>
     bif !x4 then
      some 3
     else
      ((qa6 a0.2.2.1 (0 : Int) a0.2.2.2.1).bind fun x5 =>
       bif !x5 then
        some true
       else
        bif decide (a0.2.2.2.1 > 100) then
         some true
        else
         (qa6 a0.2.2.2.2.1 (0 : Int) (1000 : Int)).bind fun x6 =>
         some (!x6)).bind fun (p7 : Bool) =>
      bif p7 then
       some 2
      else
       some 0
def qhb : Entry := ⟨32, [.ty (.pair (.sl (.sl gT)) (.pair (.sl (.sl gT)) (.pair I gT)))], [(I, 0)], fun x => qgP x⟩
def qq9 : TH := qa0 [([], 32, .region 14, { lv := [⟨none, 54, 0⟩], ps := [(.bool, 0)], D := ⟨36028762659225600⟩, rs := [⟨0, 1⟩], Dn := ⟨34849158481313792⟩ })] []
theorem qq7 : KT qhb qq9 [qgm, qdV, qd0, qcU] 40 := fun x => by kernel_rfl
theorem qrL : OT qhb := entK (qh qqy (qh qip (qh qlW (qh qhD qj)))) hJ qq7
def qd7 (a0 : (Int × Int × Unit)) : Option Bool :=
 (qbi a0 (10000 : Int)).bind fun x1 =>
 some (!x1)
def qeN : Entry := ⟨160, [.ty gT], [(.bool, 0)], fun x => qd7 x⟩
def qmG : TH := qa0 [] []
theorem qmx : KT qeN qmG [qbs] 40 := fun x => by kernel_rfl
theorem qmJ : OT qeN := entK (qh qe9 qj) hJ qmx
def qz (a0 : (List (Int × Int × Unit))) : Option Int :=
 (qF (fun (s2 : Int) =>
   bif decide (s2 < (a0.length : Int)) then
    (idx a0 s2).bind fun x3 =>
    (qd7 x3).bind fun x4 =>
    bif x4 then
     some (.inr (.inr s2))
    else
     some (.inl (w64 (s2 + 1)))
   else
    some (.inr (.inl ()))) 0).bind (Sum.elim (fun (p5 : Unit) =>
 some (-1)) some)
def qx : Entry := ⟨183, [.ty (.sl gT), .fn 160 []], [(I, 0)], fun x => qz x.1⟩
def qaW : TH := qa0 [([], 183, .block 0, { lv := [], ps := [], abn := true, D := ⟨524064⟩ }),
 ([], 183, .loop 0, { lv := [⟨none, 8, 0⟩], ps := [(I, 0)], D := ⟨524064⟩ })] []
theorem qaV : KT qx qaW [qeN] 40 := fun x => by kernel_rfl
theorem qaU : OT qx := entK (qh qmJ qj) hJ qaV
def qn (a0 : (List (Int × Int × Unit))) : Option Bool :=
 (qz a0).bind fun x1 =>
 some (decide (x1 >= 0))
def qt : Entry := ⟨145, [.ty (.sl gT), .fn 160 []], [(.bool, 0)], fun x => qn x.1⟩
def qaC : TH := qa0 [] []
theorem qaD : KT qt qaC [qx] 40 := fun x => by kernel_rfl
theorem qaF : OT qt := entK (qh qaU qj) hJ qaD
def qcN (a0 : (List (Int × Int × Unit))) (a1 : Int) : Option Int :=
 (qn a0).bind fun x1 =>
 (qo (decide ((a0.length : Int) = a1)) (10 : Int)).bind fun x2 =>
 (qo (!x1) (2 : Int)).bind fun x3 =>
 (qO ([x2, x3])).bind fun x4 =>
 some x4
def qeg : Entry := ⟨109, [.ty (.sl gT), .ty I], [(I, 0)], fun x => qcN x.1 x.2⟩
def qpt : TH := qa0 [] []
theorem qpL : KT qeg qpt [qbU, qcf, qt] 40 := fun x => by kernel_rfl
theorem qjA : OT qeg := entK (qh qd2 (qh qeW (qh qaF qj))) hJ qpL
def qdh (a0 : (List (List (Int × Int × Unit)))) (a1 : (List (Int × Int × Unit))) : Option (List (Int × Int × Unit)) :=
 (qF (fun (s3 : ((List (Int × Int × Unit)) × Int)) =>
   bif decide (s3.2 < (a0.length : Int)) then
    (idx a0 s3.2).bind fun x4 =>
    (qF (fun (s6 : ((Int × Int) × Int)) =>
      bif decide (s6.2 < (x4.length : Int)) then
       (idx x4 s6.2).bind fun x7 =>
       (flo x7.1).bind fun x8 =>
       (flo x7.2.1).bind fun x9 =>
       (idx a1 s6.2).bind fun x10 =>
       (flo x10.1).bind fun x11 =>
       (idx a1 s6.2).bind fun x12 =>
       (flo x12.2.1).bind fun x13 =>
       (flo (x8 * x11)).bind fun x14 =>
       (flo (x9 * x13)).bind fun x15 =>
       (flo (x14 - x15)).bind fun x16 =>
       (flo (x8 * x13)).bind fun x17 =>
       (flo (x9 * x11)).bind fun x18 =>
       (flo (x17 + x18)).bind fun x19 =>
       (flo (s6.1.1 + x16)).bind fun x20 =>
       (flo (s6.1.2 + x19)).bind fun x21 =>
       some (.inl ((x20, x21), w64 (s6.2 + 1)))
      else
       some (.inr s6.1)) ((0, 0), 0)).bind fun (p22 : (Int × Int)) =>
    (flo p22.1).bind fun x23 =>
    (flo p22.2).bind fun x24 =>
    (app s3.1 ([(x23, x24, ())])).bind fun x25 =>
    some (.inl (x25, w64 (s3.2 + 1)))
   else
    some (.inr s3.1)) ([], 0)).bind fun (p26 : (List (Int × Int × Unit))) =>
 some p26
def qfq : Entry := ⟨99, [.ty (.sl (.sl gT)), .ty (.sl gT)], [((.sl gT), 1)], fun x => qdh x.1 x.2⟩
def qn9 : TH := qa0 [([], 99, .block 0, { lv := [⟨none, 5, 0⟩], ps := [((.sl gT), 1)], D := ⟨576460752303417248⟩, wr := [⟨0, 10⟩] }),
 ([], 99, .loop 0, { lv := [⟨none, 5, 0⟩, ⟨none, 13, 0⟩], ps := [((.sl gT), 1), (I, 0)], D := ⟨576460752303417248⟩, wr := [⟨0, 10⟩] }),
 ([], 99, .block 2, { lv := [⟨none, 8, 0⟩], ps := [(.cx, 0)], D := ⟨281474976188288⟩, wr := [⟨0, 10⟩] }),
 ([], 99, .loop 2, { lv := [⟨none, 8, 0⟩, ⟨none, 19, 0⟩], ps := [(.cx, 0), (I, 0)], D := ⟨281474976188288⟩, wr := [⟨0, 10⟩], rs := [⟨0, 10⟩], Dn := ⟨281474674197376⟩ })] []
theorem qoj : KT qfq qn9 [] 40 := fun x => by kernel_rfl
theorem qod : OT qfq := entK qj hJ qoj
def qca (a0 : ((List (List (Int × Int × Unit))) × (List (List (Int × Int × Unit))) × Int × Int × Int × Unit)) (a1 : (List (Int × Int × Unit))) (a2 : (List (Int × Int × Unit))) : Option (((List (List (Int × Int × Unit))) × (List (List (Int × Int × Unit))) × Int × Int × Int × Int × (List (List (Int × Int × Unit))) × Unit) × Int) :=
 (qb2 a0).bind fun x1 =>
 (qcN a1 (a0.1.length : Int)).bind fun x2 =>
 (qcN a2 (a0.1.length : Int)).bind fun x3 =>
 (qO ([x1.2, x2, x3])).bind fun x4 =>
 some (x1.1, x4)
def qee : Entry := ⟨97, [.ty (.pair (.sl (.sl gT)) (.pair (.sl (.sl gT)) (.pair I gT))), .ty (.sl gT), .ty (.sl gT)], [((.pair (.sl (.sl gT)) (.pair (.sl (.sl gT)) (.pair I (.pair I (.pair I (.pair I (.pair (.sl (.sl gT)) .unit))))))), 0), (I, 0)], fun x => qca x.1 x.2.1 x.2.2⟩
def qlQ : TH := qa0 [] []
theorem qlY : KT qee qlQ [qbU, qeg, qem] 40 := fun x => by kernel_rfl
theorem qlI : OT qee := entK (qh qd2 (qh qjA (qh qjb qj))) hJ qlY
def qe6 (n : Nat) : Int -> Int -> Option Int :=
 Nat.rec (motive := fun _ => Int -> Int -> Option Int) (fun _ _ => none) (fun _ ih a0 a1 =>
 bif decide (a0 < 0) then
  (ih (w64 (0 - a0)) a1).bind fun x1 =>
  some (w64 (0 - x1))
 else
  bif decide (a1 = 0) then
   none
  else
   bif decide (a1 = 0) then
    none
   else
    (bif decide (a0.tmod a1 > w64 (a1 - (a0.tmod a1))) then
      some (w64 ((w64 (a0.tdiv a1)) + 1))
     else
      some (w64 (a0.tdiv a1))).bind fun (p2 : Int) =>
    some p2) n
def qjZ : Int -> Int -> Option Int := qe6 12
def qnW : Entry := ⟨162, [.ty I, .ty I], [(I, 0)], fun x => qjZ x.1 x.2⟩
def qv7 : TH := qa0 [([], 162, .cond 24, { lv := [⟨none, 5, 0⟩], ps := [(I, 0)], D := ⟨100663328⟩ })] []
def qch (n : Nat) : Entry := ⟨162, [.ty I, .ty I], [(I, 0)], fun x => qe6 n x.1 x.2⟩
theorem qu5 (n : Nat) (x : denP (qch (n + 1)).ps) : fnT Tryz.prog Hn.hints qv7 (qyu [(qch n)]) 40 162 (qkQ (qch (n + 1)).ps x) (qch (n + 1)).rs = (qch (n + 1)).F x := by kernel_rfl
theorem qkA : ∀ n, qeb Tryz.prog Hn.hints Lb (qch n)
 | 0 => fun x y h => by cases (show none = some y from h)
 | n + 1 => qoD (qh (qkA n) qj) hJ 40 _ _ _ _ (qu5 n)
theorem qvk : qeb Tryz.prog Hn.hints Lb qnW := qkA 12
def qaJ (a0 : Int) (a1 : ((List (List (Int × Int × Unit))) × (List (List (Int × Int × Unit))) × Int × Int × Int × Int × (List (List (Int × Int × Unit))) × Unit)) : Option Int :=
 (qjZ (w64 (a0 * a1.2.2.1)) (w64 (a1.2.2.2.2.2.1 * a1.2.2.2.1))).bind fun x1 =>
 some (min (max x1 (w64 (0 - a1.2.2.2.2.1))) a1.2.2.2.2.1)
def qbH : Entry := ⟨161, [.ty I, .ptr (.pair (.sl (.sl gT)) (.pair (.sl (.sl gT)) (.pair I (.pair I (.pair I (.pair I (.pair (.sl (.sl gT)) .unit)))))))], [(I, 0)], fun x => qaJ x.1 x.2⟩
def qhz : TH := qa0 [] []
theorem qhl : KT qbH qhz [qnW] 40 := fun x => by kernel_rfl
theorem qhr : OT qbH := entK (qh qvk qj) hJ qhl
def qbC (a0 : ((List (List (Int × Int × Unit))) × (List (List (Int × Int × Unit))) × Int × Int × Int × Int × (List (List (Int × Int × Unit))) × Unit)) (a1 : (List (Int × Int × Unit))) (a2 : (List (Int × Int × Unit))) : Option (List (Int × Int × Unit)) :=
 (qdh a0.1 a2).bind fun x1 =>
 (qF (fun (s3 : ((List (Int × Int × Unit)) × Int)) =>
   bif decide (s3.2 < (a1.length : Int)) then
    (idx a1 s3.2).bind fun x4 =>
    (idx s3.1 s3.2).bind fun x5 =>
    (qX x4 x5).bind fun x6 =>
    (idx s3.1 s3.2).bind fun x7 =>
    (idx s3.1 s3.2).bind fun x8 =>
    let l9 : (List (Int × Int × Unit)) := List.set s3.1 s3.2.toNat x6
    some (.inl (l9, w64 (s3.2 + 1)))
   else
    some (.inr s3.1)) (x1, 0)).bind fun (p10 : (List (Int × Int × Unit))) =>
 (qF (fun (s13 : ((List (Int × Int × Unit)) × Int)) =>
   bif decide (s13.2 < (a0.2.2.2.2.2.2.1.length : Int)) then
    (idx a0.2.2.2.2.2.2.1 s13.2).bind fun x14 =>
    (qF (fun (s16 : (Int × Int × Int)) =>
      bif decide (s16.1 < (x14.length : Int)) then
       (idx x14 s16.1).bind fun x17 =>
       (idx p10 s16.1).bind fun x18 =>
       (qac x17 x18).bind fun x19 =>
       (qa5 (s16.2.1, s16.2.2, ()) x19).bind fun x20 =>
       some (.inl (w64 (s16.1 + 1), x20.1, x20.2.1))
      else
       some (.inr (s16.2.1, s16.2.2))) (0, 0, 0)).bind fun (p21 : (Int × Int)) =>
    (qaJ p21.1 a0).bind fun x22 =>
    (qaJ p21.2 a0).bind fun x23 =>
    (app s13.1 ([(x22, x23, ())])).bind fun x24 =>
    some (.inl (x24, w64 (s13.2 + 1)))
   else
    some (.inr s13.1)) ([], 0)).bind fun (p25 : (List (Int × Int × Unit))) =>
 some p25
def qcm : Entry := ⟨110, [.ty (.pair (.sl (.sl gT)) (.pair (.sl (.sl gT)) (.pair I (.pair I (.pair I (.pair I (.pair (.sl (.sl gT)) .unit))))))), .ty (.sl gT), .ty (.sl gT)], [((.sl gT), 1)], fun x => qbC x.1 x.2.1 x.2.2⟩
def qiJ : TH := qa0 [([], 110, .block 0, { lv := [⟨none, 7, 0⟩], ps := [((.sl gT), 1)], D := ⟨549741225856⟩, wr := [⟨0, 9⟩] }),
 ([], 110, .loop 0, { lv := [⟨none, 7, 0⟩, ⟨none, 24, 0⟩], ps := [((.sl gT), 1), (I, 0)], D := ⟨549741225856⟩, wr := [⟨0, 9⟩], rs := [⟨0, 9⟩], Dn := ⟨549741225344⟩ }),
 ([], 110, .block 2, { lv := [⟨none, 10, 0⟩], ps := [((.sl gT), 1)], D := ⟨151115727434236460918272⟩, wr := [⟨0, 9⟩, ⟨0, 14⟩, ⟨0, 16⟩] }),
 ([], 110, .loop 2, { lv := [⟨none, 10, 0⟩, ⟨none, 44, 0⟩], ps := [((.sl gT), 1), (I, 0)], D := ⟨151115727434236460918272⟩, wr := [⟨0, 9⟩, ⟨0, 14⟩, ⟨0, 16⟩], rs := [⟨0, 3⟩, ⟨0, 14⟩], Dn := ⟨149234159538718086637056⟩ }),
 ([], 110, .block 4, { lv := [⟨some 0, 14, 0⟩, ⟨some 0, 14, 1⟩], ps := [(I, 0), (I, 0)], D := ⟨18445618173802816000⟩, wr := [⟨0, 14⟩, ⟨0, 16⟩] }),
 ([], 110, .loop 4, { lv := [⟨none, 50, 0⟩, ⟨some 0, 14, 0⟩, ⟨some 0, 14, 1⟩], ps := [(I, 0), (I, 0), (I, 0)], D := ⟨18445618173802816000⟩, wr := [⟨0, 14⟩, ⟨0, 16⟩], rs := [⟨0, 16⟩], Dn := ⟨18445618173802750464⟩ })] []
theorem qiK : KT qcm qiJ [qfq, qbH, qaL, qa2, q9] 40 := fun x => by kernel_rfl
theorem qiE : OT qcm := entK (qh qod (qh qhr (qh qb5 (qh qcv (qh qaM qj))))) hJ qiK
def qbv (a0 : (List (Int × Int × Unit))) (a1 : Int) : Option Int :=
 bif !(decide ((a0.length : Int) = a1)) then
  some 10
 else
  (qF (fun (s2 : Int) =>
    bif decide (s2 < (a0.length : Int)) then
     (idx a0 s2).bind fun x3 =>
     (qd8 x3 (10000 : Int)).bind fun x4 =>
     bif !x4 then
      some (.inr (.inr 2))
     else
      some (.inl (w64 (s2 + 1)))
    else
     some (.inr (.inl ()))) 0).bind (Sum.elim (fun (p5 : Unit) =>
  some 0) some)
def qeh : Entry := ⟨34, [.ty (.sl gT), .ty I], [(I, 0)], fun x => qbv x.1 x.2⟩
def qpB : TH := qa0 [([], 34, .block 0, { lv := [], ps := [], abn := true, D := ⟨4193312⟩ }),
 ([], 34, .loop 0, { lv := [⟨none, 5, 0⟩], ps := [(I, 0)], D := ⟨4193312⟩ })] []
theorem qqE : KT qeh qpB [qeq] 40 := fun x => by kernel_rfl
theorem qjy : OT qeh := entK (qh qja qj) hJ qqE
def qeX (a0 : (List (List (Int × Int × Unit)))) (a1 : (List (Int × Int × Unit))) : Option (List (Int × Int × Unit)) :=
 (qF (fun (s3 : ((List (Int × Int × Unit)) × Int)) =>
   bif decide (s3.2 < (a0.length : Int)) then
    (qF (fun (s5 : (Int × Int × Int)) =>
      bif decide (s5.1 < (a1.length : Int)) then
       (idx a0 s3.2).bind fun x6 =>
       (idx x6 s5.1).bind fun x7 =>
       (idx a1 s5.1).bind fun x8 =>
       (qjo x7 x8).bind fun x9 =>
       (qiV (s5.2.1, s5.2.2, ()) x9).bind fun x10 =>
       some (.inl (w64 (s5.1 + 1), x10.1, x10.2.1))
      else
       some (.inr (s5.2.1, s5.2.2))) (0, 0, 0)).bind fun (p11 : (Int × Int)) =>
    (app s3.1 ([(p11.1, p11.2, ())])).bind fun x12 =>
    some (.inl (x12, w64 (s3.2 + 1)))
   else
    some (.inr s3.1)) ([], 0)).bind fun (p13 : (List (Int × Int × Unit))) =>
 some p13
def qfv : Entry := ⟨36, [.ty (.sl (.sl gT)), .ty (.sl gT)], [((.sl gT), 1)], fun x => qeX x.1 x.2⟩
def qon : TH := qa0 [([], 36, .block 0, { lv := [⟨none, 5, 0⟩], ps := [((.sl gT), 1)], D := ⟨549755813856⟩, wr := [⟨0, 7⟩] }),
 ([], 36, .loop 0, { lv := [⟨none, 5, 0⟩, ⟨none, 6, 0⟩], ps := [((.sl gT), 1), (I, 0)], D := ⟨549755813856⟩, wr := [⟨0, 7⟩], rs := [⟨0, 7⟩], Dn := ⟨549755813728⟩ }),
 ([], 36, .block 2, { lv := [⟨some 0, 7, 0⟩, ⟨some 0, 7, 1⟩], ps := [(I, 0), (I, 0)], D := ⟨34359705856⟩, wr := [⟨0, 7⟩] }),
 ([], 36, .loop 2, { lv := [⟨none, 8, 0⟩, ⟨some 0, 7, 0⟩, ⟨some 0, 7, 1⟩], ps := [(I, 0), (I, 0), (I, 0)], D := ⟨34359705856⟩, wr := [⟨0, 7⟩] })] []
theorem qn2 : KT qfv qon [qii, qhZ] 40 := fun x => by kernel_rfl
theorem qn7 : OT qfv := entK (qh qo9 (qh qqN qj)) hJ qn2
def qeZ (a0 : ((List (List (Int × Int × Unit))) × (List (List (Int × Int × Unit))) × Int × Int × Int × Unit)) (a1 : (List (Int × Int × Unit))) (a2 : (List (Int × Int × Unit))) : Option Int :=
 (qgP a0).bind fun x1 =>
 bif !(decide (x1 = 0)) then
  some x1
 else
  (qbv a1 (a0.1.length : Int)).bind fun x2 =>
  bif !(decide (x2 = 0)) then
   some x2
  else
   (qbv a2 (a0.1.length : Int)).bind fun x3 =>
   some x3
def qft : Entry := ⟨24, [.ty (.pair (.sl (.sl gT)) (.pair (.sl (.sl gT)) (.pair I gT))), .ty (.sl gT), .ty (.sl gT)], [(I, 0)], fun x => qeZ x.1 x.2.1 x.2.2⟩
def qom : TH := qa0 [] []
theorem qn6 : KT qft qom [qeh, qhb] 40 := fun x => by kernel_rfl
theorem qop : OT qft := entK (qh qjy (qh qrL qj)) hJ qn6
def qhi (a0 : ((List (List (Int × Int × Unit))) × (List (List (Int × Int × Unit))) × Int × Int × Int × Unit)) (a1 : (List (Int × Int × Unit))) (a2 : (List (Int × Int × Unit))) : Option (List (Int × Int × Unit)) :=
 (qeX a0.1 a2).bind fun x1 =>
 (qF (fun (s4 : ((List (Int × Int × Unit)) × Int)) =>
   bif decide (s4.2 < (a1.length : Int)) then
    (idx a1 s4.2).bind fun x5 =>
    (idx x1 s4.2).bind fun x6 =>
    (qgd x5 x6).bind fun x7 =>
    (app s4.1 ([x7])).bind fun x8 =>
    some (.inl (x8, w64 (s4.2 + 1)))
   else
    some (.inr s4.1)) ([], 0)).bind fun (p9 : (List (Int × Int × Unit))) =>
 some p9
def qiS : Entry := ⟨44, [.ty (.pair (.sl (.sl gT)) (.pair (.sl (.sl gT)) (.pair I gT))), .ty (.sl gT), .ty (.sl gT)], [((.sl gT), 1)], fun x => qhi x.1 x.2.1 x.2.2⟩
def qvA : TH := qa0 [([], 44, .block 0, { lv := [⟨none, 8, 0⟩], ps := [((.sl gT), 1)], D := ⟨4294951680⟩ }),
 ([], 44, .loop 0, { lv := [⟨none, 8, 0⟩, ⟨none, 9, 0⟩], ps := [((.sl gT), 1), (I, 0)], D := ⟨4294951680⟩ })] []
theorem qvB : KT qiS qvA [qgp, qfv] 40 := fun x => by kernel_rfl
theorem qvb : OT qiS := entK (qh qkY (qh qn7 qj)) hJ qvB
def qbE (a0 : ((List (List (Int × Int × Unit))) × (List (List (Int × Int × Unit))) × Int × Int × Int × Int × (List (List (Int × Int × Unit))) × Unit)) (a1 : (List (Int × Int × Unit))) (a2 : (List (Int × Int × Unit))) : Option ((List (Int × Int × Unit)) × Int) :=
 (qbC a0 a1 a2).bind fun x1 =>
 (qF (fun (s3 : ((List (Int × Int × Unit)) × Int)) =>
   bif decide (s3.2 < (a2.length : Int)) then
    (idx a2 s3.2).bind fun x4 =>
    (idx s3.1 s3.2).bind fun x5 =>
    (qa5 x5 x4).bind fun x6 =>
    (idx s3.1 s3.2).bind fun x7 =>
    (idx s3.1 s3.2).bind fun x8 =>
    let l9 : (List (Int × Int × Unit)) := List.set s3.1 s3.2.toNat x6
    some (.inl (l9, w64 (s3.2 + 1)))
   else
    some (.inr s3.1)) (x1, 0)).bind fun (p10 : (List (Int × Int × Unit))) =>
 (qcN p10 (p10.length : Int)).bind fun x11 =>
 bif !(decide (x11 = 0)) then
  some ([], 22)
 else
  some (p10, 0)
def qeI : Entry := ⟨98, [.ty (.pair (.sl (.sl gT)) (.pair (.sl (.sl gT)) (.pair I (.pair I (.pair I (.pair I (.pair (.sl (.sl gT)) .unit))))))), .ty (.sl gT), .ty (.sl gT)], [((.sl gT), 1), (I, 0)], fun x => qbE x.1 x.2.1 x.2.2⟩
def qm6 : TH := qa0 [([], 98, .block 0, { lv := [⟨none, 8, 0⟩], ps := [((.sl gT), 1)], D := ⟨4294854400⟩, wr := [⟨0, 10⟩] }),
 ([], 98, .loop 0, { lv := [⟨none, 8, 0⟩, ⟨none, 17, 0⟩], ps := [((.sl gT), 1), (I, 0)], D := ⟨4294854400⟩, wr := [⟨0, 10⟩], rs := [⟨0, 10⟩], Dn := ⟨4294853376⟩ })] []
theorem qmP : KT qeI qm6 [qeg, qcm, qa2] 40 := fun x => by kernel_rfl
theorem qm8 : OT qeI := entK (qh qjA (qh qiE (qh qcv qj))) hJ qmP
def qeV (a0 : ((List (List (Int × Int × Unit))) × (List (List (Int × Int × Unit))) × Int × Int × Int × Unit)) (a1 : (List (Int × Int × Unit))) (a2 : (List (Int × Int × Unit))) (a3 : Int) : Option ((List (List (Int × Int × Unit))) × Int) :=
 (qca (a0.1, a0.2.1, a0.2.2.1, a0.2.2.2.1, a0.2.2.2.2.1, ()) a1 a2).bind fun x1 =>
 (qS a3 (0 : Int) (20 : Int)).bind fun x2 =>
 (qo x2 (2 : Int)).bind fun x3 =>
 (qO ([x1.2, x3])).bind fun x4 =>
 bif !(decide (x4 = 0)) then
  some ([], x4)
 else
  (qF (fun (s7 : ((List (Int × Int × Unit)) × (List (List (Int × Int × Unit))) × Int)) =>
    bif decide (s7.2.2 < a3) then
     (qbE x1.1 a1 s7.1).bind fun x8 =>
     bif !(decide (x8.2 = 0)) then
      some (.inr (.inr ([], x8.2)))
     else
      (app s7.2.1 ([x8.1])).bind fun x9 =>
      some (.inl (x8.1, x9, w64 (s7.2.2 + 1)))
    else
     some (.inr (.inl s7.2.1))) (a2, [], 0)).bind (Sum.elim (fun (p10 : (List (List (Int × Int × Unit)))) =>
  some (p10, 0)) some)
def qfz : Entry := ⟨20, [.ty (.pair (.sl (.sl gT)) (.pair (.sl (.sl gT)) (.pair I gT))), .ty (.sl gT), .ty (.sl gT), .ty I], [((.sl (.sl gT)), 1), (I, 0)], fun x => qeV x.1 x.2.1 x.2.2.1 x.2.2.2⟩
def qoo : TH := qa0 [([], 20, .block 0, { lv := [⟨none, 12, 0⟩], ps := [((.sl (.sl gT)), 1)], abn := true, D := ⟨140736414619652⟩ }),
 ([], 20, .loop 0, { lv := [⟨none, 2, 0⟩, ⟨none, 12, 0⟩, ⟨none, 30, 0⟩], ps := [((.sl gT), 2000), ((.sl (.sl gT)), 1), (I, 0)], D := ⟨140736414619652⟩ })] []
theorem qof : KT qfz qoo [qbU, qee, qeI, qcf, qdj] 40 := fun x => by kernel_rfl
theorem qot : OT qfz := entK (qh qd2 (qh qlI (qh qm8 (qh qeW (qh qg7 qj))))) hJ qof
def qhB (a0 : (List (Int × Int × Unit))) : Option Int :=
 (qF (fun (s2 : (Int × Int)) =>
   bif decide (s2.2 < (a0.length : Int)) then
    (idx a0 s2.2).bind fun x3 =>
    (qhk x3).bind fun x4 =>
    some (.inl (max s2.1 x4, w64 (s2.2 + 1)))
   else
    some (.inr s2.1)) (0, 0)).bind fun (p5 : Int) =>
 some p5
def qjd : Entry := ⟨43, [.ty (.sl gT)], [(I, 0)], fun x => qhB x⟩
def qvf : TH := qa0 [([], 43, .block 0, { lv := [⟨none, 3, 0⟩], ps := [(I, 0)], D := ⟨262136⟩ }),
 ([], 43, .loop 0, { lv := [⟨none, 3, 0⟩, ⟨none, 4, 0⟩], ps := [(I, 0), (I, 0)], D := ⟨262136⟩ })] []
theorem quS : KT qjd qvf [qgB] 40 := fun x => by kernel_rfl
theorem quG : OT qjd := entK (qh qnM qj) hJ quS
def qcB (a0 : (List Int)) : Option (List Int) :=
 (qF (fun (s2 : Int) =>
   (bif decide (s2 > 0) then
     (idx a0 (w64 (s2 - 1))).bind fun x3 =>
     some (decide (x3 = 0))
    else
     some false).bind fun (p4 : Bool) =>
   bif p4 then
    some (.inl (w64 (s2 - 1)))
   else
    some (.inr s2)) (a0.length : Int)).bind fun (p5 : Int) =>
 (slc a0 0 p5).bind fun x6 =>
 some x6
def qdg : Entry := ⟨189, [.ty (.sl I)], [((.sl I), 1000)], fun x => qcB x⟩
def qry : TH := qa0 [([], 189, .block 0, { lv := [⟨none, 3, 0⟩], ps := [(I, 0)], D := ⟨262088⟩ }),
 ([], 189, .loop 0, { lv := [⟨none, 3, 0⟩], ps := [(I, 0)], D := ⟨262088⟩ }),
 ([], 189, .region 2, { lv := [⟨none, 15, 0⟩], ps := [(.bool, 0)], D := ⟨65472⟩ })] []
theorem qrK : KT qdg qry [] 40 := fun x => by kernel_rfl
theorem qg6 : OT qdg := entK qj hJ qrK
def qaQ (a0 : Int) (a1 : (List Int)) : Option (Int × (List Int) × Unit) :=
 (qcB a1).bind fun x1 =>
 (bif decide ((x1.length : Int) = 0) then
   some 0
  else
   some a0).bind fun (p2 : Int) =>
 some (p2, x1, ())
def qcO : Entry := ⟨168, [.ty I, .ty (.sl I)], [((.pair I (.pair (.sl I) .unit)), 1000)], fun x => qaQ x.1 x.2⟩
def qt7 : TH := qa0 [([], 168, .cond 9, { lv := [⟨none, 0, 0⟩], ps := [(I, 0)], D := ⟨1⟩ })] []
theorem qtb : KT qcO qt7 [qdg] 40 := fun x => by kernel_rfl
theorem qfH : OT qcO := entK (qh qg6 qj) hJ qtb
def qbg (a0 : Int) : Option (Int × (List Int) × Unit) :=
 (bif decide (a0 < 0) then
   some (-1)
  else
   some 1).bind fun (p1 : Int) =>
 (qF (fun (s4 : (Int × (List Int))) =>
   bif !(decide (s4.1 = 0)) then
    (qbk (s4.1.tmod 1000000000)).bind fun x5 =>
    (app s4.2 ([x5])).bind fun x6 =>
    some (.inl (w64 (s4.1.tdiv 1000000000), x6))
   else
    some (.inr s4.2)) (a0, [])).bind fun (p7 : (List Int)) =>
 (qaQ p1 p7).bind fun x8 =>
 some x8
def qcR : Entry := ⟨124, [.ty I], [((.pair I (.pair (.sl I) .unit)), 1000)], fun x => qbg x⟩
def qtx : TH := qa0 [([], 124, .cond 6, { lv := [⟨none, 3, 0⟩], ps := [(I, 0)], D := ⟨8⟩ }),
 ([], 124, .block 0, { lv := [⟨none, 4, 0⟩], ps := [((.sl I), 1)], D := ⟨130961⟩ }),
 ([], 124, .loop 0, { lv := [⟨none, 0, 0⟩, ⟨none, 4, 0⟩], ps := [(I, 0), ((.sl I), 1)], D := ⟨130961⟩ })] []
theorem qsY : KT qcR qtx [qeD, qcO] 40 := fun x => by kernel_rfl
theorem qfQ : OT qcR := entK (qh qh2 (qh qfH qj)) hJ qsY
def qbb (a0 : Int) : Option (Int × (List Int) × Int × (List Int) × Unit) :=
 (qbg a0).bind fun x1 =>
 (qbg (1 : Int)).bind fun x2 =>
 some (x1.1, x1.2.1, x2.1, x2.2.1, ())
def qf2 : Entry := ⟨46, [.ty I], [((.pair I (.pair (.sl I) (.pair I (.pair (.sl I) .unit)))), 1000)], fun x => qbb x⟩
def qqe : TH := qa0 [] []
theorem qpO : KT qf2 qqe [qcR] 40 := fun x => by kernel_rfl
theorem qpa : OT qf2 := entK (qh qfQ qj) hJ qpO
def qdM (a0 : (Int × (List Int) × Unit)) : Option Int :=
 some a0.1
def qdX : Entry := ⟨169, [.ty (.pair I (.pair (.sl I) .unit))], [(I, 0)], fun x => qdM x⟩
def qqA : TH := qa0 [] []
theorem qqm : KT qdX qqA [] 40 := fun x => by kernel_rfl
theorem qjH : OT qdX := entK qj hJ qqm
def qcA (a0 : (Int × (List Int) × Unit)) : Option (Int × (List Int) × Unit) :=
 some (w64 (0 - a0.1), a0.2.1, ())
def qdd : Entry := ⟨170, [.ty (.pair I (.pair (.sl I) .unit))], [((.pair I (.pair (.sl I) .unit)), 1000)], fun x => qcA x⟩
def qrE : TH := qa0 [] []
theorem qrb : KT qdd qrE [] 40 := fun x => by kernel_rfl
theorem qgZ : OT qdd := entK qj hJ qrb
def qeo (a0 : (Int × (List Int) × Unit)) : Option (Int × (List Int) × Unit) :=
 bif decide (a0.1 < 0) then
  (qcA a0).bind fun x1 =>
  some x1
 else
  some a0
def qf7 : Entry := ⟨190, [.ty (.pair I (.pair (.sl I) .unit))], [((.pair I (.pair (.sl I) .unit)), 1000)], fun x => qeo x⟩
def qqT : TH := qa0 [] []
theorem qpK : KT qf7 qqT [qdd] 40 := fun x => by kernel_rfl
theorem qpq : OT qf7 := entK (qh qgZ qj) hJ qpK
def qD (a0 : (Int × (List Int) × Unit)) (a1 : (Int × (List Int) × Unit)) : Option (Int × (List Int) × Unit) :=
 (mkS (0 : Int) (w64 ((w64 ((a0.2.1.length : Int) + (a1.2.1.length : Int))) + 1))).bind fun x1 =>
 bif decide (w64 ((w64 ((a0.2.1.length : Int) + (a1.2.1.length : Int))) + 1) = w64 ((w64 ((a0.2.1.length : Int) + (a1.2.1.length : Int))) + 1)) then
  (qF (fun (s3 : ((List Int) × Int)) =>
    bif decide (s3.2 < (a0.2.1.length : Int)) then
     (qF (fun (s5 : ((List Int) × Int × Int)) =>
       bif decide (s5.2.2 < (a1.2.1.length : Int)) then
        (idx s5.1 (w64 (s3.2 + s5.2.2))).bind fun x6 =>
        (idx a0.2.1 s3.2).bind fun x7 =>
        (idx a1.2.1 s5.2.2).bind fun x8 =>
        (idx s5.1 (w64 (s3.2 + s5.2.2))).bind fun x9 =>
        (idx s5.1 (w64 (s3.2 + s5.2.2))).bind fun x10 =>
        let l11 : (List Int) := List.set s5.1 (w64 (s3.2 + s5.2.2)).toNat ((w64 ((w64 (x6 + (w64 (x7 * x8)))) + s5.2.1)).tmod 1000000000)
        some (.inl (l11, w64 ((w64 ((w64 (x6 + (w64 (x7 * x8)))) + s5.2.1)).tdiv 1000000000), w64 (s5.2.2 + 1)))
       else
        some (.inr (s5.1, s5.2.1))) (s3.1, 0, 0)).bind fun (p12 : ((List Int) × Int)) =>
     (idx p12.1 (w64 (s3.2 + (a1.2.1.length : Int)))).bind fun x13 =>
     (idx p12.1 (w64 (s3.2 + (a1.2.1.length : Int)))).bind fun x14 =>
     (idx p12.1 (w64 (s3.2 + (a1.2.1.length : Int)))).bind fun x15 =>
     let l16 : (List Int) := List.set p12.1 (w64 (s3.2 + (a1.2.1.length : Int))).toNat (w64 (x13 + p12.2))
     some (.inl (l16, w64 (s3.2 + 1)))
    else
     some (.inr s3.1)) (x1, 0)).bind fun (p17 : (List Int)) =>
  (qaQ (w64 (a0.1 * a1.1)) p17).bind fun x18 =>
  some x18
 else
  none
def qbx : Entry := ⟨123, [.ty (.pair I (.pair (.sl I) .unit)), .ty (.pair I (.pair (.sl I) .unit))], [((.pair I (.pair (.sl I) .unit)), 1000)], fun x => qD x.1 x.2⟩
def qrj : TH := qa0 [([], 123, .block 0, { lv := [⟨none, 5, 0⟩], ps := [((.sl I), 1)], D := ⟨604462909807314587091936⟩, rs := [⟨0, 2⟩], Dn := ⟨604462909807314586043360⟩ }),
 ([], 123, .loop 0, { lv := [⟨none, 5, 0⟩, ⟨none, 6, 0⟩], ps := [((.sl I), 1), (I, 0)], D := ⟨604462909807314587091936⟩, rs := [⟨0, 2⟩, ⟨0, 3⟩], Dn := ⟨603263871442523330970592⟩ }),
 ([], 123, .block 2, { lv := [⟨none, 5, 0⟩, ⟨none, 7, 0⟩], ps := [((.sl I), 1), (I, 0)], D := ⟨4611686018360279968⟩, rs := [⟨0, 3⟩], Dn := ⟨4611686018226062240⟩ }),
 ([], 123, .loop 2, { lv := [⟨none, 5, 0⟩, ⟨none, 7, 0⟩, ⟨none, 8, 0⟩], ps := [((.sl I), 1), (I, 0), (I, 0)], D := ⟨4611686018360279968⟩, rs := [⟨0, 2⟩, ⟨0, 3⟩], Dn := ⟨4611667876284203936⟩ })] []
theorem qru : KT qbx qrj [qcO] 40 := fun x => by kernel_rfl
theorem qds : OT qbx := entK (qh qfH qj) hJ qru
def qaX (a0 : (List Int)) (a1 : (List Int)) : Option Int :=
 bif !(decide ((a0.length : Int) = (a1.length : Int))) then
  bif decide ((a0.length : Int) < (a1.length : Int)) then
   some (-1)
  else
   some 1
 else
  (qF (fun (s2 : Int) =>
    bif decide (s2 >= 0) then
     (idx a0 s2).bind fun x3 =>
     (idx a1 s2).bind fun x4 =>
     bif decide (x3 < x4) then
      some (.inr (.inr (-1)))
     else
      (idx a0 s2).bind fun x5 =>
      (idx a1 s2).bind fun x6 =>
      bif decide (x5 > x6) then
       some (.inr (.inr 1))
      else
       some (.inl (w64 (s2 - 1)))
    else
     some (.inr (.inl ()))) (w64 ((a0.length : Int) - 1))).bind (Sum.elim (fun (p7 : Unit) =>
  some 0) some)
def qdw : Entry := ⟨174, [.ty (.sl I), .ty (.sl I)], [(I, 0)], fun x => qaX x.1 x.2⟩
def qn3 : TH := qa0 [([], 174, .block 0, { lv := [], ps := [], abn := true, D := ⟨2199022731296⟩ }),
 ([], 174, .loop 0, { lv := [⟨none, 5, 0⟩], ps := [(I, 0)], D := ⟨2199022731296⟩ })] []
theorem qnX : KT qdw qn3 [] 40 := fun x => by kernel_rfl
theorem qiu : OT qdw := entK qj hJ qnX
def qfW (a0 : (List Int)) (a1 : Int) : Option Int :=
 bif decide (a1 < (a0.length : Int)) then
  (idx a0 a1).bind fun x1 =>
  some x1
 else
  some 0
def qgW : Entry := ⟨191, [.ty (.sl I), .ty I], [(I, 0)], fun x => qfW x.1 x.2⟩
def qvq : TH := qa0 [] []
theorem qu0 : KT qgW qvq [] 40 := fun x => by kernel_rfl
theorem qnV : OT qgW := entK qj hJ qu0
def qcj (a0 : (List Int)) (a1 : (List Int)) : Option (List Int) :=
 (qF (fun (s3 : ((List Int) × Int × Int)) =>
   bif decide (s3.2.2 < (a0.length : Int)) then
    (idx a0 s3.2.2).bind fun x4 =>
    (qfW a1 s3.2.2).bind fun x5 =>
    (bif decide (w64 ((w64 (x4 - x5)) - s3.2.1) < 0) then
      some (1, w64 ((w64 ((w64 (x4 - x5)) - s3.2.1)) + 1000000000))
     else
      some (0, w64 ((w64 (x4 - x5)) - s3.2.1))).bind fun (p6 : (Int × Int)) =>
    (app s3.1 ([p6.2])).bind fun x7 =>
    some (.inl (x7, p6.1, w64 (s3.2.2 + 1)))
   else
    some (.inr s3.1)) ([], 0, 0)).bind fun (p8 : (List Int)) =>
 (qcB p8).bind fun x9 =>
 some x9
def qdB : Entry := ⟨175, [.ty (.sl I), .ty (.sl I)], [((.sl I), 1000)], fun x => qcj x.1 x.2⟩
def qoe : TH := qa0 [([], 175, .block 0, { lv := [⟨none, 5, 0⟩], ps := [((.sl I), 1)], D := ⟨8589934560⟩ }),
 ([], 175, .loop 0, { lv := [⟨none, 5, 0⟩, ⟨none, 6, 0⟩, ⟨none, 7, 0⟩], ps := [((.sl I), 1), (I, 0), (I, 0)], D := ⟨8589934560⟩ }),
 ([], 175, .cond 26, { lv := [⟨none, 6, 0⟩, ⟨none, 8, 0⟩], ps := [(I, 0), (I, 0)], D := ⟨402653504⟩ })] []
theorem qoa : KT qdB qoe [qgW, qdg] 40 := fun x => by kernel_rfl
theorem qiy : OT qdB := entK (qh qnV (qh qg6 qj)) hJ qoa
def qe4 (a0 : (List Int)) (a1 : (List Int)) : Option (List Int) :=
 (qF (fun (s3 : ((List Int) × Int × Int)) =>
   (bif decide (s3.2.2 < (a0.length : Int)) then
     some true
    else
     bif decide (s3.2.2 < (a1.length : Int)) then
      some true
     else
      some (decide (s3.2.1 > 0))).bind fun (p4 : Bool) =>
   bif p4 then
    (qfW a0 s3.2.2).bind fun x5 =>
    (qfW a1 s3.2.2).bind fun x6 =>
    (app s3.1 ([(w64 ((w64 (x5 + x6)) + s3.2.1)).tmod 1000000000])).bind fun x7 =>
    some (.inl (x7, w64 ((w64 ((w64 (x5 + x6)) + s3.2.1)).tdiv 1000000000), w64 (s3.2.2 + 1)))
   else
    some (.inr s3.1)) ([], 0, 0)).bind fun (p8 : (List Int)) =>
 some p8
def qfs : Entry := ⟨173, [.ty (.sl I), .ty (.sl I)], [((.sl I), 1)], fun x => qe4 x.1 x.2⟩
def qoq : TH := qa0 [([], 173, .block 0, { lv := [⟨none, 5, 0⟩], ps := [((.sl I), 1)], D := ⟨2199023255520⟩ }),
 ([], 173, .loop 0, { lv := [⟨none, 5, 0⟩, ⟨none, 6, 0⟩, ⟨none, 7, 0⟩], ps := [((.sl I), 1), (I, 0), (I, 0)], D := ⟨2199023255520⟩ }),
 ([], 173, .region 4, { lv := [⟨none, 22, 0⟩], ps := [(.bool, 0)], D := ⟨8388096⟩ })] []
theorem qn5 : KT qfs qoq [qgW] 40 := fun x => by kernel_rfl
theorem qos : OT qfs := entK (qh qnV qj) hJ qn5
def qfb (a0 : (Int × (List Int) × Unit)) (a1 : (Int × (List Int) × Unit)) : Option (Int × (List Int) × Unit) :=
 bif decide (a0.1 = 0) then
  some a1
 else
  bif decide (a1.1 = 0) then
   some a0
  else
   bif decide (a0.1 = a1.1) then
    (qe4 a0.2.1 a1.2.1).bind fun x1 =>
    (qaQ a0.1 x1).bind fun x2 =>
    some x2
   else
    (qaX a0.2.1 a1.2.1).bind fun x3 =>
    bif decide (x3 = 0) then
     some (0, [], ())
    else
     bif decide (x3 > 0) then
      (qcj a0.2.1 a1.2.1).bind fun x4 =>
      (qaQ a0.1 x4).bind fun x5 =>
      some x5
     else
      (qcj a1.2.1 a0.2.1).bind fun x6 =>
      (qaQ a1.1 x6).bind fun x7 =>
      some x7
def qeR : Entry := ⟨126, [.ty (.pair I (.pair (.sl I) .unit)), .ty (.pair I (.pair (.sl I) .unit))], [((.pair I (.pair (.sl I) .unit)), 2000)], fun x => qfb x.1 x.2⟩
def qrv : TH := qa0 [] []
theorem qrq : KT qeR qrv [qfs, qdw, qdB, qcO] 40 := fun x => by kernel_rfl
theorem qkw : OT qeR := entK (qh qos (qh qiu (qh qiy (qh qfH qj)))) hJ qrq
def qcz (a0 : (Int × (List Int) × Unit)) (a1 : (Int × (List Int) × Unit)) : Option (Int × (List Int) × Unit) :=
 (qcA a1).bind fun x1 =>
 (qfb a0 x1).bind fun x2 =>
 some x2
def qdk : Entry := ⟨167, [.ty (.pair I (.pair (.sl I) .unit)), .ty (.pair I (.pair (.sl I) .unit))], [((.pair I (.pair (.sl I) .unit)), 2000)], fun x => qcz x.1 x.2⟩
def qrH : TH := qa0 [] []
theorem qrc : KT qdk qrH [qeR, qdd] 40 := fun x => by kernel_rfl
theorem qg1 : OT qdk := entK (qh qkw (qh qgZ qj)) hJ qrc
def qaT (a0 : (Int × (List Int) × Unit)) (a1 : (Int × (List Int) × Unit)) : Option (Int × (List Int) × Unit) :=
 bif decide (a0.1 = 0) then
  some (0, [], ())
 else
  (mkS (0 : Int) (a0.2.1.length : Int)).bind fun x1 =>
  bif decide ((a0.2.1.length : Int) = (a0.2.1.length : Int)) then
   (qF (fun (s3 : ((List Int) × (List Int) × Int)) =>
     bif decide (s3.2.2 >= 0) then
      (idx a0.2.1 s3.2.2).bind fun x4 =>
      (app ([x4]) s3.2.1).bind fun x5 =>
      (qcB x5).bind fun x6 =>
      (qF (fun (s8 : (Int × Int)) =>
        bif decide (s8.1 < s8.2) then
         (qaQ (1 : Int) a1.2.1).bind fun x9 =>
         (qbg (w64 ((w64 ((w64 (s8.1 + s8.2)) + 1)).tdiv 2))).bind fun x10 =>
         (qD x9 x10).bind fun x11 =>
         (qaX x11.2.1 x6).bind fun x12 =>
         (bif decide (x12 <= 0) then
           some (w64 ((w64 ((w64 (s8.1 + s8.2)) + 1)).tdiv 2), s8.2)
          else
           some (s8.1, w64 ((w64 ((w64 ((w64 (s8.1 + s8.2)) + 1)).tdiv 2)) - 1))).bind fun (p13 : (Int × Int)) =>
         some (.inl (p13.1, p13.2))
        else
         some (.inr s8.1)) (0, 999999999)).bind fun (p14 : Int) =>
      (idx s3.1 s3.2.2).bind fun x15 =>
      (idx s3.1 s3.2.2).bind fun x16 =>
      let l17 : (List Int) := List.set s3.1 s3.2.2.toNat p14
      (qaQ (1 : Int) a1.2.1).bind fun x18 =>
      (qbg p14).bind fun x19 =>
      (qD x18 x19).bind fun x20 =>
      (qcj x6 x20.2.1).bind fun x21 =>
      some (.inl (l17, x21, w64 (s3.2.2 - 1)))
     else
      some (.inr (s3.1, s3.2.1))) (x1, [], w64 ((a0.2.1.length : Int) - 1))).bind fun (p22 : ((List Int) × (List Int))) =>
   (qaQ a0.1 p22.1).bind fun x23 =>
   (bif decide (a0.1 < 0) then
     some (decide ((p22.2.length : Int) > 0))
    else
     some false).bind fun (p24 : Bool) =>
   (bif p24 then
     (qbg (1 : Int)).bind fun x25 =>
     (qcz x23 x25).bind fun x26 =>
     some (x26.1, x26.2.1)
    else
     some (x23.1, x23.2.1)).bind fun (p27 : (Int × (List Int))) =>
   some (p27.1, p27.2, ())
  else
   none
def qdA : Entry := ⟨172, [.ty (.pair I (.pair (.sl I) .unit)), .ty (.pair I (.pair (.sl I) .unit))], [((.pair I (.pair (.sl I) .unit)), 2000)], fun x => qaT x.1 x.2⟩
def qob : TH := qa0 [([], 172, .block 0, { lv := [⟨none, 5, 0⟩, ⟨none, 6, 0⟩], ps := [((.sl I), 1), ((.sl I), 2000)], D := ⟨4722366482869613234144⟩ }),
 ([], 172, .loop 0, { lv := [⟨none, 5, 0⟩, ⟨none, 6, 0⟩, ⟨none, 7, 0⟩], ps := [((.sl I), 1), ((.sl I), 2000), (I, 0)], D := ⟨4722366482869613234144⟩, rs := [⟨0, 2⟩, ⟨0, 3⟩], Dn := ⟨4703919738795366811616⟩ }),
 ([], 172, .block 2, { lv := [⟨none, 8, 0⟩], ps := [(I, 0)], D := ⟨576460477425518336⟩ }),
 ([], 172, .loop 2, { lv := [⟨none, 8, 0⟩, ⟨none, 9, 0⟩], ps := [(I, 0), (I, 0)], D := ⟨576460477425518336⟩, rs := [⟨0, 3⟩], Dn := ⟨576390108681340672⟩ }),
 ([], 172, .cond 55, { lv := [⟨none, 8, 0⟩, ⟨none, 9, 0⟩], ps := [(I, 0), (I, 0)], D := ⟨504403158265496320⟩ }),
 ([], 172, .region 17, { lv := [⟨none, 83, 0⟩], ps := [(.bool, 0)], D := ⟨19267255250108152471879744⟩, rs := [⟨0, 2⟩], Dn := ⟨19191697386382238148460608⟩ }),
 ([], 172, .cond 83, { lv := [⟨some 0, 11, 0⟩, ⟨some 0, 11, 1⟩], ps := [(I, 0), ((.sl I), 2000)], D := ⟨135399691796838467567091712⟩, wr := [⟨0, 11⟩] })] []
theorem qnY : KT qdA qob [qbx, qcR, qdk, qdw, qdB, qdg, qcO] 40 := fun x => by kernel_rfl
theorem qiq : OT qdA := entK (qh qds (qh qfQ (qh qg1 (qh qiu (qh qiy (qh qg6 (qh qfH qj))))))) hJ qnY
def qfg (a0 : (Int × (List Int) × Unit)) (a1 : (Int × (List Int) × Unit)) : Option (Int × (List Int) × Unit) :=
 (qeo a0).bind fun x1 =>
 (qeo a1).bind fun x2 =>
 (qF (fun (s6 : (Int × (List Int) × Int × (List Int))) =>
   (qdM (s6.2.2.1, s6.2.2.2, ())).bind fun x7 =>
   bif !(decide (x7 = 0)) then
    (qaT (s6.1, s6.2.1, ()) (s6.2.2.1, s6.2.2.2, ())).bind fun x8 =>
    (qD x8 (s6.2.2.1, s6.2.2.2, ())).bind fun x9 =>
    (qcz (s6.1, s6.2.1, ()) x9).bind fun x10 =>
    some (.inl (s6.2.2.1, s6.2.2.2, x10.1, x10.2.1))
   else
    some (.inr (s6.1, s6.2.1))) (x1.1, x1.2.1, x2.1, x2.2.1)).bind fun (p11 : (Int × (List Int))) =>
 some (p11.1, p11.2, ())
def qg4 : Entry := ⟨171, [.ty (.pair I (.pair (.sl I) .unit)), .ty (.pair I (.pair (.sl I) .unit))], [((.pair I (.pair (.sl I) .unit)), 0)], fun x => qfg x.1 x.2⟩
def qrw : TH := qa0 [([], 171, .block 0, { lv := [⟨some 0, 2, 0⟩, ⟨some 0, 2, 1⟩], ps := [(I, 0), ((.sl I), 0)], D := ⟨4193312⟩, wr := [⟨0, 2⟩, ⟨0, 3⟩, ⟨0, 5⟩] }),
 ([], 171, .loop 0, { lv := [⟨some 0, 2, 0⟩, ⟨some 0, 2, 1⟩, ⟨some 0, 3, 0⟩, ⟨some 0, 3, 1⟩], ps := [(I, 0), ((.sl I), 0), (I, 0), ((.sl I), 0)], D := ⟨4193312⟩, wr := [⟨0, 2⟩, ⟨0, 3⟩, ⟨0, 5⟩], rs := [⟨0, 5⟩], Dn := ⟨4193280⟩ })] []
theorem qrJ : KT qg4 qrw [qdA, qbx, qdX, qdk, qf7] 40 := fun x => by kernel_rfl
theorem qrB : OT qg4 := entK (qh qiq (qh qds (qh qjH (qh qg1 (qh qpq qj))))) hJ qrJ
def qe5 (a0 : (Int × (List Int) × Unit)) (a1 : (Int × (List Int) × Unit)) : Option Int :=
 (qcz a0 a1).bind fun x1 =>
 some x1.1
def qeT : Entry := ⟨122, [.ty (.pair I (.pair (.sl I) .unit)), .ty (.pair I (.pair (.sl I) .unit))], [(I, 0)], fun x => qe5 x.1 x.2⟩
def qrl : TH := qa0 [] []
theorem qrN : KT qeT qrl [qdk] 40 := fun x => by kernel_rfl
theorem qkx : OT qeT := entK (qh qg1 qj) hJ qrN
def qci (a0 : (Int × (List Int) × Unit)) (a1 : (Int × (List Int) × Unit)) : Option (Int × (List Int) × Int × (List Int) × Unit) :=
 (qdM a1).bind fun x1 =>
 (bif decide (x1 < 0) then
   (qcA a0).bind fun x2 =>
   (qcA a1).bind fun x3 =>
   some (x2.1, x2.2.1, x3.1, x3.2.1)
  else
   some (a0.1, a0.2.1, a1.1, a1.2.1)).bind fun (p4 : (Int × (List Int) × Int × (List Int))) =>
 (qfg (p4.1, p4.2.1, ()) (p4.2.2.1, p4.2.2.2, ())).bind fun x5 =>
 (qbg (1 : Int)).bind fun x6 =>
 (qe5 x5 x6).bind fun x7 =>
 bif decide (x7 = 0) then
  some (p4.1, p4.2.1, p4.2.2.1, p4.2.2.2, ())
 else
  (qaT (p4.1, p4.2.1, ()) x5).bind fun x8 =>
  (qaT (p4.2.2.1, p4.2.2.2, ()) x5).bind fun x9 =>
  some (x8.1, x8.2.1, x9.1, x9.2.1, ())
def qb8 : Entry := ⟨125, [.ty (.pair I (.pair (.sl I) .unit)), .ty (.pair I (.pair (.sl I) .unit))], [((.pair I (.pair (.sl I) (.pair I (.pair (.sl I) .unit)))), 2000)], fun x => qci x.1 x.2⟩
def qoc : TH := qa0 [([], 125, .cond 8, { lv := [⟨some 0, 2, 0⟩, ⟨some 0, 2, 1⟩, ⟨some 0, 3, 0⟩, ⟨some 0, 3, 1⟩], ps := [(I, 0), ((.sl I), 1000), (I, 0), ((.sl I), 1000)], D := ⟨7680⟩, wr := [⟨0, 2⟩, ⟨0, 3⟩] })] []
theorem qnZ : KT qb8 qoc [qeT, qdA, qdd, qcR, qdX, qg4] 40 := fun x => by kernel_rfl
theorem qfw : OT qb8 := entK (qh qkx (qh qiq (qh qgZ (qh qfQ (qh qjH (qh qrB qj)))))) hJ qnZ
def qgM (a0 : Int) (a1 : Int) : Option (Int × (List Int) × Int × (List Int) × Unit) :=
 (qbg a0).bind fun x1 =>
 (qbg a1).bind fun x2 =>
 (qci x1 x2).bind fun x3 =>
 some x3
def qgX : Entry := ⟨127, [.ty I, .ty I], [((.pair I (.pair (.sl I) (.pair I (.pair (.sl I) .unit)))), 2000)], fun x => qgM x.1 x.2⟩
def qrM : TH := qa0 [] []
theorem qq5 : KT qgX qrM [qb8, qcR] 40 := fun x => by kernel_rfl
theorem qrA : OT qgX := entK (qh qfw (qh qfQ qj)) hJ qq5
def qe3 (a0 : (Int × Int × Unit)) : Option (Int × (List Int) × Int × (List Int) × Unit) :=
 (qgM a0.1 a0.2.1).bind fun x1 =>
 some x1
def qfu : Entry := ⟨49, [.ty gT], [((.pair I (.pair (.sl I) (.pair I (.pair (.sl I) .unit)))), 2000)], fun x => qe3 x⟩
def qog : TH := qa0 [] []
theorem qoh : KT qfu qog [qgX] 40 := fun x => by kernel_rfl
theorem qol : OT qfu := entK (qh qrA qj) hJ qoh
def qei (a0 : (Int × (List Int) × Int × (List Int) × Unit)) (a1 : (Int × (List Int) × Int × (List Int) × Unit)) : Option (Int × (List Int) × Int × (List Int) × Unit) :=
 (qD (a0.1, a0.2.1, ()) (a1.1, a1.2.1, ())).bind fun x1 =>
 (qD (a0.2.2.1, a0.2.2.2.1, ()) (a1.2.2.1, a1.2.2.2.1, ())).bind fun x2 =>
 (qci x1 x2).bind fun x3 =>
 some x3
def qge : Entry := ⟨48, [.ty (.pair I (.pair (.sl I) (.pair I (.pair (.sl I) .unit)))), .ty (.pair I (.pair (.sl I) (.pair I (.pair (.sl I) .unit))))], [((.pair I (.pair (.sl I) (.pair I (.pair (.sl I) .unit)))), 2000)], fun x => qei x.1 x.2⟩
def qpz : TH := qa0 [] []
theorem qqM : KT qge qpz [qb8, qbx] 40 := fun x => by kernel_rfl
theorem qpP : OT qge := entK (qh qfw (qh qds qj)) hJ qqM
def qed (a0 : (Int × (List Int) × Int × (List Int) × Unit)) (a1 : (Int × (List Int) × Int × (List Int) × Unit)) : Option (Int × (List Int) × Int × (List Int) × Unit) :=
 (qD (a0.1, a0.2.1, ()) (a1.2.2.1, a1.2.2.2.1, ())).bind fun x1 =>
 (qD (a1.1, a1.2.1, ()) (a0.2.2.1, a0.2.2.2.1, ())).bind fun x2 =>
 (qfb x1 x2).bind fun x3 =>
 (qD (a0.2.2.1, a0.2.2.2.1, ()) (a1.2.2.1, a1.2.2.2.1, ())).bind fun x4 =>
 (qci x3 x4).bind fun x5 =>
 some x5
def qf5 : Entry := ⟨47, [.ty (.pair I (.pair (.sl I) (.pair I (.pair (.sl I) .unit)))), .ty (.pair I (.pair (.sl I) (.pair I (.pair (.sl I) .unit))))], [((.pair I (.pair (.sl I) (.pair I (.pair (.sl I) .unit)))), 2000)], fun x => qed x.1 x.2⟩
def qpy : TH := qa0 [] []
theorem qp9 : KT qf5 qpy [qb8, qeR, qbx] 40 := fun x => by kernel_rfl
theorem qp1 : OT qf5 := entK (qh qfw (qh qkw (qh qds qj))) hJ qp9
def qdR (a0 : (Int × (List Int) × Int × (List Int) × Unit)) (a1 : (Int × (List Int) × Int × (List Int) × Unit)) : Option Int :=
 (qD (a0.1, a0.2.1, ()) (a1.2.2.1, a1.2.2.2.1, ())).bind fun x1 =>
 (qD (a1.1, a1.2.1, ()) (a0.2.2.1, a0.2.2.2.1, ())).bind fun x2 =>
 (qe5 x1 x2).bind fun x3 =>
 some x3
def qf8 : Entry := ⟨45, [.ty (.pair I (.pair (.sl I) (.pair I (.pair (.sl I) .unit)))), .ty (.pair I (.pair (.sl I) (.pair I (.pair (.sl I) .unit))))], [(I, 0)], fun x => qdR x.1 x.2⟩
def qpv : TH := qa0 [] []
theorem qpu : KT qf8 qpv [qeT, qbx] 40 := fun x => by kernel_rfl
theorem qqh : OT qf8 := entK (qh qkx (qh qds qj)) hJ qpu
def qd3 (a0 : ((List (List (Int × Int × Unit))) × (List (List (Int × Int × Unit))) × Int × Int × Int × Unit)) (a1 : (List (Int × Int × Unit))) (a2 : (List (Int × Int × Unit))) : Option Bool :=
 (qkR).bind fun x1 =>
 bif !x1 then
  some false
 else
  ((qgI (a0.1, a0.2.1, a0.2.2.1, a0.2.2.2.1, a0.2.2.2.2.1, ())).bind fun x2 =>
   bif !x2 then
    some true
   else
    (qeZ (a0.1, a0.2.1, a0.2.2.1, a0.2.2.2.1, a0.2.2.2.2.1, ()) a1 a2).bind fun x3 =>
    some (!(decide (x3 = 0)))).bind fun (p4 : Bool) =>
  bif p4 then
   some true
  else
   (qd9 (a0.1, a0.2.1, a0.2.2.1, a0.2.2.2.1, a0.2.2.2.2.1, ())).bind fun x5 =>
   (qbq a1).bind fun x6 =>
   (qbq a2).bind fun x7 =>
   (qeV x5 x6 x7 (3 : Int)).bind fun x8 =>
   bif !(decide (x8.2 = 0)) then
    some (decide (x8.2 = 22))
   else
    bif !(decide ((x8.1.length : Int) = 3)) then
     some false
    else
     (qd9 (a0.1, a0.2.1, a0.2.2.1, a0.2.2.2.1, a0.2.2.2.2.1, ())).bind fun x9 =>
     (qb0 x9).bind fun x10 =>
     (bif !(decide (x10.2 = 0)) then
       some (!(decide (x10.2 = 8)))
      else
       some false).bind fun (p11 : Bool) =>
     bif p11 then
      some false
     else
      (qF (fun (s13 : ((List (Int × Int × Unit)) × Int)) =>
        bif decide (s13.2 < (x8.1.length : Int)) then
         (idx x8.1 s13.2).bind fun x14 =>
         (qbv x14 (a2.length : Int)).bind fun x15 =>
         bif !(decide (x15 = 0)) then
          some (.inr (.inr false))
         else
          (qF (fun (s17 : (Bool × Int)) =>
            bif decide (s17.2 < (a2.length : Int)) then
             (idx x8.1 s13.2).bind fun x18 =>
             (idx x18 s17.2).bind fun x19 =>
             (idx s13.1 s17.2).bind fun x20 =>
             (qgd x19 x20).bind fun x21 =>
             ((qa6 x21.1 (w64 (0 - a0.2.2.2.2.1)) a0.2.2.2.2.1).bind fun x22 =>
              bif !x22 then
               some true
              else
               (qa6 x21.2.1 (w64 (0 - a0.2.2.2.2.1)) a0.2.2.2.2.1).bind fun x23 =>
               some (!x23)).bind fun (p24 : Bool) =>
             bif p24 then
              some (.inr (.inr (.inr (.inr false))))
             else
              (bif s17.1 then
                some true
               else
                (qbk x21.1).bind fun x25 =>
                bif decide (x25 = a0.2.2.2.2.1) then
                 some true
                else
                 (qbk x21.2.1).bind fun x26 =>
                 some (decide (x26 = a0.2.2.2.2.1))).bind fun (p27 : Bool) =>
              some (.inl (p27, w64 (s17.2 + 1)))
            else
             some (.inr (.inl s17.1))) (false, 0)).bind (Sum.elim (fun (p28 : Bool) =>
          (bif decide (x10.2 = 0) then
            some (!p28)
           else
            some false).bind fun (p29 : Bool) =>
          (bif p29 then
            (qhi (a0.1, a0.2.1, a0.2.2.1, a0.2.2.2.1, a0.2.2.2.2.1, ()) a1 s13.1).bind fun x30 =>
            (qhB x30).bind fun x31 =>
            (idx x8.1 s13.2).bind fun x32 =>
            (qhi (a0.1, a0.2.1, a0.2.2.1, a0.2.2.2.1, a0.2.2.2.2.1, ()) a1 x32).bind fun x33 =>
            (qhB x33).bind fun x34 =>
            (bif decide (x10.1.2.1 < 1) then
              some true
             else
              (qbb x34).bind fun x35 =>
              (qe3 x10.1).bind fun x36 =>
              (qbb x31).bind fun x37 =>
              (qei x36 x37).bind fun x38 =>
              (qfo a0.1).bind fun x39 =>
              (qbb x39).bind fun x40 =>
              (qed x38 x40).bind fun x41 =>
              (qdR x35 x41).bind fun x42 =>
              some (decide (x42 > 0))).bind fun (p43 : Bool) =>
            bif p43 then
             some (.inr (.inr (.inr false)))
            else
             some (.inl ())
           else
            some (.inl ())).bind (Sum.elim (fun (p44 : Unit) =>
          (idx x8.1 s13.2).bind fun x45 =>
          some (.inl (x45, w64 (s13.2 + 1)))) some)) some)
        else
         some (.inr (.inl ()))) (a2, 0)).bind (Sum.elim (fun (p46 : Unit) =>
      some true) some)
def qbD : Entry := ⟨7, [.ty (.pair (.sl (.sl gT)) (.pair (.sl (.sl gT)) (.pair I gT))), .ty (.sl gT), .ty (.sl gT)], [(.bool, 0)], fun x => qd3 x.1 x.2.1 x.2.2⟩
def qkf : TH := qa0 [([], 7, .region 3, { lv := [⟨none, 29, 0⟩], ps := [(.bool, 0)], D := ⟨1072693248⟩ }),
 ([], 7, .region 11, { lv := [⟨none, 58, 0⟩], ps := [(.bool, 0)], D := ⟨567453553048682496⟩ }),
 ([], 7, .block 0, { lv := [], ps := [], abn := true, D := ⟨2993155353253689176481146537402946471333845241427968⟩, wr := [⟨0, 15⟩] }),
 ([], 7, .loop 0, { lv := [⟨none, 11, 0⟩, ⟨none, 12, 0⟩], ps := [((.sl gT), 0), (I, 0)], D := ⟨2993155353253689176481146537402946471333845241427968⟩, wr := [⟨0, 15⟩], rs := [⟨0, 3⟩, ⟨0, 9⟩], Dn := ⟨2992424245623100548532074430415095967450233179469824⟩ }),
 ([], 7, .block 2, { lv := [⟨none, 13, 0⟩], ps := [(.bool, 0)], abn := true, D := ⟨680564733841876908037283283384955625472⟩, wr := [⟨0, 15⟩] }),
 ([], 7, .loop 2, { lv := [⟨none, 13, 0⟩, ⟨none, 14, 0⟩], ps := [(.bool, 0), (I, 0)], D := ⟨680564733841876908037283283384955625472⟩, wr := [⟨0, 15⟩], rs := [⟨0, 3⟩, ⟨0, 15⟩], Dn := ⟨632525415511208723225931429149866483712⟩ }),
 ([], 7, .region 24, { lv := [⟨none, 111, 0⟩], ps := [(.bool, 0)], D := ⟨5192291906774670487009396732723200⟩, rs := [⟨0, 3⟩, ⟨0, 15⟩], Dn := ⟨5004496402815078299307199587942400⟩ }),
 ([], 7, .region 26, { lv := [⟨none, 13, 0⟩], ps := [(.bool, 0)], D := ⟨680559541545018392099120684367207211008⟩, rs := [⟨0, 3⟩, ⟨0, 15⟩], Dn := ⟨632520411009854166879956532329262882816⟩ }),
 ([], 7, .region 27, { lv := [⟨none, 134, 0⟩], ps := [(.bool, 0)], D := ⟨42875578232038246396385200536402794643456⟩ }),
 ([], 7, .cond 134, { lv := [], ps := [], abn := true, D := ⟨187072209534799430564191535264372276764693034631168⟩, rs := [⟨0, 3⟩, ⟨0, 9⟩], Dn := ⟨186341101904210802615119428276521772881080972673024⟩ }),
 ([], 7, .region 29, { lv := [⟨none, 166, 0⟩], ps := [(.bool, 0)], D := ⟨187071852766432397040101394016191864142175269814272⟩, rs := [⟨0, 3⟩, ⟨0, 9⟩], Dn := ⟨186340745135843769091029287028341360258563207856128⟩ })] []
theorem qkg : KT qbD qkf [qcq, qgp, qf5, qf8, qfu, qf2, qge, qeD, qdV, qcI, qfz, qdS, qg0, qjd, qgg, qiS, qeh, qft, qhc] 40 := fun x => by kernel_rfl
theorem qkl : OT qbD := entK (qh qgO (qh qkY (qh qp1 (qh qqh (qh qol (qh qpa (qh qpP (qh qh2 (qh qip (qh qju (qh qot (qh qtS (qh qrt (qh quG (qh qpY (qh qvb (qh qjy (qh qop (qh qra qj))))))))))))))))))) hJ qkg
end
end Go.Proofs.YtbcdgfgacigaoaaGreat
end
section
namespace Go.Proofs.YtbcdgfgacigaoaaGreat.Mat
open Go Go.Ab Go.Tx Go.Proofs.YtbcdgfgacigaoaaGreat
theorem wid {n : Int} (h1 : -9223372036854775808 <= n) (h2 : n <= 9223372036854775807) : w64 n = n := qkN h1 h2
theorem qjc (a b c : Int) : qa6 a b c = some (decide (b <= a /\ a <= c)) := by
 unfold qa6;by_cases h : b <= a <;> simp [h]
theorem qqf (a b c : Int) : qS a b c = some (decide (b <= a /\ a <= c)) := by
 unfold qS;by_cases h : b <= a <;> simp [h]
theorem qmL (a k : Int) (h0 : 0 <= k) (h1 : k <= 4611686018427387904) : qcL a k = some (decide (-k <= a /\ a <= k)) := by
 unfold qcL;rw [qqf, wid (by omega) (by omega)];simp
theorem qiW (b : Bool) (e : Int) : qo b e = some (if b then 0 else e) := by cases b <;> rfl
theorem ql5 (l : List Int) (h : l.length <= 1000000000) : qO l = some (qwb l) := by
 unfold qO;rw [qBl l h]
instance (B : Int) (z : G) : Decidable (Bd B z) := inferInstanceAs (Decidable (_ /\ _))
theorem qiv (z : G) (k : Int) (h0 : 0 <= k) (h1 : k <= 4611686018427387904) : qbi z k = some (decide (Bd k z)) := by
 unfold qbi;rw [qmL _ _ h0 h1, qmL _ _ h0 h1];unfold Bd;by_cases c : -k <= z.1 /\ z.1 <= k <;> simp [c]
theorem qlp (z : G) (k : Int) (h0 : 0 <= k) (h1 : k <= 4611686018427387904) : qd8 z k = some (decide (Bd k z)) := by
 unfold qd8;rw [wid (by omega) (by omega), qjc, qjc];unfold Bd;have e : (0 : Int) - k = -k := by omega
 rw [e];by_cases c : -k <= z.1 /\ z.1 <= k <;> simp [c]
def qnG (B : Int) (z : G) : Bool := !(decide (Bd B z))
def qAr (n : Nat) (i : Nat) (r : List G) : Option (Int × Int) := if r.length = n then (if r.any (qnG 20) then some ((i : Int), 2) else none) else some ((i : Int), 10)
def qFK (m : Mx) : Int × Int := if m.length = 0 then (0, 10) else if 3 < m.length then (0, 8) else (qgz (qAr m.length) 0 m).getD (0, 0)
def qj2 (m : Mx) : Int := (qFK m).2
theorem qxx (r : List G) (h : r.length <= 1000000000) : qm r = some (r.any (qnG 20)) := by
 unfold qm qv;refine qCp r qb4 (qnG 20) (fun x _ => ?_) h;unfold qb4;rw [qiv _ _ (by omega) (by omega)]; rfl
theorem qrg {m : Mx} (h : m.length <= 1000000000) (hr : ∀ r ∈ m, r.length <= 1000000000) : qcT m = some (qFK m) := by
 unfold qcT qFK;simp only [qiW, qa];rw [ql5 _ (by simp)];simp only [qa];by_cases h0 : m.length = 0
 ·have h0' : ¬ ((m.length : Int) > 0) := by omega
  simp [h0, qwb]
 ·have h0' : (m.length : Int) > 0 := by omega
  by_cases h4 : 3 < m.length
  ·have h4' : ¬ ((m.length : Int) <= 3) := by omega
   simp [h0, h0', h4, h4', qwb]
  ·have h4' : (m.length : Int) <= 3 := by omega
   simp only [h0, h0', h4, h4', decide_true, if_true, if_false, qwb, Bool.not_true, cond_false];rw [qhS m _ (qAr m.length) (fun i r hi => ?_), qeE]
   ·cases qgz (qAr m.length) 0 m <;> rfl
   ·have hlt := qmf hi;rw [qaj hi];simp only [qa];rw [qxx r (hr r (List.mem_of_getElem? hi))];simp only [qa];rw [ql5 _ (by simp), wid (by omega) (by omega)];simp only [qa];unfold qAr;by_cases c : r.length = m.length
    ·have c' : (r.length : Int) = (m.length : Int) := by omega
     cases hb : r.any (qnG 20)
     ·simp [c, c', hb, qwb, stp]
     ·simp [c, c', hb, qwb, stp]
    ·have c' : ¬ (r.length : Int) = (m.length : Int) := by omega
     simp [c, c', qwb, stp]
theorem qm1 {m : Mx} (h : m.length <= 1000000000) (hr : ∀ r ∈ m, r.length <= 1000000000) : qcZ m = some (qFK m) := by
 unfold qcZ qFK;by_cases h0 : m.length = 0
 ·simp [h0]
 have h0' : ¬ ((m.length : Int) = 0) := by omega
 by_cases h4 : 3 < m.length
 ·have h4' : (m.length : Int) > 3 := by omega
  simp [h0, h0', h4, h4']
 have h4' : ¬ ((m.length : Int) > 3) := by omega
 simp only [h0, h0', h4, h4', decide_false, cond_false, if_false];rw [qhS m _ (qAr m.length) (fun i r hi => ?_), qeE]
 ·cases qgz (qAr m.length) 0 m <;> rfl
 ·have hlt := qmf hi;have hrl := hr r (List.mem_of_getElem? hi);rw [qaj hi];simp only [qa];unfold qAr;by_cases c : r.length = m.length
  case neg =>
   have c' : ¬ (r.length : Int) = (m.length : Int) := by omega
   simp [c, c', stp]
  have c' : decide ((r.length : Int) = (m.length : Int)) = true := decide_eq_true (by omega);simp only [c', Bool.not_true, cond_false];rw [if_pos c];rw [qhS r _ (fun _ z => if qnG 20 z then some (Sum.inr (Sum.inr ((i : Int), (2 : Int))) : Int ⊕ (Unit ⊕ (Int × Int))) else none) (fun k z hk => ?_), qeE]
  ·cases hf : qgz (fun _ z => if qnG 20 z then some (Sum.inr (Sum.inr ((i : Int), (2 : Int))) : Int ⊕ (Unit ⊕ (Int × Int))) else none) 0 r with
   | none =>
    rw [qfY] at hf;have hb : r.any (qnG 20) = false := by
     rw [List.any_eq_false];intro x hx;obtain ⟨k, hk⟩ := List.mem_iff_getElem?.1 hx;have := hf k x hk;simpa using this
    simp only [hb, qf, if_false, stp];rw [wid (by omega) (by omega)]
   | some q =>
    obtain ⟨k, z, h1, h2, _⟩ := qf0 hf;have hp : qnG 20 z = true := by
     cases hp : qnG 20 z
     ·simp [hp] at h2
     ·rfl
    have hb : r.any (qnG 20) = true := List.any_eq_true.2 ⟨z, List.mem_of_getElem? h1, hp⟩;simp only [hp, if_true, qb] at h2;simp only [hb, if_true, stp, <- h2]
  ·have hlk := qmf hk;simp only [qa, qaj hk];rw [qlp _ _ (by omega) (by omega)];simp only [qa];rw [wid (by omega) (by omega)];unfold qnG;by_cases d : Bd 20 z <;> simp [d, stp]
theorem qjC {m : Mx} (h : m.length <= 1000000000) (hr : ∀ r ∈ m, r.length <= 1000000000) : qbN m = some (qj2 m) := by
 unfold qbN; rw [qrg h hr]; rfl
theorem qjp {m : Mx} (h : m.length <= 1000000000) (hr : ∀ r ∈ m, r.length <= 1000000000) : qbK m = some (qj2 m) := by
 unfold qbK; rw [qm1 h hr]; rfl
theorem qvj {m : Mx} (h : qj2 m = 0) : 1 <= m.length /\ m.length <= 3 /\ qGp m.length m.length m /\ BdM 20 m := by
 unfold qj2 qFK at h;split at h
 ·cases h
 ·rename_i h1;split at h
  ·cases h
  ·rename_i h2;have hn : qgz (qAr m.length) 0 m = none := by
    cases hf : qgz (qAr m.length) 0 m with
    | none => rfl
    | some r =>
     exfalso
     rw [hf] at h;obtain ⟨i, a, _, h3, _⟩ := qf0 hf;unfold qAr at h3;split at h3
     ·split at h3
      ·cases h3; cases h
      ·cases h3
     ·cases h3; cases h
   rw [qfY] at hn;have key : ∀ r ∈ m, r.length = m.length /\ r.any (qnG 20) = false := fun r hr => by
    obtain ⟨i, hi⟩ := List.mem_iff_getElem?.1 hr;have := hn i r hi;unfold qAr at this;split at this
    ·rename_i c;split at this
     ·cases this
     ·rename_i d; exact ⟨c, by simpa using d⟩
    ·cases this
   refine ⟨by omega, by omega, ⟨rfl, fun r hr => (key r hr).1⟩, fun r hr z hz => ?_⟩;have := List.any_eq_false.1 (key r hr).2 z hz;unfold qnG at this;simpa using this
theorem qxC {n c i k : Nat} (f : Nat -> Nat -> G) (hi : i < n) (hk : k < c) : qaa (mx n c f) (i : Int) (k : Int) = some (f i k) := by
 unfold qaa;rw [qaj (qmv f hi), qa, qaj (qax (fun k => f i k) hk)]; rfl
theorem qhf {A B : Int} {a b : G} (h : Bd A a) (h' : Bd B b) (hb : 2 * (A * B) <= 9000000000000000000) : qac a b = some (qao a b) := congrArg some (qFU h h' hb)
theorem qpo {A B : Int} {a b : G} (h : Bd A a) (h' : Bd B b) (hb : A + B <= 9000000000000000000) : qa5 a b = some (qdL a b) := congrArg some (qGj h h' hb)
theorem qAN {A B : Int} {a b : G} (h : Bd A a) (h' : Bd B b) (hb : 2 * (A * B) <= 9000000000000000000) : qjo a b = some (qao a b) := congrArg some (qFU h h' hb)
theorem qBB {A B : Int} {a b : G} (h : Bd A a) (h' : Bd B b) (hb : A + B <= 9000000000000000000) : qiV a b = some (qdL a b) := congrArg some (qGj h h' hb)
theorem le_next {i n : Nat} {A : Int} (hA : 0 <= A) (h : i < n) (hb : (n : Int) * A <= 9000000000000000000) : (i : Int) * A + A <= 9000000000000000000 := by
 have : ((i + 1 : Nat) : Int) * A <= (n : Int) * A := Int.mul_le_mul_of_nonneg_right (by omega) hA;have e : ((i + 1 : Nat) : Int) * A = (i : Int) * A + A := by rw [Int.natCast_add, Int.add_mul]; simp
 omega
theorem qAD {a b c i k : Nat} {A B : Int} {f h : Nat -> Nat -> G} (hA : 0 <= A) (hB : 0 <= B) (hf : BdF A a b f) (hh : BdF B b c h) (hb : b <= 1000) (hbd : (b : Int) * (2 * (A * B)) <= 9000000000000000000) (hb1 : 2 * (A * B) <= 9000000000000000000) (hi : i < a) (hk : k < c) :
  qa7 (i : Int) (k : Int) (mx b c h) (mx a b f) = some (qdr b f h i k) := by
 unfold qa7;rw [qew];have h0 : 0 <= 2 * (A * B) := by have := Int.mul_nonneg hA hB; omega
 rw [qmm b hb h0 hbd (fun j => qao (f i j) (h j k)) (fun j hj => (hf i j hi hj).mul (hh j k hj hk)) (fun j hj x y hxy => ?_) (fun x y => ?_)]
 ·rfl
 ·have e0 : decide ((j : Int) < (b : Int)) = true := decide_eq_true (by omega);simp only [e0, cond_true];rw [qxC f hi hj, qxC h hj hk];simp only [qa];rw [qhf (hf i j hi hj) (hh j k hj hk) hb1];simp only [qa];rw [qpo hxy ((hf i j hi hj).mul (hh j k hj hk)) (le_next h0 hj hbd)];rfl
 ·have e0 : decide ((b : Int) < (b : Int)) = false := by simp
  simp only [e0, cond_false]
theorem qDL {a b c : Nat} {A B : Int} {f h : Nat -> Nat -> G} (hA : 0 <= A) (hB : 0 <= B) (hf : BdF A a b f) (hh : BdF B b c h) (ha : a <= 1000) (hb : b <= 1000) (hb1 : 1 <= b) (hc : c <= 1000) (hbd : (b : Int) * (2 * (A * B)) <= 9000000000000000000) :
  qco (mx a b f) (mx b c h) = some (mx a c (qdr b f h)) := by
 unfold qco qat;rw [qoL, qmv h (by omega), qa, qK, qew];have h0 : 0 <= 2 * (A * B) := by have := Int.mul_nonneg hA hB; omega
 have h1 : 2 * (A * B) <= 9000000000000000000 := by
  have := Int.mul_le_mul_of_nonneg_right (show (1 : Int) <= b by omega) h0;omega
 have := qhI a c ha hc (fun i k => qa7 i k (mx b c h) (mx a b f)) (qdr b f h) (fun i k hi hk => qAD hA hB hf hh hb hbd h1 hi hk);show Option.bind _ _ = _;rw [this]; rfl
theorem qzK {n c : Nat} (hn : n <= 1000) (f : Nat -> Nat -> G) (hc : c < n + 1) : qY (mx (n + 1) (n + 1) f) 0 (c : Int) = some (mx n n (minor f 0 c)) := by
 unfold qY;rw [qew];refine Ok.eq ?_;rw [qa4];refine (qa8 (n + 1) (fun i (s : Mx × Int) => s = (mkL (i - 1) (fun j => mkL n fun k => minor f 0 c j k), (i : Int))) (fun r => r = mx n n (minor f 0 c)) rfl ?_).mono (fun a ha => by rw [ha]; exact qH.2 rfl);rintro i s hi rfl;by_cases hlt : i < n + 1
 ·have e0 : decide ((i : Int) < ((n + 1 : Nat) : Int)) = true := decide_eq_true (by omega);simp only [e0, cond_true];rw [qaj (qmv f hlt)];simp only [qa];by_cases hz : i = 0
  ·subst hz;simp only [Int.ofNat_eq_natCast, Int.natCast_zero, decide_true, Bool.not_true, cond_false, qa];rw [wid (by omega) (by omega), qM];exact ⟨by omega, rfl⟩
  ·have e1 : decide ((i : Int) = 0) = false := decide_eq_false (by omega);simp only [e1, Bool.not_false, cond_true];rw [quE (by rw [qK]; omega)];simp only [qa, decide_true, cond_true];rw [wid (n := (c : Int) + 1) (by omega) (by omega), quE (by rw [qK]; omega)];simp only [qa, qK];have e2 : ((c : Int) + 1).toNat = c + 1 := by omega
   have e3 : ((n + 1 : Nat) : Int).toNat = n + 1 := by omega
   have e4 : (0 : Int).toNat = 0 := rfl;rw [e2, e3, e4, Int.toNat_natCast, qCA (by simp [qK]; omega)];simp only [qa];rw [qCf (fun k => f i k) hc, qc6 (by rw [qK]; omega)];simp only [qa];rw [wid (by omega) (by omega), qM];refine ⟨hlt, ?_⟩;have e5 : i + 1 - 1 = (i - 1) + 1 := by omega
   rw [e5, qio];congr 1
   congr 2
   refine qbG fun k hk => ?_;unfold minor;congr 1
   all_goals (unfold skip; rw [if_neg (by omega)]; omega)
 ·have : i = n + 1 := by omega
  subst this;have e0 : decide (((n + 1 : Nat) : Int) < ((n + 1 : Nat) : Int)) = false := by simp
  simp only [e0, cond_false];rw [qW];rfl
theorem qtw {n c : Nat} (hn : n <= 1000) (f : Nat -> Nat -> G) (hc : c < n + 1) : qdN (mx (n + 1) (n + 1) f) 0 (c : Int) = some (mx n n (minor f 0 c)) := by
 unfold qdN;rw [qew];refine Ok.eq ?_;rw [qa4];refine (qa8 (n + 1) (fun i (s : Mx × Int) => s = (mkL (i - 1) (fun j => mkL n fun k => minor f 0 c j k), (i : Int))) (fun r => r = mx n n (minor f 0 c)) rfl ?_).mono (fun a ha => by rw [ha]; exact qH.2 rfl);rintro i s hi rfl;by_cases hlt : i < n + 1
 ·have e0 : decide ((i : Int) < ((n + 1 : Nat) : Int)) = true := decide_eq_true (by omega);simp only [e0, cond_true];by_cases hz : i = 0
  ·subst hz;simp only [Int.ofNat_eq_natCast, Int.natCast_zero, decide_true, cond_true, qa];rw [wid (by omega) (by omega), qM];exact ⟨by omega, rfl⟩
  ·have e1 : decide ((i : Int) = 0) = false := decide_eq_false (by omega);simp only [e1, cond_false];rw [qfG, qa4];refine (qa8 (n + 1) (fun k (s : List G × Int) => s = (mkL (if k <= c then k else k - 1) (fun k => f i (skip c k)), (k : Int))) (fun r => r = mkL n fun k => f i (skip c k)) ?_ ?_).mono ?_
   ·simp [qyP]
   ·rintro k s hk rfl;by_cases hlt2 : k < n + 1
    ·have e2 : decide ((k : Int) < ((n + 1 : Nat) : Int)) = true := decide_eq_true (by omega);simp only [e2, cond_true];by_cases hkc : k = c
     ·subst hkc;simp only [decide_true, Bool.not_true, cond_false, qa];rw [wid (by omega) (by omega), qM];refine ⟨hlt2, ?_⟩;rw [if_pos (by omega), if_neg (by omega)];rfl
     ·have e3 : decide ((k : Int) = (c : Int)) = false := decide_eq_false (by omega);simp only [e3, Bool.not_false, cond_true];rw [qaj (qmv f hlt)];simp only [qa];rw [qaj (qax (fun k => f i k) hlt2)];simp only [qa];rw [qc6 (by rw [qK]; split <;> omega)];simp only [qa];rw [wid (by omega) (by omega), qM];refine ⟨hlt2, ?_⟩;congr 1
      by_cases hkl : k < c
      ·rw [if_pos (by omega), if_pos (by omega), qio];congr 3
       unfold skip; rw [if_pos hkl]
      ·rw [if_neg (by omega), if_neg (by omega)];have e5 : k + 1 - 1 = (k - 1) + 1 := by omega
       rw [e5, qio];congr 3
       unfold skip; rw [if_neg (by omega)]; omega
    ·have : k = n + 1 := by omega
     subst this;have e2 : decide (((n + 1 : Nat) : Int) < ((n + 1 : Nat) : Int)) = false := by simp
     simp only [e2, cond_false];rw [qW, if_neg (by omega)];rfl
   ·rintro r rfl;rw [qc6 (by rw [qK]; omega)];simp only [qa];rw [qH, wid (by omega) (by omega), qM];refine ⟨hlt, ?_⟩;have e5 : i + 1 - 1 = (i - 1) + 1 := by omega
    rw [e5, qio];congr 1
    congr 2
    refine qbG fun k hk => ?_;unfold minor;congr 1
    all_goals (unfold skip; rw [if_neg (by omega)]; omega)
 ·have : i = n + 1 := by omega
  subst this;have e0 : decide (((n + 1 : Nat) : Int) < ((n + 1 : Nat) : Int)) = false := by simp
  simp only [e0, cond_false];rw [qW];rfl
theorem qBx {B : Int} (hB : 1 <= B) (n : Nat) : dB B n <= dB B (n + 1) := by
 have e : dB B (n + 1) = ((n + 1 : Nat) : Int) * (2 * (B * dB B n)) := rfl;rw [e];have h0 := qlu (show 0 <= B by omega) n;have h1 : dB B n <= B * dB B n := by
  have := Int.mul_le_mul_of_nonneg_right hB h0; omega
 have h2 : (1 : Int) * (2 * (B * dB B n)) <= ((n + 1 : Nat) : Int) * (2 * (B * dB B n)) := Int.mul_le_mul_of_nonneg_right (by omega) (by omega);omega
theorem qEo {B : Int} (hB : 1 <= B) : ∀ (k n : Nat) (f : Nat -> Nat -> G), n <= 100 -> n < k -> BdF B n n f -> dB B n <= 9000000000000000000 -> qag k (mx n n f) = some (qky n f)
 | 0, n, f, _, h, _, _ => by omega
 | k + 1, 0, f, _, _, _, _ => rfl
 | k + 1, n + 1, f, hn, hk, hf, hb => by
  have hB0 : 0 <= B := by omega
  have hD0 := qlu hB0 n;have h0 : 0 <= 2 * (B * dB B n) := by have := Int.mul_nonneg hB0 hD0; omega
  have hDn : dB B n <= 9000000000000000000 := by have := qBx hB n; omega
  have hb1 : 2 * (B * dB B n) <= 9000000000000000000 := by
   have h9 : (1 : Int) * (2 * (B * dB B n)) <= ((n + 1 : Nat) : Int) * (2 * (B * dB B n)) := Int.mul_le_mul_of_nonneg_right (by omega) h0;simp only [dB] at hb;omega
  have hunf : qag (k + 1) (mx (n + 1) (n + 1) f) = (bif decide (((mx (n + 1) (n + 1) f).length : Int) = 0) then some (1, 0, ()) else
   (qF (fun (s2 : (Int × Int × Int)) =>
    bif decide (s2.1 < ((mx (n + 1) (n + 1) f).length : Int)) then
     (qaa (mx (n + 1) (n + 1) f) (0 : Int) s2.1).bind fun x3 =>
     (qY (mx (n + 1) (n + 1) f) (0 : Int) s2.1).bind fun x4 =>
     (qag k x4).bind fun x5 =>
     (qac x3 x5).bind fun x6 =>
     (bif decide (s2.1.tmod 2 = 1) then
       (qX (0, 0, ()) x6).bind fun x7 =>
       some (x7.1, x7.2.1)
      else
       some (x6.1, x6.2.1)).bind fun (p8 : (Int × Int)) =>
     (qa5 (s2.2.1, s2.2.2, ()) (p8.1, p8.2, ())).bind fun x9 =>
     some (.inl (w64 (s2.1 + 1), x9.1, x9.2.1))
    else
     some (.inr (s2.2.1, s2.2.2))) (0, 0, 0)).bind fun (p10 : (Int × Int)) =>
   some (p10.1, p10.2, ())) := rfl
  rw [hunf, qew];have e0 : decide (((n + 1 : Nat) : Int) = 0) = false := decide_eq_false (by omega);rw [e0, cond_false];have htb : ∀ j, j < n + 1 -> Bd (2 * (B * dB B n)) (qao (f 0 j) (qky n (minor f 0 j))) := fun j hj => (hf 0 j (by omega) hj).mul (qpA hB0 n _ (qeQ hf));rw [qmm (n + 1) (by omega) h0 hb (fun j => if j % 2 = 1 then qtH (qao (f 0 j) (qky n (minor f 0 j))) else qao (f 0 j) (qky n (minor f 0 j)))
   (fun j hj => by
           split; · exact (htb j hj).neg
           ·exact htb j hj) (fun j hj x y hxy => ?_) (fun x y => ?_)]
  ·rfl
  ·have e1 : decide ((j : Int) < ((n + 1 : Nat) : Int)) = true := decide_eq_true (by omega);simp only [e1, cond_true];have hat := qxC (n := n + 1) (c := n + 1) f (i := 0) (k := j) (by omega) hj;simp only [Int.natCast_zero] at hat;rw [hat];simp only [qa];rw [qzK (by omega) f hj];simp only [qa];rw [qEo hB k n _ (by omega) (by omega) (qeQ hf) hDn];simp only [qa];rw [qhf (hf 0 j (by omega) hj) (qpA hB0 n _ (qeQ (r := 0) (c := j) hf)) hb1];simp only [qa];have htm : (j : Int).tmod 2 = ((j % 2 : Nat) : Int) := by rw [Int.tmod_eq_emod_of_nonneg (by omega)]; omega
   rw [htm];by_cases hp : j % 2 = 1
   ·have e2 : decide (((j % 2 : Nat) : Int) = 1) = true := decide_eq_true (by omega);rw [e2, cond_true, if_pos hp];have hm : qX (0, 0, ()) (qao (f 0 j) (qky n (minor f 0 j))) = some (qtH (qao (f 0 j) (qky n (minor f 0 j)))) := by
     have := qBG (a := g0) (qtz (B := 0) (by omega)) (htb j hj) (by omega);rw [qvM] at this;exact congrArg some this
    rw [hm];simp only [qa, qG4];rw [qpo hxy (htb j hj).neg (le_next h0 hj hb)];rfl
   ·have e2 : decide (((j % 2 : Nat) : Int) = 1) = false := decide_eq_false (by omega);rw [e2, cond_false, if_neg hp];simp only [qa, qG4];rw [qpo hxy (htb j hj) (le_next h0 hj hb)];rfl
  ·have e1 : decide (((n + 1 : Nat) : Int) < ((n + 1 : Nat) : Int)) = false := by simp
   simp only [e1, cond_false]
theorem qFn (n : Nat) (h : n <= 1000000000) : qlU (n : Int) 2 = some ((n % 2 : Nat) : Int) := by
 unfold qlU;have e : ((n : Int).tmod 2) = ((n % 2 : Nat) : Int) := by rw [Int.tmod_eq_emod_of_nonneg (by omega)]; omega
 rw [e];have e1 : decide ((2 : Int) = 0) = false := by decide
 have e2 : decide (((n % 2 : Nat) : Int) < 0) = false := decide_eq_false (by omega);simp only [e1, e2, cond_false, qa]
theorem qve {B : Int} (hB : 1 <= B) : ∀ (k n : Nat) (f : Nat -> Nat -> G), n <= 100 -> n < k -> BdF B n n f -> dB B n <= 9000000000000000000 -> qbl k (mx n n f) = some (qky n f)
 | 0, n, f, _, h, _, _ => by omega
 | k + 1, 0, f, _, _, _, _ => rfl
 | k + 1, n + 1, f, hn, hk, hf, hb => by
  have hB0 : 0 <= B := by omega
  have hD0 := qlu hB0 n;have h0 : 0 <= 2 * (B * dB B n) := by have := Int.mul_nonneg hB0 hD0; omega
  have hDn : dB B n <= 9000000000000000000 := by have := qBx hB n; omega
  have hb1 : 2 * (B * dB B n) <= 9000000000000000000 := by
   have h9 : (1 : Int) * (2 * (B * dB B n)) <= ((n + 1 : Nat) : Int) * (2 * (B * dB B n)) := Int.mul_le_mul_of_nonneg_right (by omega) h0;simp only [dB] at hb;omega
  have hunf : qbl (k + 1) (mx (n + 1) (n + 1) f) = (bif decide (((mx (n + 1) (n + 1) f).length : Int) = 0) then some (1, 0, ()) else
   (qF (fun (s2 : (Int × Int × Int)) =>
    bif decide (s2.1 < ((mx (n + 1) (n + 1) f).length : Int)) then
     (idx (mx (n + 1) (n + 1) f) 0).bind fun x3 =>
     (idx x3 s2.1).bind fun x4 =>
     (qdN (mx (n + 1) (n + 1) f) (0 : Int) s2.1).bind fun x5 =>
     (qbl k x5).bind fun x6 =>
     (qjo x4 x6).bind fun x7 =>
     (qlU s2.1 (2 : Int)).bind fun x8 =>
     (bif decide (x8 = 0) then
       (qiV (s2.2.1, s2.2.2, ()) x7).bind fun x9 =>
       some (x9.1, x9.2.1)
      else
       (qgd (s2.2.1, s2.2.2, ()) x7).bind fun x10 =>
       some (x10.1, x10.2.1)).bind fun (p11 : (Int × Int)) =>
     some (.inl (w64 (s2.1 + 1), p11.1, p11.2))
    else
     some (.inr (s2.2.1, s2.2.2))) (0, 0, 0)).bind fun (p12 : (Int × Int)) =>
   some (p12.1, p12.2, ())) := rfl
  rw [hunf, qew];have e0 : decide (((n + 1 : Nat) : Int) = 0) = false := decide_eq_false (by omega);rw [e0, cond_false];have htb : ∀ j, j < n + 1 -> Bd (2 * (B * dB B n)) (qao (f 0 j) (qky n (minor f 0 j))) := fun j hj => (hf 0 j (by omega) hj).mul (qpA hB0 n _ (qeQ hf));rw [qmm (n + 1) (by omega) h0 hb (fun j => if j % 2 = 1 then qtH (qao (f 0 j) (qky n (minor f 0 j))) else qao (f 0 j) (qky n (minor f 0 j)))
   (fun j hj => by
           split; · exact (htb j hj).neg
           ·exact htb j hj) (fun j hj x y hxy => ?_) (fun x y => ?_)]
  ·rfl
  ·have e1 : decide ((j : Int) < ((n + 1 : Nat) : Int)) = true := decide_eq_true (by omega);simp only [e1, cond_true];rw [qoL, qmv f (by omega)];simp only [qa];rw [qaj (qax (fun k => f 0 k) hj)];simp only [qa];rw [qtw (by omega) f hj];simp only [qa];rw [qve hB k n _ (by omega) (by omega) (qeQ hf) hDn];simp only [qa];rw [qAN (hf 0 j (by omega) hj) (qpA hB0 n _ (qeQ (r := 0) (c := j) hf)) hb1];simp only [qa];rw [qFn j (by omega)];simp only [qa];by_cases hp : j % 2 = 1
   ·have e2 : decide (((j % 2 : Nat) : Int) = 0) = false := decide_eq_false (by omega);rw [e2, cond_false, if_pos hp];have hm : qgd (x, y, ()) (qao (f 0 j) (qky n (minor f 0 j))) = some (qdL (x, y, ()) (qtH (qao (f 0 j) (qky n (minor f 0 j))))) := by
     have := qBG hxy (htb j hj) (le_next h0 hj hb);rw [qFp] at this;exact congrArg some this
    rw [hm];rfl
   ·have e2 : decide (((j % 2 : Nat) : Int) = 0) = true := decide_eq_true (by omega);rw [e2, cond_true, if_neg hp];rw [qBB hxy (htb j hj) (le_next h0 hj hb)];rfl
  ·have e1 : decide (((n + 1 : Nat) : Int) < ((n + 1 : Nat) : Int)) = false := by simp
   simp only [e1, cond_false]
end Go.Proofs.YtbcdgfgacigaoaaGreat.Mat
end
section
namespace Go.Proofs.YtbcdgfgacigaoaaGreat.Mat
open Go Go.Ab Go.Tx Go.Proofs.YtbcdgfgacigaoaaGreat
theorem qha {l : List G} (h : l.length <= 1000000000) : qbq l = some l := by
 unfold qbq; rw [qFD (by omega)]; rfl
theorem qlS {m : Mx} (h : m.length <= 1000000000) (hr : ∀ r ∈ m, r.length <= 1000000000) : qb9 m = some m := by
 unfold qb9;rw [qFs m (fun r => r) (fun i a out hi ho => ?_) (fun out ho => ?_)]
 ·simp
 ·have hlt := qmf hi;have e0 : decide ((i : Int) < (m.length : Int)) = true := decide_eq_true (by omega);simp only [e0, cond_true, qaj hi, qa];rw [qha (hr a (List.mem_of_getElem? hi))];simp only [qa];rw [qc6 (by omega)];simp only [qa];rw [wid (by omega) (by omega)]
 ·have e0 : decide ((m.length : Int) < (m.length : Int)) = false := by simp
  simp only [e0, cond_false]
theorem qCc (a b : G) : (bif decide (a.1 = b.1) then (bif decide (a.2.1 = b.2.1) then true else false) else false) = decide (a = b) := by
 rw [Bool.eq_iff_iff];rw [decide_eq_true_iff, qDB];by_cases h1 : a.1 = b.1 <;> by_cases h2 : a.2.1 = b.2.1 <;> simp [h1, h2]
def qCS (m : Mx) (rows : Nat) : Prop := m.length <= rows /\ ∀ r ∈ m, r.length <= 5
theorem qD4 (m : Mx) (rows : Nat) (h : rows <= 1000) : Ok (qhY m (rows : Int)) fun b => b = true -> qCS m rows := by
 unfold qhY;by_cases hl : m.length <= rows
 case neg =>
  have d : decide ((m.length : Int) > (rows : Int)) = true := decide_eq_true (by omega);rw [d, cond_true]; exact qH.2 (by simp)
 have d : decide ((m.length : Int) > (rows : Int)) = false := decide_eq_false (by omega);rw [d, cond_false, qhS m _ (fun _ r => if r.length <= 5 then none else some false) (fun i a hi => ?_), qeE]
 ·cases hf : qgz (fun _ (r : List G) => if r.length <= 5 then none else some false) 0 m with
  | none =>
   rw [qfY] at hf;refine qH.2 fun _ => ⟨hl, fun r hr => ?_⟩
   obtain ⟨i, hi⟩ := List.mem_iff_getElem?.1 hr;have := hf i r hi;simpa using this
  | some r =>
   obtain ⟨i, a, _, h2, _⟩ := qf0 hf;refine qH.2 fun h3 => ?_;subst h3;split at h2 <;> cases h2
 ·have hlt := qmf hi;rw [qaj hi, wid (by omega) (by omega)];simp only [qa];by_cases c : a.length <= 5
  ·have d : decide ((a.length : Int) > 5) = false := decide_eq_false (by omega);simp only [d, cond_false, c, if_true, stp]
  ·have d : decide ((a.length : Int) > 5) = true := decide_eq_true (by omega);simp only [d, cond_true, c, if_false, stp]
theorem qEx (m : Mx) : Ok (qjf m) fun b => b = true -> qCS m 5 := by
 unfold qjf;exact Ok.bind (qD4 m 5 (by omega)) fun b hb => qH.2 hb
end Go.Proofs.YtbcdgfgacigaoaaGreat.Mat
end
section
set_option maxRecDepth 1000000
namespace Go.Tx
open Go
def dd (a b c d e f g h i : G) : G := qdL (qgu (qao a (qgu (qao e i) (qao f h))) (qao b (qgu (qao d i) (qao f g)))) (qao c (qgu (qao d h) (qao e g)))
theorem qEY (f : Nat -> Nat -> G) : qky 1 f = f 0 0 := by
 simp only [qky, qeY];exact qo4 (by simp [qao, g1, g0, qdL]) (by simp [qao, g1, g0, qdL])
end Go.Tx
end
section
namespace Go.Proofs.YtbcdgfgacigaoaaGreat.Mat
open Go Go.Ab Go.Tx Go.Proofs.YtbcdgfgacigaoaaGreat
theorem qpJ {n : Int} (h : -9223372036854775807 <= n /\ n <= 9223372036854775807) : qbk n = some (n.natAbs : Int) := by
 unfold qbk;rw [wid (by omega) (by omega)];congr 1; omega
theorem qzU (l : List Int) (hl : l.length <= 1000000000) (hb : ∀ x ∈ l, x.natAbs <= 4611686018427387904) : qaq l = some (qwf l : Int) := by
 unfold qaq; exact qvr l hl hb
theorem qxh {n r c : Nat} (hn : n <= 1000) (f : Nat -> Nat -> G) (hr : r < n + 1) (hc : c < n + 1) : qY (mx (n + 1) (n + 1) f) (r : Int) (c : Int) = some (mx n n (minor f r c)) := by
 unfold qY;rw [qew];refine Ok.eq ?_;rw [qa4];refine (qa8 (n + 1) (fun i (s : Mx × Int) => s = (mkL (if i <= r then i else i - 1) (fun j => mkL n fun k => minor f r c j k), (i : Int))) (fun q => q = mx n n (minor f r c)) (by simp [qyP]) ?_).mono (fun a ha => by rw [ha]; exact qH.2 rfl);rintro i s hi rfl;by_cases hlt : i < n + 1
 ·have e0 : decide ((i : Int) < ((n + 1 : Nat) : Int)) = true := decide_eq_true (by omega);simp only [e0, cond_true];rw [qaj (qmv f hlt)];simp only [qa];by_cases hz : i = r
  ·subst hz;simp only [decide_true, Bool.not_true, cond_false, qa];rw [wid (by omega) (by omega), qM];refine ⟨hlt, ?_⟩;rw [if_pos (Nat.le_refl _), if_neg (by omega)]; rfl
  ·have e1 : decide ((i : Int) = (r : Int)) = false := decide_eq_false (by omega);simp only [e1, Bool.not_false, cond_true];rw [quE (by rw [qK]; omega)];simp only [qa, decide_true, cond_true];rw [wid (n := (c : Int) + 1) (by omega) (by omega), quE (by rw [qK]; omega)];simp only [qa, qK];have e2 : ((c : Int) + 1).toNat = c + 1 := by omega
   have e3 : ((n + 1 : Nat) : Int).toNat = n + 1 := by omega
   have e4 : (0 : Int).toNat = 0 := rfl;rw [e2, e3, e4, Int.toNat_natCast, qCA (by simp [qK]; omega)];simp only [qa];rw [qCf (fun k => f i k) hc, qc6 (by rw [qK]; split <;> omega)];simp only [qa];rw [wid (by omega) (by omega), qM];refine ⟨hlt, ?_⟩;congr 1
   by_cases hir : i < r
   ·rw [if_pos (by omega), if_pos (by omega), qio];congr 2
    refine qbG fun k hk => ?_;unfold minor;rw [show skip r i = i by unfold skip; rw [if_pos hir]]
   ·rw [if_neg (by omega), if_neg (by omega)];have e5 : i + 1 - 1 = (i - 1) + 1 := by omega
    rw [e5, qio];congr 2
    refine qbG fun k hk => ?_;unfold minor;rw [show skip r (i - 1) = i by unfold skip; rw [if_neg (by omega)]; omega]
 ·have : i = n + 1 := by omega
  subst this;have e0 : decide (((n + 1 : Nat) : Int) < ((n + 1 : Nat) : Int)) = false := by simp
  simp only [e0, cond_false];rw [qW, if_neg (by omega)];rfl
def parts (l : List G) : List Int := l.flatMap fun z => [z.1, z.2.1]
def qnD (m : Mx) : List Int := m.flatMap parts
theorem qBj (l : List G) (z : G) : parts (l ++ [z]) = parts l ++ [z.1] ++ [z.2.1] := by simp [parts]
theorem qz2 (m : Mx) (r : List G) : qnD (m ++ [r]) = qnD m ++ parts r := by simp [qnD]
theorem qyq : ∀ (l m : List Int) (g : Nat), qq2 g (l ++ m) = qq2 (qq2 g l) m
 | [], m, g => rfl
 | x :: l, m, g => by simp only [List.cons_append, qq2]; exact qyq l m _
def qg (den : Int) (m : Mx) : Nat := qq2 den.natAbs (qnD m)
def qE5 (g : Int) (f : Nat -> Nat -> G) (i k : Nat) : G := ((f i k).1.tdiv g, (f i k).2.1.tdiv g, ())
theorem qyB {B : Int} {l : List G} (h : ∀ z ∈ l, Bd B z) {x : Int} (hx : x ∈ parts l) : -B <= x /\ x <= B := by
 unfold parts at hx;obtain ⟨z, hz, hx⟩ := List.mem_flatMap.1 hx;have := h z hz;unfold Bd at this;simp only [List.mem_cons, List.not_mem_nil, or_false] at hx;rcases hx with rfl | rfl <;> omega
theorem qAF {B : Int} {m : Mx} (h : BdM B m) {x : Int} (hx : x ∈ qnD m) : -B <= x /\ x <= B := by
 unfold qnD at hx;obtain ⟨r, hr, hx⟩ := List.mem_flatMap.1 hx;exact qyB (h r hr) hx
theorem qGz {B : Int} {den : Int} {m : Mx} (h0 : 0 <= den) (hd : den <= B) (h : BdM B m) : (qg den m : Int) <= B := by
 have : qg den m <= B.toNat := qtg (by omega) fun x hx => by have := qAF h hx; omega
 omega
theorem qFQ {den : Int} {m : Mx} (h : den ≠ 0) : 0 < qg den m := by
 rcases Nat.eq_zero_or_pos (qg den m) with h0 | h0
 ·have := (qvs.1 h0).1; omega
 ·exact h0
theorem qFF {B : Int} (hB : B <= 4611686018427387904) {r : List G} (hl : r.length <= 1000000) (h : ∀ z ∈ r, Bd B z) {g : Nat} (hg : (g : Int) <= B) {K : Nat × Int -> Prop} :
  Ok (qF (fun (s5 : (Int × Int)) =>
      bif decide (s5.1 < (r.length : Int)) then
       (idx r s5.1).bind fun x6 =>
       (qaq ([s5.2, x6.1, x6.2.1])).bind fun x7 =>
       some (.inl (w64 (s5.1 + 1), x7))
      else
       some (.inr s5.2)) (0, (g : Int))) fun x => x = (qq2 g (parts r) : Int) := by
 refine qa8 r.length (fun i (s : Int × Int) => s = ((i : Int), (qq2 g (parts (r.take i)) : Int))) _ rfl ?_;rintro i s hi rfl;by_cases hlt : i < r.length
 ·have e0 : decide ((i : Int) < (r.length : Int)) = true := decide_eq_true (by omega);have hz : r[i]? = some (r.getD i g0) := qua _ hlt;have hb := h _ (qd6 (d := g0) hlt);have hgb : qq2 g (parts (r.take i)) <= B.toNat := qtg (by omega) fun x hx => by
   have := qyB (fun z hz => h z (List.mem_of_mem_take hz)) hx; omega
  unfold Bd at hb;simp only [e0, cond_true];rw [qaj hz];simp only [qa];rw [qzU _ (by simp) (by
   intro x hx;simp only [List.mem_cons, List.not_mem_nil, or_false] at hx;rcases hx with rfl | rfl | rfl <;> omega)]
  simp only [qa];rw [wid (by omega) (by omega), qM];refine ⟨hlt, ?_⟩;congr 2
  rw [qhq g0 hlt, qBj, qlV, qlV, qzr];rfl
 ·have : i = r.length := by omega
  subst this;have e0 : decide ((r.length : Int) < (r.length : Int)) = false := by simp
  simp only [e0, cond_false];rw [qW, List.take_length]
theorem qFG {B den : Int} (hB : B <= 4611686018427387904) {m : Mx} (hl : m.length <= 1000000) (hr : ∀ r ∈ m, r.length <= 1000000) (h : BdM B m) (h0 : 0 <= den) (hd : den <= B) :
  qF (fun (s2 : (Int × Int)) =>
   bif decide (s2.1 < (m.length : Int)) then
    (idx m s2.1).bind fun x3 =>
    (qF (fun (s5 : (Int × Int)) =>
      bif decide (s5.1 < (x3.length : Int)) then
       (idx x3 s5.1).bind fun x6 =>
       (qaq ([s5.2, x6.1, x6.2.1])).bind fun x7 =>
       some (.inl (w64 (s5.1 + 1), x7))
      else
       some (.inr s5.2)) (0, s2.2)).bind fun (p8 : Int) =>
    some (.inl (w64 (s2.1 + 1), p8))
   else
    some (.inr s2.2)) (0, den) = some (qg den m : Int) := by
 refine Ok.eq (qa8 m.length (fun i (s : Int × Int) => s = ((i : Int), (qg den (m.take i) : Int))) _ (by
  have : ((qg den (m.take 0) : Nat) : Int) = den := by simp [qg, qnD, qq2] <;> omega
  rw [this]; rfl) ?_)
 rintro i s hi rfl;by_cases hlt : i < m.length
 ·have e0 : decide ((i : Int) < (m.length : Int)) = true := decide_eq_true (by omega);have hz : m[i]? = some (m.getD i []) := qua _ hlt;have hmem := qd6 (d := ([] : List G)) hlt;simp only [e0, cond_true];rw [qaj hz];simp only [qa];rw [qfG];refine (qFF hB (hr _ hmem) (h _ hmem) (qGz h0 hd (fun r hr => h r (List.mem_of_mem_take hr))) (K := fun _ => True)).mono ?_;rintro x rfl;rw [wid (by omega) (by omega), qM];refine ⟨hlt, ?_⟩;congr 2
  rw [qhq [] hlt];unfold qg;rw [qz2, qyq]
 ·have : i = m.length := by omega
  subst this;have e0 : decide ((m.length : Int) < (m.length : Int)) = false := by simp
  simp only [e0, cond_false];rw [qW, List.take_length]
theorem qiO {x g B : Int} (h : -B <= x /\ x <= B) : -B <= x.tdiv g /\ x.tdiv g <= B := by
 have h1 : (x.tdiv g).natAbs <= x.natAbs := by rw [Int.natAbs_tdiv]; exact Nat.div_le_self _ _
 omega
def qFx (n c : Nat) (f : Nat -> Nat -> G) (den : Int) : Int × Mx × Unit := (den.tdiv (qg den (mx n c f)), mx n c (qE5 (qg den (mx n c f)) f), ())
theorem qFV {n c : Nat} (hn : n <= 1000) (hc : c <= 1000) (m : Mx) (g : Int) (f : Nat -> Nat -> G) (h : ∀ i k : Nat, i < n -> k < c -> qcb i k m g = some (f i k)) : qak (n : Int) (c : Int) m g = some (mx n c f) := by
 unfold qak;exact qhI n c hn hc (fun i k => qcb i k m g) f h
theorem qw2 {n c : Nat} {B den : Int} {f : Nat -> Nat -> G} (hB : B <= 4611686018427387904) (hn : 1 <= n) (hn2 : n <= 1000) (hc : c <= 1000) (h : BdF B n c f) (h0 : 0 < den) (hd : den <= B) :
  qe1 (mx n c f) den = some (qFx n c f den) := by
 unfold qe1;rw [qFG hB (by rw [qew]; omega) (fun r hr => by rw [(qFr n c f).2 r hr]; omega) (qGm.2 h) (by omega) hd];simp only [qa];rw [qoL, qmv f (by omega), qa, qK, qew];have hg : 0 < qg den (mx n c f) := qFQ (by omega);have hgne : decide ((qg den (mx n c f) : Int) = 0) = false := decide_eq_false (by omega);have hm := qFV hn2 hc (mx n c f) (qg den (mx n c f)) (qE5 (qg den (mx n c f)) f) (fun i k hi hk => by
  unfold qcb;rw [qaj (qmv f hi)];simp only [qa];rw [qaj (qax (fun k => f i k) hk)];simp only [qa, hgne, cond_false];have hb := h i k hi hk;unfold Bd at hb;have t1 := qiO (g := (qg den (mx n c f) : Int)) hb.1;have t2 := qiO (g := (qg den (mx n c f) : Int)) hb.2;rw [wid (by omega) (by omega), wid (by omega) (by omega)];rfl)
 rw [hm];simp only [qa, hgne, cond_false];have t3 := qiO (g := (qg den (mx n c f) : Int)) (B := B) (x := den) (by omega);rw [wid (by omega) (by omega)];rfl
end Go.Proofs.YtbcdgfgacigaoaaGreat.Mat
end
section
namespace Go.Proofs.YtbcdgfgacigaoaaGreat.Mat
open Go Go.Ab Go.Tx Go.Proofs.YtbcdgfgacigaoaaGreat
def dC (B : Int) : Nat -> Int
 | 0 => 1
 | 1 => B
 | n + 2 => ((n + 2 : Nat) : Int) * (2 * (B * dC B (n + 1)))
theorem qs4 {B : Int} (hB : 0 <= B) : ∀ (n : Nat) (f : Nat -> Nat -> G), BdF B n n f -> Bd (dC B n) (qky n f)
 | 0, f, _ => qEC (by simp [dC])
 | 1, f, h => by rw [qEY]; exact h 0 0 (by omega) (by omega)
 | n + 2, f, h => by
  simp only [qky, dC];refine Bd.sum fun k hk => ?_;have h1 := (h 0 k (by omega) hk).mul (qs4 hB (n + 1) _ (qeQ (r := 0) (c := k) h));split
  ·exact h1.neg
  ·exact h1
def qF2 (n : Nat) (f : Nat -> Nat -> G) (i k : Nat) : G := qky n (minor f k i)
def qGs (n : Nat) (f : Nat -> Nat -> G) (i k : Nat) : G := if (i + k) % 2 = 1 then qtH (qF2 n f i k) else qF2 n f i k
def qAn (n : Nat) (f : Nat -> Nat -> G) (d : G) (i k : Nat) : G := qao (qGs n f i k) (quu d)
def norm (d : G) : Int := d.1 * d.1 + d.2.1 * d.2.1
theorem qCZ (d : G) : qao d (quu d) = (norm d, 0, ()) := qo4 (by simp only [qao, quu, norm]; grind) (by simp only [qao, quu]; grind)
theorem qsZ {d : G} (h : d ≠ g0) : 0 < norm d := by
 unfold norm;have h1 := sq_nonneg d.1;have h2 := sq_nonneg d.2.1;rcases Int.lt_or_le 0 (d.1 * d.1 + d.2.1 * d.2.1) with h3 | h3
 ·exact h3
 ·exfalso
  have e1 := qAQ (show d.1 * d.1 = 0 by omega);have e2 := qAQ (show d.2.1 * d.2.1 = 0 by omega);exact h (qo4 e1 e2)
theorem qCN {B : Int} {d : G} (h : Bd B d) (hB : B <= 9000000000000000000) : qce d = some (quu d) := by
 unfold qce quu;unfold Bd at h;rw [wid (by omega) (by omega)];have e : (0 : Int) - d.2.1 = -d.2.1 := by omega
 rw [e]
theorem neg_mul (a b : G) : qao (qtH a) b = qtH (qao a b) := qo4 (by simp only [qao, qtH]; grind) (by simp only [qao, qtH]; grind)
theorem qBF {B : Int} {a : G} (h : Bd B a) (hB : B <= 9000000000000000000) : qX (0, 0, ()) a = some (qtH a) := by
 have := qBG (a := g0) (qtz (B := 0) (by omega)) h (by omega);rw [qvM] at this;exact congrArg some this
theorem qGV (j : Nat) : (j : Int).tmod 2 = ((j % 2 : Nat) : Int) := by rw [Int.tmod_eq_emod_of_nonneg (by omega)]; omega
theorem qDP {n c : Nat} (hn : n <= 1000) (hc : c <= 1000) (m : Mx) (d : G) (f : Nat -> Nat -> G) (h : ∀ i k : Nat, i < n -> k < c -> qaI i k m d = some (f i k)) : qR (n : Int) (c : Int) m d = some (mx n c f) := by
 unfold qR;exact qhI n c hn hc (fun i k => qaI i k m d) f h
structure InvB (n : Nat) (f : Nat -> Nat -> G) (d : G) (B M D Q : Int) : Prop where
 hB : 1 <= B
 hf : BdF B (n + 1) (n + 1) f
 crude : dB B n <= 9000000000000000000
 minor : ∀ i k, i < n + 1 -> k < n + 1 -> Bd M (qF2 n f i k)
 hd : Bd D d
 md : 2 * (M * D) <= Q
 dd : 2 * (D * D) <= 9000000000000000000
 hQ : Q <= 4611686018427387904
 M0 : M <= 9000000000000000000
 D0 : D <= 9000000000000000000
 nq : norm d <= Q
 nz : d ≠ g0
theorem InvB.adj {n : Nat} {f : Nat -> Nat -> G} {d : G} {B M D Q : Int} (h : InvB n f d B M D Q) {i k : Nat} (hi : i < n + 1) (hk : k < n + 1) : Bd M (qGs n f i k) := by
 unfold qGs;split
 ·exact (h.minor i k hi hk).neg
 ·exact h.minor i k hi hk
theorem InvB.t {n : Nat} {f : Nat -> Nat -> G} {d : G} {B M D Q : Int} (h : InvB n f d B M D Q) : BdF Q (n + 1) (n + 1) (qAn n f d) := fun i k hi hk => ((h.adj hi hk).mul h.hd.qFL).mono h.md
theorem qFX {n : Nat} {f : Nat -> Nat -> G} {B : Int} (hB : 1 <= B) (hn : n <= 10) (hf : BdF B n n f) (hb : dB B n <= 9000000000000000000) : q6 (mx n n f) = some (qky n f) := by
 unfold q6; exact qEo hB 12 n f (by omega) (by omega) hf hb
theorem qDY {n : Nat} {f : Nat -> Nat -> G} {B : Int} (hB : 1 <= B) (hn : n <= 10) (hf : BdF B n n f) (hb : dB B n <= 9000000000000000000) : qbL (mx n n f) = some (qky n f) := by
 unfold qbL; exact qve hB 12 n f (by omega) (by omega) hf hb
theorem qzb {n : Nat} {f : Nat -> Nat -> G} {d : G} {B M D Q : Int} (hn : n <= 5) (h : InvB n f d B M D Q) :
  qbB (mx (n + 1) (n + 1) f) d = some (qFx (n + 1) (n + 1) (qAn n f d) (norm d)) := by
 unfold qbB;rw [qew];have h2Q : 2 * (M * D) <= 9000000000000000000 := by have := h.md; have := h.hQ; omega
 rw [qDP (by omega) (by omega) _ d (qAn n f d) (fun i k hi hk => by
  unfold qaI;rw [qxh (by omega) f hk hi];simp only [qa];rw [qFX h.hB (by omega) (qeQ h.hf) h.crude];simp only [qa];rw [qCN h.hd h.D0];simp only [qa];have hb := h.minor i k hi hk;unfold qF2 at hb;rw [qhf hb h.hd.qFL h2Q];simp only [qa];rw [wid (by omega) (by omega)];have e0 : ((i : Int) + (k : Int)) = ((i + k : Nat) : Int) := by omega
  rw [e0, qGV];unfold qAn qGs qF2;by_cases hp : (i + k) % 2 = 1
  ·have e2 : decide ((((i + k) % 2 : Nat) : Int) = 1) = true := decide_eq_true (by omega);rw [e2, cond_true, if_pos hp, qBF (hb.mul h.hd.qFL) h2Q, neg_mul]; rfl
  ·have e2 : decide ((((i + k) % 2 : Nat) : Int) = 1) = false := decide_eq_false (by omega);rw [e2, cond_false, if_neg hp])]
 simp only [qa];rw [qCN h.hd h.D0];simp only [qa];rw [qhf h.hd h.hd.qFL h.dd, qCZ];simp only [qa];rw [qw2 h.hQ (by omega) (by omega) (by omega) h.t (qsZ h.nz) h.nq];rfl
def qaH (z : G) : Int := (z.1.natAbs : Int) + (z.2.1.natAbs : Int)
def qq3 : Nat -> (Nat -> Int) -> Int
 | 0, _ => 0
 | n + 1, f => qq3 n f + f n
def qte : Nat -> (Nat -> Int) -> Int
 | 0, _ => 0
 | n + 1, f => max (qte n f) (f n)
def qwQ (n c : Nat) (f : Nat -> Nat -> G) : Int := qte n fun i => qq3 c fun k => qaH (f i k)
theorem qid {B : Int} {z : G} (h : Bd B z) : 0 <= qaH z /\ qaH z <= 2 * B := by unfold qaH; unfold Bd at h; omega
theorem qqc {B : Int} {f : Nat -> Int} : ∀ {n : Nat}, (∀ k, k < n -> 0 <= f k /\ f k <= B) -> 0 <= qq3 n f /\ qq3 n f <= n * B
 | 0, _ => by simp [qq3]
 | n + 1, h => by
  have h1 := qqc (n := n) fun k hk => h k (by omega);have h2 := h n (by omega);have e : ((n + 1 : Nat) : Int) * B = n * B + B := by rw [Int.natCast_add, Int.add_mul]; simp
  simp only [qq3] <;> omega
theorem qth {B : Int} (hB : 0 <= B) {f : Nat -> Int} : ∀ {n : Nat}, (∀ k, k < n -> f k <= B) -> 0 <= qte n f /\ qte n f <= B
 | 0, _ => by simp [qte, hB]
 | n + 1, h => by
  have h1 := qth hB (n := n) fun k hk => h k (by omega);have h2 := h n (by omega);simp only [qte] <;> omega
theorem qFH {B : Int} {z : G} (h : Bd B z) (hB : B <= 4000000000000000000) : qdu z = some (qaH z) := by
 unfold qdu qaH;unfold Bd at h;rw [wid (n := 0 - z.1) (by omega) (by omega), wid (n := 0 - z.2.1) (by omega) (by omega), wid (by omega) (by omega)];congr 1; omega
theorem qsE {B : Int} {z : G} (h : Bd B z) (hB : B <= 4000000000000000000) : qhk z = some (qaH z) := by
 unfold qhk qaH;unfold Bd at h;rw [qpJ (by omega), qpJ (by omega)];simp only [qa];rw [wid (by omega) (by omega)]
theorem qEm {c k : Nat} {B : Int} (hB : 0 <= B) (h : k <= c) : (k : Int) * (2 * B) <= c * (2 * B) := Int.mul_le_mul_of_nonneg_right (by omega) (by omega)
theorem qAz {n c : Nat} {B : Int} {f : Nat -> Nat -> G} (hB0 : 0 <= B) (hf : BdF B n c f) (hn : n <= 1000) (hc : c <= 1000) (hb : (c : Int) * (2 * B) <= 4000000000000000000) (hB : B <= 4000000000000000000) : qbY (mx n c f) = some (qwQ n c f) := by
 unfold qbY;rw [qew];refine Ok.eq ?_;rw [qa4];refine (qa8 n (fun i (s : Int × Int) => s = (qte i (fun i => qq3 c fun k => qaH (f i k)), (i : Int))) (fun r => r = qwQ n c f) rfl ?_).mono (fun a ha => by rw [ha]; exact qH.2 rfl);rintro i s hi rfl;by_cases hlt : i < n
 ·have e0 : decide ((i : Int) < (n : Int)) = true := decide_eq_true (by omega);simp only [e0, cond_true];rw [qaj (qmv f hlt)];simp only [qa, qK];rw [qfG];refine (qa8 c (fun k (s : Int × Int) => s = (qq3 k (fun k => qaH (f i k)), (k : Int))) (fun r => r = qq3 c fun k => qaH (f i k)) rfl ?_).mono ?_
  ·rintro k s hk rfl;by_cases hlt2 : k < c
   ·have e1 : decide ((k : Int) < (c : Int)) = true := decide_eq_true (by omega);simp only [e1, cond_true];rw [qxC f hlt hlt2];simp only [qa];rw [qFH (hf i k hlt hlt2) hB];simp only [qa];have hs := qqc (B := 2 * B) (f := fun k => qaH (f i k)) (n := k) fun j hj => qid (hf i j hlt (by omega));have hz := qid (hf i k hlt hlt2);have hle := qEm hB0 (show k + 1 <= c by omega);have e : ((k + 1 : Nat) : Int) * (2 * B) = k * (2 * B) + 2 * B := by rw [Int.natCast_add, Int.add_mul]; simp
    rw [wid (by omega) (by omega), wid (by omega) (by omega), qM];exact ⟨hlt2, rfl⟩
   ·have : k = c := by omega
    subst this;have e1 : decide ((k : Int) < (k : Int)) = false := by simp
    simp only [e1, cond_false];rw [qW]
  ·rintro r rfl;rw [wid (by omega) (by omega), qM];exact ⟨hlt, rfl⟩
 ·have : i = n := by omega
  subst this;have e0 : decide ((i : Int) < (i : Int)) = false := by simp
  simp only [e0, cond_false];rw [qW];rfl
theorem qu9 {n c : Nat} {B : Int} {f : Nat -> Nat -> G} (hB0 : 0 <= B) (hf : BdF B n c f) (hn : n <= 1000) (hc : c <= 1000) (hb : (c : Int) * (2 * B) <= 4000000000000000000) (hB : B <= 4000000000000000000) : qfo (mx n c f) = some (qwQ n c f) := by
 unfold qfo;rw [qew];refine Ok.eq ?_;rw [qa4];refine (qa8 n (fun i (s : Int × Int) => s = (qte i (fun i => qq3 c fun k => qaH (f i k)), (i : Int))) (fun r => r = qwQ n c f) rfl ?_).mono (fun a ha => by rw [ha]; exact qH.2 rfl);rintro i s hi rfl;by_cases hlt : i < n
 ·have e0 : decide ((i : Int) < (n : Int)) = true := decide_eq_true (by omega);simp only [e0, cond_true];rw [qfG];refine (qa8 c (fun k (s : Int × Int) => s = (qq3 k (fun k => qaH (f i k)), (k : Int))) (fun r => r = qq3 c fun k => qaH (f i k)) rfl ?_).mono ?_
  ·rintro k s hk rfl;rw [qaj (qmv f hlt)];simp only [qa, qK];by_cases hlt2 : k < c
   ·have e1 : decide ((k : Int) < (c : Int)) = true := decide_eq_true (by omega);simp only [e1, cond_true];rw [qaj (qax (fun k => f i k) hlt2)];simp only [qa];rw [qsE (hf i k hlt hlt2) hB];simp only [qa];have hs := qqc (B := 2 * B) (f := fun k => qaH (f i k)) (n := k) fun j hj => qid (hf i j hlt (by omega));have hz := qid (hf i k hlt hlt2);have hle := qEm hB0 (show k + 1 <= c by omega);have e : ((k + 1 : Nat) : Int) * (2 * B) = k * (2 * B) + 2 * B := by rw [Int.natCast_add, Int.add_mul]; simp
    rw [wid (by omega) (by omega), wid (by omega) (by omega), qM];exact ⟨hlt2, rfl⟩
   ·have : k = c := by omega
    subst this;have e1 : decide ((k : Int) < (k : Int)) = false := by simp
    simp only [e1, cond_false];rw [qW]
  ·rintro r rfl;rw [wid (by omega) (by omega), qM];exact ⟨hlt, rfl⟩
 ·have : i = n := by omega
  subst this;have e0 : decide ((i : Int) < (i : Int)) = false := by simp
  simp only [e0, cond_false];rw [qW];rfl
def qgy (s : Int) (i k : Nat) : G := if i = k then (s, 0, ()) else g0
theorem qGc {n c : Nat} (hn : n <= 1000) (hc : c <= 1000) (f : Nat -> Nat -> G) (h : ∀ i k : Nat, i < n -> k < c -> qfk i k = some (f i k)) : qaG (n : Int) (c : Int) = some (mx n c f) := by
 unfold qaG;exact qhI n c hn hc (fun i k => qfk i k) f h
theorem qFt {n : Nat} (hn : n <= 1000) : qj1 (n : Int) = some (mx n n (qgy 1)) := by
 unfold qj1;rw [qGc hn hn (qgy 1) (fun i k hi hk => by
  unfold qfk qgy;by_cases h : i = k
  ·rw [if_pos h, decide_eq_true (show (i : Int) = (k : Int) by omega)]; rfl
  ·rw [if_neg h, decide_eq_false (show ¬ (i : Int) = (k : Int) by omega)]; rfl)]
 rfl
theorem qF8 {n c : Nat} (hn : n <= 1000) (hc : c <= 1000) (m : Mx) (s : Int) (f : Nat -> Nat -> G) (h : ∀ i k : Nat, i < n -> k < c -> qaZ i k m s = some (f i k)) : qT (n : Int) (c : Int) m s = some (mx n c f) := by
 unfold qT;exact qhI n c hn hc (fun i k => qaZ i k m s) f h
theorem qv5 {n c : Nat} {A B s : Int} {f : Nat -> Nat -> G} (hn1 : 1 <= n) (hn : n <= 1000) (hc : c <= 1000) (hf : BdF A n c f) (hs : -B <= s /\ s <= B) (hb : 2 * (A * B) <= 9000000000000000000) :
  qaN (mx n c f) s = some (mx n c fun i k => qao (f i k) (s, 0, ())) := by
 unfold qaN;rw [qoL, qmv f (by omega), qa, qK, qew];rw [qF8 hn hc _ s (fun i k => qao (f i k) (s, 0, ())) (fun i k hi hk => by
  unfold qaZ;rw [qxC f hi hk];simp only [qa];rw [qhf (hf i k hi hk) (B := B) (by unfold Bd; simp only; omega) hb]; rfl)]
 rfl
theorem qxm (s : Int) (i k : Nat) : qao (qgy 1 i k) (s, 0, ()) = qgy s i k := by
 unfold qgy;by_cases h : i = k
 ·rw [if_pos h, if_pos h]; exact qDf _
 ·rw [if_neg h, if_neg h]; exact qp3 _
theorem qwo {s B : Int} (h0 : 0 <= B) (h : -B <= s /\ s <= B) (n c : Nat) : BdF B n c (qgy s) := fun i k _ _ => by
 unfold qgy;split
 ·unfold Bd; simp only <;> omega
 ·exact qtz h0
theorem qro {n : Nat} {s : Int} (hn1 : 1 <= n) (hn : n <= 1000) (hs : -4000000000000000000 <= s /\ s <= 4000000000000000000) :
  qaN (mx n n (qgy 1)) s = some (mx n n (qgy s)) := by
 rw [qv5 (A := 1) (B := 4000000000000000000) hn1 hn hn (qwo (by omega) (by omega) n n) hs (by omega)];congr 1
 exact qDw fun i k _ _ => qxm s i k
theorem qBi {n : Nat} {s : Int} (hn : n <= 1000) : quH (n : Int) s = some (mx n n (qgy s)) := by
 unfold quH;rw [qvl n (fun i => mkL n fun k => qgy s i k) (fun i hi => ?_) ?_]
 ·rfl
 ·have e0 : decide ((n : Int) < (n : Int)) = false := by simp
  simp only [e0, cond_false]
 ·have e0 : decide ((i : Int) < (n : Int)) = true := decide_eq_true (by omega);simp only [e0, cond_true];rw [qys (by omega)];simp only [qa, decide_true, cond_true];have hl : (List.replicate ((n : Int).toNat) ((0, 0, ()) : G)).length = n := by simp
  rw [qya g0 (by omega) (by rw [hl]; omega)];simp only [qa, Int.toNat_natCast];have hrow : (List.replicate n ((0, 0, ()) : G)).set i (s, 0, ()) = mkL n fun k => qgy s i k := by
   refine qpb (by simp) fun k hk => ?_;rw [List.getElem?_set, List.getElem?_replicate, List.length_replicate];unfold qgy;by_cases h : i = k
   ·rw [if_pos h, if_pos h, if_pos (by omega)]
   ·rw [if_neg h, if_neg h, if_pos hk]; rfl
  rw [hrow, qc6 (by rw [qK]; omega)];simp only [qa];rw [wid (by omega) (by omega)]
end Go.Proofs.YtbcdgfgacigaoaaGreat.Mat
end
section
namespace Go.Proofs.YtbcdgfgacigaoaaGreat.Mat
open Go Go.Ab Go.Tx Go.Proofs.YtbcdgfgacigaoaaGreat
abbrev Qt := Int × Mx × Unit
instance (B : Int) (m : Mx) : Decidable (BdM B m) := inferInstanceAs (Decidable (∀ r ∈ m, ∀ z ∈ r, Bd B z))
theorem qEr (a b : Int) : qO [a, b] = some (if a = 0 then b else a) := by
 rw [ql5 _ (by simp)];by_cases h : a = 0 <;> by_cases h2 : b = 0 <;> simp [qwb, h, h2]
end Go.Proofs.YtbcdgfgacigaoaaGreat.Mat
end
section
namespace Go.Proofs.YtbcdgfgacigaoaaGreat.Mat
open Go Go.Ab Go.Tx Go.Proofs.YtbcdgfgacigaoaaGreat
theorem qFO {B : Int} (hB : 0 <= B) (h20 : B <= 20) : ∀ n, n <= 3 -> dC B n <= 192000 /\ (n <= 2 -> dC B n <= 1600) := fun n hn => by
 have h1 : B * B <= 20 * 20 := Int.mul_le_mul h20 h20 hB (by omega);have h2 : B * (2 * (2 * (B * B))) <= 20 * (2 * (2 * (20 * 20))) := Int.mul_le_mul h20 (by omega) (by have := Int.mul_nonneg hB hB; omega) (by omega)
 match n, hn with
 | 0, _ => simp [dC]
 | 1, _ => simp only [dC] <;> omega
 | 2, _ => simp only [dC] <;> omega
 | 3, _ =>
  have e : dC B 3 = 3 * (2 * (B * (2 * (2 * (B * B))))) := rfl;rw [e]; omega
theorem qGH : ∀ n, n <= 3 -> dB 20 n <= 9000000000000000000 := fun n hn => by
 match n, hn with
 | 0, _ => decide
 | 1, _ => decide
 | 2, _ => decide
 | 3, _ => decide
def qhH (m : Mx) : G := qky m.length (ent m)
theorem qE2 {n : Nat} {f : Nat -> Nat -> G} (hn : n <= 3) (h : BdF 20 n n f) : Bd 192000 (qky n f) := (qs4 (by omega) n f h).mono (qFO (by omega) (by omega) n hn).1
theorem norm_le {D : Int} {d : G} (h : Bd D d) : norm d <= 2 * (D * D) := by
 have := (qaP h.1 h.1).2;have := (qaP h.2 h.2).2;unfold norm; omega
theorem qEN {n : Nat} {f : Nat -> Nat -> G} (hn : n + 1 <= 3) (h : BdF 20 (n + 1) (n + 1) f) (hz : qky (n + 1) f ≠ g0) : InvB n f (qky (n + 1) f) 20 1600 192000 73728000000 where
 hB := by omega
 hf := h
 crude := qGH n (by omega)
 minor := fun i k hi hk => (qs4 (by omega) n _ (qeQ h)).mono ((qFO (by omega) (by omega) n (by omega)).2 (by omega))
 hd := qE2 hn h
 md := by omega
 dd := by omega
 hQ := by omega
 M0 := by omega
 D0 := by omega
 nq := norm_le (qE2 hn h)
 nz := hz
def qGW (m : Mx) : Qt := qFx m.length m.length (qAn (m.length - 1) (ent m) (qhH m)) (norm (qhH m))
def qnb (m : Mx) : Int := if qj2 m ≠ 0 then qj2 m else if qhH m = g0 then 11 else 0
def noQ : Qt := (0, [], ())
theorem qji {m : Mx} (h : qj2 m = 0) : ∃ n, m.length = n + 1 /\ n + 1 <= 3 /\ m = mx (n + 1) (n + 1) (ent m) /\ BdF 20 (n + 1) (n + 1) (ent m) := by
 obtain ⟨h1, h3, hR, hB⟩ := qvj h;refine ⟨m.length - 1, by omega, by omega, ?_, ?_⟩
 ·have e : m.length - 1 + 1 = m.length := by omega
  rw [e]; exact quc hR
 ·have e : m.length - 1 + 1 = m.length := by omega
  rw [e]; exact qo6 hB hR
theorem qFe {m : Mx} (h : qj2 m = 0) : q6 m = some (qhH m) := by
 obtain ⟨n, hl, h3, hm, hB⟩ := qji h;unfold qhH;rw [hl];conv => lhs; rw [hm]
 exact qFX (by omega) (by omega) hB (qGH _ h3)
theorem qzl {m : Mx} (h : qj2 m = 0) : qbL m = some (qhH m) := by
 obtain ⟨n, hl, h3, hm, hB⟩ := qji h;unfold qhH;rw [hl];conv => lhs; rw [hm]
 exact qDY (by omega) (by omega) hB (qGH _ h3)
theorem quX {m : Mx} (h : m.length <= 1000000000) (hr : ∀ r ∈ m, r.length <= 1000000000) : qdO m = some (if qnb m = 0 then qGW m else noQ, qnb m) := by
 unfold qdO;rw [qjC h hr];simp only [qa];unfold qnb;by_cases hE : qj2 m = 0
 case neg =>
  rw [if_pos hE, decide_eq_false hE, Bool.not_false, cond_true, if_neg hE]; rfl
 rw [if_neg (show ¬ qj2 m ≠ 0 from fun hh => hh hE), decide_eq_true hE, Bool.not_true, cond_false, qFe hE];simp only [qa];have hgz : (bif decide ((qhH m).1 = 0) then (bif decide ((qhH m).2.1 = 0) then true else false) else false) = decide (qhH m = g0) := qCc (qhH m) g0;rw [hgz];by_cases hz : qhH m = g0
 ·rw [decide_eq_true hz, cond_true, if_pos hz]; rfl
 ·rw [decide_eq_false hz, cond_false, if_neg hz, if_pos rfl];obtain ⟨n, hl, h3, hm, hB⟩ := qji hE;have hd : qhH m = qky (n + 1) (ent m) := by unfold qhH; rw [hl]
  have hz' : qky (n + 1) (ent m) ≠ g0 := by rw [<- hd]; exact hz
  have := qzb (by omega) (qEN h3 hB hz');rw [<- hm, <- hd] at this;rw [this];unfold qGW;rw [hl, show n + 1 - 1 = n by omega];rfl
theorem qs0 {m : Mx} (h : m.length <= 1000000000) (hr : ∀ r ∈ m, r.length <= 1000000000) : qdy m = some (qnb m) := by
 unfold qdy;rw [qjp h hr];simp only [qa];unfold qnb;by_cases hE : qj2 m = 0
 case neg =>
  rw [if_pos hE, decide_eq_false hE, Bool.not_false, cond_true]
 rw [if_neg (show ¬ qj2 m ≠ 0 from fun hh => hh hE), decide_eq_true hE, Bool.not_true, cond_false, qzl hE];simp only [qa];have hgz : (bif decide ((qhH m).1 = 0) then (bif decide ((qhH m).2.1 = 0) then true else false) else false) = decide (qhH m = g0) := qCc (qhH m) g0;rw [hgz];by_cases hz : qhH m = g0
 ·rw [decide_eq_true hz, cond_true, if_pos hz]
 ·rw [decide_eq_false hz, cond_false, if_neg hz]
theorem qBZ {m : Mx} (h : qnb m = 0) : qj2 m = 0 /\ qhH m ≠ g0 := by
 unfold qnb at h;by_cases hE : qj2 m = 0
 ·rw [if_neg (show ¬ qj2 m ≠ 0 from fun hh => hh hE)] at h;by_cases hz : qhH m = g0
  ·rw [if_pos hz] at h; cases h
  ·exact ⟨hE, hz⟩
 ·rw [if_pos hE] at h; exact absurd h hE
def qnN (m : Mx) : Nat -> Nat -> G := qE5 (qg (norm (qhH m)) (mx m.length m.length (qAn (m.length - 1) (ent m) (qhH m)))) (qAn (m.length - 1) (ent m) (qhH m))
def qq1 (m : Mx) : Int := (norm (qhH m)).tdiv (qg (norm (qhH m)) (mx m.length m.length (qAn (m.length - 1) (ent m) (qhH m))))
theorem qE6 (m : Mx) : qGW m = (qq1 m, mx m.length m.length (qnN m), ()) := rfl
theorem qFb {m : Mx} (h : qnb m = 0) : BdF 614400000 m.length m.length (qAn (m.length - 1) (ent m) (qhH m)) := by
 obtain ⟨hE, hz⟩ := qBZ h;obtain ⟨n, hl, h3, hm, hB⟩ := qji hE;have hd : qhH m = qky (n + 1) (ent m) := by unfold qhH; rw [hl]
 have hz' : qky (n + 1) (ent m) ≠ g0 := by rw [<- hd]; exact hz
 rw [hd, hl, show n + 1 - 1 = n by omega];have hI := qEN h3 hB hz';intro i k hi hk;exact ((hI.adj hi hk).mul hI.hd.qFL).mono (by omega)
theorem qwu {m : Mx} (h : qnb m = 0) : BdF 614400000 m.length m.length (qnN m) := fun i k hi hk => by
 have hb := qFb h i k hi hk;exact ⟨qiO hb.1, qiO hb.2⟩
theorem qBv {m : Mx} (h : qnb m = 0) : 0 <= qq1 m /\ qq1 m <= 73728000000 := by
 obtain ⟨hE, hz⟩ := qBZ h;obtain ⟨n, hl, h3, hm, hB⟩ := qji hE;have hd : qhH m = qky (n + 1) (ent m) := by unfold qhH; rw [hl]
 have hn := qsZ hz;have hb := norm_le (qE2 h3 hB);rw [<- hd] at hb;unfold qq1;have := qiO (x := norm (qhH m)) (g := (qg (norm (qhH m)) (mx m.length m.length (qAn (m.length - 1) (ent m) (qhH m))) : Int)) (B := 73728000000) (by omega);exact ⟨Int.tdiv_nonneg (by omega) (Int.natCast_nonneg _), this.2⟩
end Go.Proofs.YtbcdgfgacigaoaaGreat.Mat
namespace Go.Proofs.YtbcdgfgacigaoaaGreat
open Go Go.Ab Go.Tx
end Go.Proofs.YtbcdgfgacigaoaaGreat
end
section
namespace Go.Proofs.YtbcdgfgacigaoaaGreat.Mat
open Go Go.Ab Go.Tx Go.Proofs.YtbcdgfgacigaoaaGreat
theorem qoy {n : Nat} {f : Nat -> G} (c : G) : qeY n (fun k => qao (f k) c) = qao (qeY n f) c := by
 induction n with
 | zero => exact (qp3 c).symm
 | succ n ih => simp only [qeY, ih, qDS]
theorem qBN (a b c d : G) : qdL (qdL a b) (qdL c d) = qdL (qdL a c) (qdL b d) := qo4 (by simp only [qdL]; omega) (by simp only [qdL]; omega)
theorem qyC {n : Nat} (f h : Nat -> G) : qeY n (fun k => qdL (f k) (h k)) = qdL (qeY n f) (qeY n h) := by
 induction n with
 | zero => exact (qvG g0).symm
 | succ n ih => simp only [qeY, ih]; exact qBN _ _ _ _
theorem qo0 : ∀ n, qeY n (fun _ => g0) = g0
 | 0 => rfl
 | n + 1 => by simp only [qeY, qo0 n] <;> rfl
theorem qBg {n c : Nat} (f : Nat -> Nat -> G) : qeY n (fun i => qeY c (fun k => f i k)) = qeY c (fun k => qeY n (fun i => f i k)) := by
 induction n with
 | zero => exact (qo0 c).symm
 | succ n ih => simp only [qeY, ih]; exact (qyC _ _).symm
theorem qDM {n : Nat} {f : Nat -> G} {i : Nat} (hi : i < n) (h : ∀ j, j < n -> j ≠ i -> f j = g0) : qeY n f = f i := by
 induction n with
 | zero => omega
 | succ n ih =>
  simp only [qeY];by_cases e : i = n
  ·subst e;rw [qcV (h := fun _ => g0) (fun k hk => h k (by omega) (by omega)), qo0, qCj]
  ·rw [ih (by omega) (fun j hj hne => h j (by omega) hne), h n (by omega) (by omega), qvG]
theorem qsz (n : Nat) (f h : Nat -> Nat -> G) (c : G) (i k : Nat) : qdr n f (fun i k => qao (h i k) c) i k = qao (qdr n f h i k) c := by
 unfold qdr;rw [<- qoy];exact qcV fun j hj => (qjU _ _ _).symm
theorem qzQ (n : Nat) (f h : Nat -> Nat -> G) (c : G) (i k : Nat) : qdr n (fun i k => qao (f i k) c) h i k = qao (qdr n f h i k) c := by
 unfold qdr;rw [<- qoy];exact qcV fun j hj => by rw [qjU, qls c, <- qjU]
theorem qxa (n : Nat) (f g h : Nat -> Nat -> G) (i k : Nat) : qdr n f (qdr n g h) i k = qdr n (qdr n f g) h i k := by
 unfold qdr;have e1 : qeY n (fun j => qao (f i j) (qeY n fun l => qao (g j l) (h l k))) = qeY n (fun j => qeY n fun l => qao (qao (f i j) (g j l)) (h l k)) := qcV fun j hj => by
  rw [qls, <- qoy];exact qcV fun l hl => by rw [qls, qjU]
 rw [e1, qBg];exact qcV fun l hl => qoy _
theorem qwv {n : Nat} (s : Int) (h : Nat -> Nat -> G) {i k : Nat} (hi : i < n) : qdr n (qgy s) h i k = qao (h i k) (s, 0, ()) := by
 unfold qdr;rw [qDM hi (fun j hj hne => by unfold qgy; rw [if_neg (fun e => hne e.symm)]; exact qp3 _)];unfold qgy;rw [if_pos rfl, qls]
theorem quR (n : Nat) (f h e : Nat -> Nat -> G) (i k : Nat) : qdr n f (fun i k => qdL (h i k) (e i k)) i k = qdL (qdr n f h i k) (qdr n f e i k) := by
 unfold qdr;rw [<- qyC];exact qcV fun j hj => qDn _ _ _
def qG2 (m : Mx) : Nat := qg (norm (qhH m)) (mx m.length m.length (qAn (m.length - 1) (ent m) (qhH m)))
theorem qAH (m : Mx) : (qG2 m : Int) ∣ norm (qhH m) := by
 have h := qkC (qnD (mx m.length m.length (qAn (m.length - 1) (ent m) (qhH m)))) (norm (qhH m)).natAbs;exact Int.ofNat_dvd_left.2 h
theorem qDr (m : Mx) : qq1 m * (qG2 m : Int) = norm (qhH m) := Int.tdiv_mul_cancel (qAH m)
theorem qCW {m : Mx} (h : qnb m = 0) : 1 <= qq1 m := by
 have h1 := qsZ (qBZ h).2;have h2 := qDr m;have h3 := (qBv h).1;false_or_by_contra
 have : qq1 m = 0 := by omega
 rw [this, Int.zero_mul] at h2;omega
end Go.Proofs.YtbcdgfgacigaoaaGreat.Mat
end
section
namespace Go.Proofs.YtbcdgfgacigaoaaGreat.Mat
open Go Go.Ab Go.Tx Go.Proofs.YtbcdgfgacigaoaaGreat
abbrev Rg := Mx × Mx × Int × Int × Int × Unit
theorem qEz (a b c : Int) : qO [a, b, c] = some (if a = 0 then if b = 0 then c else b else a) := by
 rw [ql5 _ (by simp)];by_cases h : a = 0 <;> by_cases h2 : b = 0 <;> by_cases h3 : c = 0 <;> simp [qwb, h, h2, h3]
theorem qFZ (a b c d : Int) : qO [a, b, c, d] = some (if a = 0 then if b = 0 then if c = 0 then d else c else b else a) := by
 rw [ql5 _ (by simp)];by_cases h : a = 0 <;> by_cases h2 : b = 0 <;> by_cases h3 : c = 0 <;> by_cases h4 : d = 0 <;> simp [qwb, h, h2, h3, h4]
theorem qwh (l : List Int) (hl : l.length <= 1000000000) (hb : qwf l <= 9223372036854775807) : qaq l = some (qwf l : Int) := by
 unfold qaq;refine Ok.eq ?_;rw [qa4];refine (qa8 l.length (fun i (s : Int × Int) => s.2 = (i : Int) /\ s.1.natAbs = qwf (l.take i)) (fun r : Int => r.natAbs = qwf l) ⟨rfl, rfl⟩ ?_).mono ?_
 ·rintro i ⟨g, s⟩ hi ⟨h1, h2⟩;simp only at h1 h2;subst h1;by_cases hlt : i < l.length
  ·have e0 : decide ((i : Int) < (l.length : Int)) = true := decide_eq_true (by omega);simp only [e0, cond_true];rw [qya 0 (by omega) (by omega)];simp only [qa, Int.toNat_natCast];obtain ⟨r, h3, h4⟩ := qlj (f := fun (s5 : (Int × Int)) => bif !(decide (s5.2 = 0)) then bif decide (s5.2 = 0) then none else some (.inl (s5.2, s5.1.tmod s5.2)) else some (.inr s5.1)) (fun s => by
    by_cases h : s.2 = 0 <;> simp [h]) (l.getD i 0).natAbs g (l.getD i 0) (Nat.le_refl _)
   rw [h3];simp only [qa];rw [wid (by omega) (by omega), qM];refine ⟨hlt, by simp, ?_⟩;rw [h4, qhq 0 hlt];unfold qwf at h2 ⊢;rw [qlV, <- h2];rfl
  ·have : i = l.length := by omega
   subst this;have e0 : decide ((l.length : Int) < (l.length : Int)) = false := by simp
   simp only [e0, cond_false];rw [qW];simpa using h2
 ·intro r hr;rw [wid (by omega) (by omega), qH];omega
theorem qnh {a b : Int} (h0 : 0 < b) : (Int.gcd a b : Int) <= b /\ 1 <= Int.gcd a b := by
 have h1 : Nat.gcd a.natAbs b.natAbs ∣ b.natAbs := Nat.gcd_dvd_right _ _;have h2 := Nat.le_of_dvd (by omega) h1;have h3 : 0 < Nat.gcd a.natAbs b.natAbs := Nat.pos_of_dvd_of_pos h1 (by omega);have e : Int.gcd a b = Nat.gcd a.natAbs b.natAbs := rfl;rw [e]; omega
theorem qo5 {a b : Int} (h0 : 0 < b) (h1 : b <= 9223372036854775807) : qaq [a, b] = some (Int.gcd a b : Int) := by
 have h := (qnh (a := a) h0).1;rw [qwh _ (by simp) (by rw [qyF]; omega), qyF]
theorem qFj {a b : Int} (h0 : 0 < b) (h1 : b <= 9223372036854775807) : qoC a b = some (Int.gcd a b : Int) := by
 unfold qoC;refine Ok.eq ?_;rw [qa4];obtain ⟨r, h3, h4⟩ := qlj (f := fun (s2 : (Int × Int)) => bif !(decide (s2.2 = 0)) then bif decide (s2.2 = 0) then none else some (.inl (s2.2, s2.1.tmod s2.2)) else some (.inr s2.1)) (fun s => by
  by_cases h : s.2 = 0 <;> simp [h]) b.natAbs a b (Nat.le_refl _)
 refine ⟨r, h3, ?_⟩;have h := (qnh (a := a) h0).1;show Ok ((qbk r).bind fun x4 => some x4) _;rw [qpJ (by omega), qa, qH, h4]
def low (num den : Int) : Prop := 0 < den /\ Int.gcd num den = 1
instance (num den : Int) : Decidable (low num den) := inferInstanceAs (Decidable (_ /\ _))
def qn4 (r : Rg) : Int :=
 if qj2 r.1 ≠ 0 then qj2 r.1 else if qj2 r.2.1 ≠ 0 then qj2 r.2.1 else if r.1.length ≠ r.2.1.length then 13 else if qnb r.2.1 ≠ 0 then qnb r.2.1
 else if ¬ low r.2.2.1 r.2.2.2.1 then 3 else if ¬ (0 <= r.2.2.1 /\ r.2.2.1 <= r.2.2.2.1) then 2 else if ¬ r.2.2.2.1 <= 100 then 2 else if ¬ (0 <= r.2.2.2.2.1 /\ r.2.2.2.2.1 <= 1000) then 2 else 0
theorem qwA {num den : Int} (h1 : den <= 9223372036854775807) : qfL (num, den, ()) = some (decide (low num den)) := by
 unfold qfL;by_cases h0 : 0 < den
 ·rw [decide_eq_true (show den > 0 from h0), cond_true, qFj h0 h1];simp only [qa];congr 1
  unfold low;simp [h0] <;> omega
 ·rw [decide_eq_false (show ¬ den > 0 from h0), cond_false, decide_eq_false (show ¬ low num den from fun h => h0 h.1)]; rfl
theorem qAV {r : Rg} (hp : r.1.length <= 1000000000) (hpr : ∀ x ∈ r.1, x.length <= 1000000000) (hm : r.2.1.length <= 1000000000) (hmr : ∀ x ∈ r.2.1, x.length <= 1000000000) (hd : r.2.2.2.1 <= 9223372036854775807) : qgP r = some (qn4 r) := by
 obtain ⟨p, m, num, den, lag, _⟩ := r;simp only at hp hpr hm hmr hd;unfold qgP qn4;simp only
 rw [qjp hp hpr, qa];by_cases e1 : qj2 p = 0
 case neg => rw [decide_eq_false e1, Bool.not_false, cond_true, if_pos e1]
 rw [decide_eq_true e1, Bool.not_true, cond_false, if_neg (show ¬ (qj2 p ≠ 0) from fun hh => hh e1), qjp hm hmr, qa];by_cases e2 : qj2 m = 0
 case neg => rw [decide_eq_false e2, Bool.not_false, cond_true, if_pos e2]
 rw [decide_eq_true e2, Bool.not_true, cond_false, if_neg (show ¬ (qj2 m ≠ 0) from fun hh => hh e2)];by_cases e3 : p.length = m.length
 case neg => rw [decide_eq_false (show ¬ (m.length : Int) = (p.length : Int) by omega), Bool.not_false, cond_true, if_pos e3]
 rw [decide_eq_true (show (m.length : Int) = (p.length : Int) by omega), Bool.not_true, cond_false, if_neg (show ¬ (p.length ≠ m.length) from fun hh => hh e3), qs0 hm hmr, qa];by_cases e4 : qnb m = 0
 case neg => rw [decide_eq_false e4, Bool.not_false, cond_true, if_pos e4]
 rw [decide_eq_true e4, Bool.not_true, cond_false, if_neg (show ¬ (qnb m ≠ 0) from fun hh => hh e4), qwA hd, qa];by_cases e5 : low num den
 case neg => rw [decide_eq_false e5, Bool.not_false, cond_true, if_pos e5]
 rw [decide_eq_true e5, Bool.not_true, cond_false, if_neg (show ¬ (¬ low num den) from fun hh => hh e5), qjc, qa];by_cases e6 : 0 <= num /\ num <= den
 case neg => rw [decide_eq_false e6, Bool.not_false, cond_true, if_pos e6]; rfl
 rw [decide_eq_true e6, Bool.not_true, cond_false, if_neg (show ¬ (¬ (0 <= num /\ num <= den)) from fun hh => hh e6)];by_cases e7 : den <= 100
 case neg => rw [decide_eq_true (show den > 100 by omega), cond_true, if_pos e7]; rfl
 rw [decide_eq_false (show ¬ den > 100 by omega), cond_false, if_neg (show ¬ (¬ den <= 100) from fun hh => hh e7), qjc];by_cases e8 : 0 <= lag /\ lag <= 1000
 case neg => rw [decide_eq_false e8, if_pos e8]; rfl
 rw [decide_eq_true e8, if_neg (show ¬ (¬ (0 <= lag /\ lag <= 1000)) from fun hh => hh e8)]; rfl
theorem qsd {r : Rg} (hp : r.1.length <= 1000000000) (hpr : ∀ x ∈ r.1, x.length <= 1000000000) (hm : r.2.1.length <= 1000000000) (hmr : ∀ x ∈ r.2.1, x.length <= 1000000000) (hd : r.2.2.2.1 <= 9223372036854775807) :
  ∃ y, qb2 r = some (y, qn4 r) /\ (qn4 r = 0 -> y = (r.1, r.2.1, r.2.2.1, r.2.2.2.1, r.2.2.2.2.1, qq1 r.2.1, mx r.2.1.length r.2.1.length (qnN r.2.1), ())) := by
 obtain ⟨p, m, num, den, lag, _⟩ := r;simp only at hp hpr hm hmr hd;unfold qb2;simp only
 rw [qjC hp hpr, qa, qjC hm hmr, qa, qiW, qa, qEz, qa];unfold qn4;simp only
 by_cases e1 : qj2 p = 0
 case neg =>
  rw [if_neg e1, decide_eq_false e1, Bool.not_false, cond_true, if_pos e1];exact ⟨_, rfl, fun h => absurd h e1⟩
 rw [if_pos e1, if_neg (show ¬ (qj2 p ≠ 0) from fun hh => hh e1)];by_cases e2 : qj2 m = 0
 case neg =>
  rw [if_neg e2, decide_eq_false e2, Bool.not_false, cond_true, if_pos e2];exact ⟨_, rfl, fun h => absurd h e2⟩
 rw [if_pos e2, if_neg (show ¬ (qj2 m ≠ 0) from fun hh => hh e2)];by_cases e3 : p.length = m.length
 case neg =>
  rw [decide_eq_false (show ¬ (p.length : Int) = (m.length : Int) by omega), if_neg (by simp), decide_eq_false (show ¬ (13 : Int) = 0 by omega), Bool.not_false, cond_true, if_pos e3];exact ⟨_, rfl, fun h => by cases h⟩
 rw [decide_eq_true (show (p.length : Int) = (m.length : Int) by omega), if_pos rfl, decide_eq_true (show (0 : Int) = 0 from rfl), Bool.not_true, cond_false, if_neg (show ¬ (p.length ≠ m.length) from fun hh => hh e3), quX hm hmr, qa];have hmid : ∀ b1 b2 b3 : Bool, ∀ x : Int, qO [x, if b1 = true then (0 : Int) else 3, if b2 = true then (0 : Int) else 2, if b3 = true then (0 : Int) else 2] = some (if x = 0 then if b1 = true then if b2 = true then if b3 = true then 0 else 2 else 2 else 3 else x) := fun b1 b2 b3 x => by
  rw [qFZ];cases b1 <;> cases b2 <;> cases b3 <;> simp
 have hinner : (bif decide (den > 0) then
    (qaq ([num, den])).bind fun x6 =>
    (qo (decide (x6 = 1)) (3 : Int)).bind fun x7 =>
    (qS num (0 : Int) den).bind fun x8 =>
    bif x8 then
     (qo (decide (den <= 100)) (2 : Int)).bind fun x9 =>
     (qS lag (0 : Int) (1000 : Int)).bind fun x10 =>
     (qo x10 (2 : Int)).bind fun x11 =>
     (qO ([qnb m, x7, x9, x11])).bind fun x12 =>
     some x12
    else
     (qo false (2 : Int)).bind fun x13 =>
     (qS lag (0 : Int) (1000 : Int)).bind fun x14 =>
     (qo x14 (2 : Int)).bind fun x15 =>
     (qO ([qnb m, x7, x13, x15])).bind fun x16 =>
     some x16
   else
    (qo false (3 : Int)).bind fun x17 =>
    (qS num (0 : Int) den).bind fun x18 =>
    bif x18 then
     (qo (decide (den <= 100)) (2 : Int)).bind fun x19 =>
     (qS lag (0 : Int) (1000 : Int)).bind fun x20 =>
     (qo x20 (2 : Int)).bind fun x21 =>
     (qO ([qnb m, x17, x19, x21])).bind fun x22 =>
     some x22
    else
     (qo false (2 : Int)).bind fun x23 =>
     (qS lag (0 : Int) (1000 : Int)).bind fun x24 =>
     (qo x24 (2 : Int)).bind fun x25 =>
     (qO ([qnb m, x17, x23, x25])).bind fun x26 =>
     some x26) = some (if qnb m ≠ 0 then qnb m
 else if ¬ low num den then 3 else if ¬ (0 <= num /\ num <= den) then 2 else if ¬ den <= 100 then 2 else if ¬ (0 <= lag /\ lag <= 1000) then 2 else 0) := by
  simp only [qqf, qiW, qa, hmid];by_cases h0 : 0 < den
  ·rw [decide_eq_true (show den > 0 from h0), cond_true, qo5 h0 hd];simp only [qa, hmid];have hl : low num den ↔ ((Int.gcd num den : Nat) : Int) = 1 := by unfold low; constructor <;> intro h <;> omega
   by_cases e4 : qnb m = 0 <;> by_cases e5 : ((Int.gcd num den : Nat) : Int) = 1 <;> by_cases e6 : 0 <= num /\ num <= den <;> by_cases e7 : den <= 100 <;> by_cases e8 : 0 <= lag /\ lag <= 1000 <;> (try clear h0 hd hp hpr hm hmr) <;> simp [hl, e4, e5, e6, e7, e8]
  ·have hl : ¬ low num den := fun h => h0 h.1;rw [decide_eq_false (show ¬ den > 0 from h0), cond_false];by_cases e4 : qnb m = 0 <;> by_cases e6 : 0 <= num /\ num <= den <;> by_cases e7 : den <= 100 <;> by_cases e8 : 0 <= lag /\ lag <= 1000 <;> (try clear h0 hd hp hpr hm hmr) <;> simp [hl, e4, e6, e7, e8]
 rw [hinner, qa];refine ⟨_, rfl, fun h => ?_⟩;have e4 : qnb m = 0 := by
  false_or_by_contra
  rename_i h9;rw [if_pos h9] at h;exact h9 h
 rw [if_pos e4, qE6]
theorem qsm {r : Rg} (h : qn4 r = 0) : qj2 r.1 = 0 /\ qnb r.2.1 = 0 /\ r.1.length = r.2.1.length /\ 0 < r.2.2.2.1 /\ 0 <= r.2.2.1 /\ r.2.2.1 <= r.2.2.2.1 /\ r.2.2.2.1 <= 100 := by
 unfold qn4 at h;by_cases e1 : qj2 r.1 = 0
 case neg => rw [if_pos e1] at h; exact absurd h e1
 rw [if_neg (show ¬ (qj2 r.1 ≠ 0) from fun hh => hh e1)] at h;by_cases e2 : qj2 r.2.1 = 0
 case neg => rw [if_pos e2] at h; exact absurd h e2
 rw [if_neg (show ¬ (qj2 r.2.1 ≠ 0) from fun hh => hh e2)] at h;by_cases e3 : r.1.length = r.2.1.length
 case neg => rw [if_pos e3] at h; cases h
 rw [if_neg (show ¬ (r.1.length ≠ r.2.1.length) from fun hh => hh e3)] at h;by_cases e4 : qnb r.2.1 = 0
 case neg => rw [if_pos e4] at h; exact absurd h e4
 rw [if_neg (show ¬ (qnb r.2.1 ≠ 0) from fun hh => hh e4)] at h;by_cases e5 : low r.2.2.1 r.2.2.2.1
 case neg => rw [if_pos e5] at h; cases h
 rw [if_neg (show ¬ ¬ _ from fun hh => hh e5)] at h;by_cases e6 : 0 <= r.2.2.1 /\ r.2.2.1 <= r.2.2.2.1
 case neg => rw [if_pos e6] at h; cases h
 rw [if_neg (show ¬ ¬ (0 <= r.2.2.1 /\ r.2.2.1 <= r.2.2.2.1) from fun hh => hh e6)] at h;by_cases e7 : r.2.2.2.1 <= 100
 case neg => rw [if_pos e7] at h; cases h
 exact ⟨e1, e4, e3, e5.1, e6.1, e6.2, e7⟩
def qCq (r : Rg) (i k : Nat) : G := qgu (qgy (r.2.2.2.1 * qq1 r.2.1) i k) (qao (qdr r.2.1.length (ent r.1) (qnN r.2.1) i k) (r.2.2.1, 0, ()))
def qrd (r : Rg) : Int := qwQ r.2.1.length r.2.1.length (qCq r)
def qez (r : Rg) : Int := r.2.2.2.1 * qq1 r.2.1
def qmD (r : Rg) : Int := Int.gcd (qrd r) (qez r)
def con (r : Rg) : G := ((qrd r).tdiv (qmD r), (qez r).tdiv (qmD r), ())
theorem qFY {n c : Nat} (hn : n <= 1000) (hc : c <= 1000) (a b : Mx) (f : Nat -> Nat -> G) (h : ∀ i k : Nat, i < n -> k < c -> qaY i k a b = some (f i k)) : qU (n : Int) (c : Int) a b = some (mx n c f) := by
 unfold qU;exact qhI n c hn hc (fun i k => qaY i k a b) f h
theorem qyE {A B : Int} {a b : G} (h : Bd A a) (h' : Bd B b) (hb : A + B <= 9000000000000000000) : qX a b = some (qgu a b) := congrArg some (qBG h h' hb)
theorem qCi {A B : Int} {a b : G} (h : Bd A a) (h' : Bd B b) (hb : A + B <= 9000000000000000000) : qgd a b = some (qgu a b) := congrArg some (qBG h h' hb)
structure ConB (r : Rg) : Prop where
 pB : BdF 73728000000 r.2.1.length r.2.1.length (qdr r.2.1.length (ent r.1) (qnN r.2.1))
 sB : BdF 14745600000000 r.2.1.length r.2.1.length (fun i k => qao (qdr r.2.1.length (ent r.1) (qnN r.2.1) i k) (r.2.2.1, 0, ()))
 qB : 1 <= qez r /\ qez r <= 7372800000000
 cB : BdF 22118400000000 r.2.1.length r.2.1.length (qCq r)
 rB : 0 <= qrd r /\ qrd r <= 132710400000000
 n1 : 1 <= r.2.1.length
 n3 : r.2.1.length <= 3
theorem qGM {r : Rg} (h : qn4 r = 0) : ConB r := by
 obtain ⟨hE, hI, hl, h0, h1, h2, h3⟩ := qsm h;obtain ⟨m1, m3, mR, mB⟩ := qvj hE;have hX := qwu hI;have hD := qBv hI;have hD1 := qCW hI;have hA := qo6 mB mR;rw [hl] at hA;have hq2 : qez r <= 100 * 73728000000 := Int.mul_le_mul h3 hD.2 hD.1 (by omega);have hq1 : 1 * 1 <= qez r := Int.mul_le_mul (by omega) hD1 (by omega) (by omega);have hp : BdF 73728000000 r.2.1.length r.2.1.length (qdr r.2.1.length (ent r.1) (qnN r.2.1)) := fun i k hi hk => by
  have := Bd.sum (n := r.2.1.length) (f := fun j => qao (ent r.1 i j) (qnN r.2.1 j k)) (B := 2 * (20 * 614400000)) fun j hj => (hA i j hi hj).mul (hX j k hj hk);refine this.mono ?_;have h4 : (r.2.1.length : Int) * (2 * (20 * 614400000)) <= 3 * (2 * (20 * 614400000)) := Int.mul_le_mul_of_nonneg_right (by omega) (by omega);omega
 have hs : BdF 14745600000000 r.2.1.length r.2.1.length (fun i k => qao (qdr r.2.1.length (ent r.1) (qnN r.2.1) i k) (r.2.2.1, 0, ())) := fun i k hi hk => by
  have h5 : Bd 100 ((r.2.2.1, 0, ()) : G) := by unfold Bd; simp only <;> omega
  exact ((hp i k hi hk).mul h5).mono (by omega)
 have hc : BdF 22118400000000 r.2.1.length r.2.1.length (qCq r) := fun i k hi hk => by
  have hdg := qwo (s := qez r) (B := 7372800000000) (by omega) (by omega) r.2.1.length r.2.1.length i k hi hk;exact (hdg.sub (hs i k hi hk)).mono (by omega)
 refine ⟨hp, hs, by omega, hc, ?_, by omega, by omega⟩;unfold qrd qwQ;refine qth (by omega) fun i hi => ?_;have := (qqc (n := r.2.1.length) (f := fun k => qaH (qCq r i k)) fun k hk => qid (hc i k hi hk)).2;have h4 : (r.2.1.length : Int) * (2 * 22118400000000) <= 3 * (2 * 22118400000000) := Int.mul_le_mul_of_nonneg_right (by omega) (by omega);omega
theorem qEG {r : Rg} (h : ConB r) : 1 <= qmD r /\ (-132710400000000 <= (con r).1 /\ (con r).1 <= 132710400000000) /\ 1 <= (con r).2.1 /\ (con r).2.1 <= 7372800000000 := by
 have hg := qnh (a := qrd r) (b := qez r) (by have := h.qB; omega);have hq := h.qB;have hr := h.rB;have hG : 1 <= qmD r := by unfold qmD; omega
 have t1 := qiO (x := qrd r) (g := qmD r) (B := 132710400000000) (by omega);have t2 := qiO (x := qez r) (g := qmD r) (B := 7372800000000) (by omega);refine ⟨hG, t1, ?_, t2.2⟩;have hd : qmD r ∣ qez r := by
  have h1 : Nat.gcd (qrd r).natAbs (qez r).natAbs ∣ (qez r).natAbs := Nat.gcd_dvd_right _ _;exact Int.ofNat_dvd_left.2 h1
 have hm := Int.tdiv_mul_cancel hd;have hnn : 0 <= (qez r).tdiv (qmD r) := Int.tdiv_nonneg (by omega) (by omega);show 1 <= (qez r).tdiv (qmD r);false_or_by_contra
 have h0 : (qez r).tdiv (qmD r) = 0 := by omega
 rw [h0, Int.zero_mul] at hm; omega
def qis (c : G) : Prop := (-1000000000 <= c.1 /\ c.1 <= 1000000000) /\ c.2.1 <= 1000000000
instance (c : G) : Decidable (qis c) := inferInstanceAs (Decidable (_ /\ _))
theorem qDb {r : Rg} (h : ConB r) : qhT (qrd r) (qez r) = some (if qis (con r) then (con r, 0) else ((0, 0, ()), 8)) := by
 obtain ⟨hG, h1, h2, h3⟩ := qEG h;have hq := h.qB;unfold qhT;rw [qo5 (by omega) (by omega), qa];have e : ((Int.gcd (qrd r) (qez r) : Nat) : Int) = qmD r := rfl;have e1 : (qrd r).tdiv (qmD r) = (con r).1 := rfl;have e2 : (qez r).tdiv (qmD r) = (con r).2.1 := rfl;rw [e, decide_eq_false (show ¬ qmD r = 0 by omega), cond_false, cond_false, e1, e2, wid (by omega) (by omega), wid (by omega) (by omega), qmL _ _ (by omega) (by omega), qa];by_cases c1 : -1000000000 <= (con r).1 /\ (con r).1 <= 1000000000
 ·by_cases c2 : (con r).2.1 <= 1000000000
  ·rw [decide_eq_true c1, decide_eq_false (show ¬ (con r).2.1 > 1000000000 by omega), if_pos (show qis (con r) from ⟨c1, c2⟩)]; rfl
  ·rw [decide_eq_true c1, decide_eq_true (show (con r).2.1 > 1000000000 by omega), if_neg (show ¬ qis (con r) from fun hh => c2 hh.2)]; rfl
 ·rw [decide_eq_false c1, if_neg (show ¬ qis (con r) from fun hh => c1 hh.1)]; rfl
theorem qn1 {r : Rg} (hp : r.1.length <= 1000000000) (hpr : ∀ x ∈ r.1, x.length <= 1000000000) (hm : r.2.1.length <= 1000000000) (hmr : ∀ x ∈ r.2.1, x.length <= 1000000000) (hd : r.2.2.2.1 <= 9223372036854775807) :
  qb0 r = some (if qn4 r ≠ 0 then ((0, 0, ()), qn4 r) else if qis (con r) then (con r, 0) else ((0, 0, ()), 8)) := by
 unfold qb0;obtain ⟨y, e1, e2⟩ := qsd hp hpr hm hmr hd;have e1' : qb2 (r.1, r.2.1, r.2.2.1, r.2.2.2.1, r.2.2.2.2.1, ()) = some (y, qn4 r) := e1;rw [e1', qa];by_cases h : qn4 r = 0
 case neg => rw [decide_eq_false h, Bool.not_false, cond_true, if_pos h]
 rw [decide_eq_true h, Bool.not_true, cond_false, if_neg (show ¬ (qn4 r ≠ 0) from fun hh => hh h)];have hB := qGM h;obtain ⟨hE, hI, hl, h0, h1, h2, h3⟩ := qsm h;obtain ⟨m1, m3, mR, mB⟩ := qvj hE;have hA := qo6 mB mR;have hpm := quc mR;rw [e2 h];simp only
 have hq := hB.qB;have hX := qwu hI;have n1 := hB.n1;have n3 := hB.n3;rw [wid (n := r.2.2.2.1 * qq1 r.2.1) (by unfold qez at hq; omega) (by unfold qez at hq; omega)];rw [hl] at hA hpm ⊢;rw [qFt (by omega), qa, qro (by omega) (by omega) (by unfold qez at hq; omega), qa];have htimes := qDL (A := 20) (B := 614400000) (by omega) (by omega) hA hX (by omega) (by omega) (by omega) (by omega) (by omega);rw [<- hpm] at htimes;rw [htimes, qa, qv5 (A := 73728000000) (B := 100) (by omega) (by omega) (by omega) hB.pB (by omega) (by omega), qa, qew];rw [qFY (by omega) (by omega) _ _ (qCq r) (fun i k hi hk => by
  unfold qaY;have e9 : qX (qgy (r.2.2.2.1 * qq1 r.2.1) i k) (qao (qdr r.2.1.length (ent r.1) (qnN r.2.1) i k) (r.2.2.1, 0, ())) = some (qCq r i k) := qyE (qwo (s := qez r) (B := 7372800000000) (by omega) (by omega) r.2.1.length r.2.1.length i k hi hk) (hB.sB i k hi hk) (by omega);rw [qxC _ hi hk, qa, qxC _ hi hk, qa, e9];rfl)]
 rw [qa, qAz (by omega) hB.cB (by omega) (by omega) (by omega) (by omega), qa];have := qDb hB;unfold qrd qez at this;rw [this];rfl
theorem qB8 (r : Rg) : Ok (qgI r) fun b => b = true -> qCS r.1 5 /\ qCS r.2.1 5 := by
 unfold qgI;refine Ok.bind (P := fun b : Bool => b = true -> qCS r.1 5 /\ qCS r.2.1 5) ?_ fun b hb => qH.2 hb;refine Ok.bind (qEx r.1) fun x hx => ?_;cases x with
 | false => exact qH.2 (by simp)
 | true =>
  rw [cond_true];exact Ok.bind (qEx r.2.1) fun y hy => qH.2 fun h => ⟨hx rfl, hy h⟩
theorem qy2 {r : Rg} (hp : r.1.length <= 1000000000) (hpr : ∀ x ∈ r.1, x.length <= 1000000000) (hm : r.2.1.length <= 1000000000) (hmr : ∀ x ∈ r.2.1, x.length <= 1000000000) : qd9 r = some r := by
 unfold qd9;rw [qlS hp hpr, qa, qlS hm hmr, qa]
end Go.Proofs.YtbcdgfgacigaoaaGreat.Mat
namespace Go.Proofs.YtbcdgfgacigaoaaGreat
open Go Go.Ab Go.Tx
end Go.Proofs.YtbcdgfgacigaoaaGreat
end
section
namespace Go.Proofs.YtbcdgfgacigaoaaGreat.Mat
open Go Go.Ab Go.Tx Go.Proofs.YtbcdgfgacigaoaaGreat
theorem qgC {n : Int} (h1 : -9007199254740991 <= n) (h2 : n <= 9007199254740991) : flo n = some n := by
 unfold flo; rw [if_pos (by omega)]
def qku (l : List G) (n : Nat) : Int := if l.length = n then (if l.any (qnG 10000) = true then 2 else 0) else 10
theorem qzu (r : List G) (h : r.length <= 1000000000) : qn r = some (r.any (qnG 10000)) := by
 unfold qn qz;refine qCp r qd7 (qnG 10000) (fun x _ => ?_) h;unfold qd7;rw [qiv _ _ (by omega) (by omega)]; rfl
theorem qmZ {l : List G} {n : Nat} (h : l.length <= 1000000000) : qcN l (n : Int) = some (qku l n) := by
 unfold qcN qku;rw [qzu l h];simp only [qa, qiW];rw [qEr];by_cases c : l.length = n
 ·have c' : decide ((l.length : Int) = (n : Int)) = true := decide_eq_true (by omega);rw [c', if_pos c];cases hb : l.any (qnG 10000) <;> simp
 ·have c' : decide ((l.length : Int) = (n : Int)) = false := decide_eq_false (by omega);rw [c', if_neg c];simp
theorem qta {l : List G} {n : Nat} (h : l.length <= 1000000000) : qbv l (n : Int) = some (qku l n) := by
 unfold qbv qku;by_cases c : l.length = n
 case neg =>
  rw [decide_eq_false (show ¬ (l.length : Int) = (n : Int) by omega), Bool.not_false, cond_true, if_neg c]
 rw [decide_eq_true (show (l.length : Int) = (n : Int) by omega), Bool.not_true, cond_false, if_pos c];rw [qhS l _ (fun _ z => if qnG 10000 z then some (2 : Int) else none) (fun k z hk => ?_), qeE]
 ·cases hf : qgz (fun _ z => if qnG 10000 z then some (2 : Int) else none) 0 l with
  | none =>
   rw [qfY] at hf;have hb : l.any (qnG 10000) = false := by
    rw [List.any_eq_false];intro x hx;obtain ⟨k, hk⟩ := List.mem_iff_getElem?.1 hx;have := hf k x hk;simpa using this
   simp [hb]
  | some q =>
   obtain ⟨k, z, h1, h2, _⟩ := qf0 hf;have hp : qnG 10000 z = true := by
    cases hp : qnG 10000 z
    ·simp [hp] at h2
    ·rfl
   have hb : l.any (qnG 10000) = true := List.any_eq_true.2 ⟨z, List.mem_of_getElem? h1, hp⟩;simp only [hp, if_true, qb] at h2;simp [hb, <- h2]
 ·have hlk := qmf hk;rw [qaj hk, qa, qlp _ _ (by omega) (by omega), qa, wid (by omega) (by omega)];unfold qnG;by_cases d : Bd 10000 z <;> simp [d, stp]
theorem qrT {l : List G} {n : Nat} (h : qku l n = 0) : l.length = n /\ ∀ z ∈ l, Bd 10000 z := by
 unfold qku at h;by_cases c : l.length = n
 case neg => rw [if_neg c] at h; cases h
 rw [if_pos c] at h;refine ⟨c, fun z hz => ?_⟩;cases hb : l.any (qnG 10000) with
 | true => rw [hb, if_pos rfl] at h; cases h
 | false =>
  have := List.any_eq_false.1 hb z hz;unfold qnG at this;simpa using this
def qbw (n : Nat) (f : Nat -> Nat -> G) (d : Nat -> G) (i : Nat) : G := qeY n fun k => qao (f i k) (d k)
theorem qBd {n : Nat} {A B : Int} {f : Nat -> Nat -> G} {d : Nat -> G} (hf : BdF A n n f) (hd : ∀ k, k < n -> Bd B (d k)) {i : Nat} (hi : i < n) : Bd (n * (2 * (A * B))) (qbw n f d i) :=
 Bd.sum fun k hk => (hf i k hi hk).mul (hd k hk)
theorem qwl {n : Nat} {A B : Int} {f : Nat -> Nat -> G} {d : Nat -> G} (hA : 0 <= A) (hB : 0 <= B) (hf : BdF A n n f) (hd : ∀ k, k < n -> Bd B (d k)) (hn : n <= 1000) (hn1 : 1 <= n) (hbd : (n : Int) * (2 * (A * B)) <= 9000000000000000000) :
  qeX (mx n n f) (mkL n d) = some (mkL n (qbw n f d)) := by
 unfold qeX;rw [qew, qK];have h0 : 0 <= 2 * (A * B) := by have := Int.mul_nonneg hA hB; omega
 have h1 : 2 * (A * B) <= 9000000000000000000 := by
  have := Int.mul_le_mul_of_nonneg_right (show (1 : Int) <= n by omega) h0;omega
 rw [qvl n (qbw n f d) (fun i hi => ?_) ?_]
 ·rfl
 ·have e0 : decide ((n : Int) < (n : Int)) = false := by simp
  simp only [e0, cond_false]
 ·have e0 : decide ((i : Int) < (n : Int)) = true := decide_eq_true (by omega);simp only [e0, cond_true];rw [qmm n hn h0 hbd (fun k => qao (f i k) (d k)) (fun k hk => (hf i k hi hk).mul (hd k hk)) (fun k hk x y hxy => ?_) (fun x y => ?_)]
  ·simp only [qa];rw [qc6 (by rw [qK]; omega)];simp only [qa];rw [wid (by omega) (by omega)];rfl
  ·have e0 : decide ((k : Int) < (n : Int)) = true := decide_eq_true (by omega);simp only [e0, cond_true];rw [qaj (qmv f hi), qa, qaj (qax (fun k => f i k) hk), qa, qaj (qax d hk), qa];rw [qAN (hf i k hi hk) (hd k hk) h1];simp only [qa];rw [qBB hxy ((hf i k hi hk).mul (hd k hk)) (le_next h0 hk hbd)];rfl
  ·have e0 : decide ((n : Int) < (n : Int)) = false := by simp
   simp only [e0, cond_false]
theorem qsw {k n : Nat} {A : Int} (hA : 0 <= A) (h : k <= n) : (k : Int) * A <= (n : Int) * A := Int.mul_le_mul_of_nonneg_right (by omega) hA
theorem qwE {n : Nat} {f : Nat -> Nat -> G} {d : Nat -> G} (hf : BdF 20 n n f) (hd : ∀ k, k < n -> Bd 10000 (d k)) (hn : n <= 3) :
  qdh (mx n n f) (mkL n d) = some (mkL n (qbw n f d)) := by
 unfold qdh;rw [qew];rw [qvl n (qbw n f d) (fun i hi => ?_) ?_]
 ·rfl
 ·have e0 : decide ((n : Int) < (n : Int)) = false := by simp
  simp only [e0, cond_false]
 ·have e0 : decide ((i : Int) < (n : Int)) = true := decide_eq_true (by omega);simp only [e0, cond_true];rw [qaj (qmv f hi), qa, qK];have hF : ∀ k, k < n -> Bd 400000 (qao (f i k) (d k)) := fun k hk => ((hf i k hi hk).mul (hd k hk)).mono (by omega);have hS : ∀ k, k <= n -> Bd 1200000 (qeY k fun k => qao (f i k) (d k)) := fun k hk => by
   have h1 := Bd.sum (n := k) fun j hj => hF j (by omega);exact h1.mono (by omega)
  refine Ok.eq ?_;rw [qa4];refine (qa8 n (fun k (s : (Int × Int) × Int) => s = (((qeY k fun k => qao (f i k) (d k)).1, (qeY k fun k => qao (f i k) (d k)).2.1), (k : Int))) (fun r => r = ((qeY n fun k => qao (f i k) (d k)).1, (qeY n fun k => qao (f i k) (d k)).2.1)) rfl ?_).mono ?_
  ·rintro k s hk rfl;by_cases hlt : k < n
   ·have e1 : decide ((k : Int) < (n : Int)) = true := decide_eq_true (by omega);have hx : idx (mkL n fun b => f i b) (k : Int) = some (f i k) := qaj (qax _ hlt);have hy : idx (mkL n d) (k : Int) = some (d k) := qaj (qax _ hlt);simp only [e1, cond_true, hx, hy, qa];have hs := hS k hk;have hs' := hS (k + 1) hlt;have hfk := hf i k hi hlt;have hdk := hd k hlt;have p1 := qaP hfk.1 hdk.1;have p2 := qaP hfk.2 hdk.2;have p3 := qaP hfk.1 hdk.2;have p4 := qaP hfk.2 hdk.1;have es : qeY (k + 1) (fun k => qao (f i k) (d k)) = qdL (qeY k fun k => qao (f i k) (d k)) (qao (f i k) (d k)) := rfl;rw [es] at hs' ⊢;generalize qeY k (fun k => qao (f i k) (d k)) = S at *;unfold Bd qdL qao at *;simp only at hs' ⊢;rw [qgC (by omega) (by omega), qa, qgC (by omega) (by omega), qa, qgC (by omega) (by omega), qa, qgC (by omega) (by omega), qa];rw [qgC (by omega) (by omega), qa, qgC (by omega) (by omega), qa, qgC (by omega) (by omega), qa];rw [qgC (by omega) (by omega), qa, qgC (by omega) (by omega), qa, qgC (by omega) (by omega), qa];rw [qgC (by omega) (by omega), qa, qgC (by omega) (by omega), qa];rw [wid (by omega) (by omega), qM];exact ⟨hlt, rfl⟩
   ·have : k = n := by omega
    subst this;have e1 : decide ((k : Int) < (k : Int)) = false := by simp
    simp only [e1, cond_false];rw [qW]
  ·rintro r rfl;have hs := hS n (Nat.le_refl n);unfold Bd at hs;simp only
   rw [qgC (by omega) (by omega), qa, qgC (by omega) (by omega), qa, qc6 (by rw [qK]; omega), qa, wid (by omega) (by omega)];exact qH.2 rfl
def nr (a b : Int) : Int := if a % b > b - a % b then a / b + 1 else a / b
def rnd (a b : Int) : Int := if a < 0 then 0 - nr (0 - a) b else nr a b
theorem qEk {a b : Int} (ha : 0 <= a) (hb : 0 < b) : 0 <= a / b /\ a / b <= a := ⟨Int.ediv_nonneg ha (by omega), Int.ediv_le_self b ha⟩
theorem qGU {a b : Int} (ha : 0 <= a) (hb : 0 < b) : 0 <= nr a b /\ nr a b <= a + 1 := by
 have := qEk ha hb;unfold nr;split <;> omega
theorem qyQ {m : Nat} {a b : Int} (ha : 0 <= a) (hb : 0 < b) (ha2 : a <= 4000000000000000000) (hb2 : b <= 4000000000000000000) : qe6 (m + 1) a b = some (nr a b) := by
 have h1 := qEk ha hb;have h2 := Int.emod_nonneg a (show b ≠ 0 by omega);have h3 := Int.emod_lt_of_pos a hb;have e1 : a.tmod b = a % b := Int.tmod_eq_emod_of_nonneg ha;have e2 : a.tdiv b = a / b := Int.tdiv_eq_ediv_of_nonneg ha;show (bif decide (a < 0) then _ else _) = _;rw [decide_eq_false (show ¬ a < 0 by omega), cond_false, decide_eq_false (show ¬ b = 0 by omega), cond_false, cond_false, e1, e2, wid (n := b - a % b) (by omega) (by omega), wid (n := a / b) (by omega) (by omega), wid (n := a / b + 1) (by omega) (by omega)];unfold nr;by_cases c : a % b > b - a % b
 ·rw [decide_eq_true c, if_pos c]; rfl
 ·rw [decide_eq_false c, if_neg c]; rfl
theorem qE8 {a b : Int} (ha : -4000000000000000000 <= a /\ a <= 4000000000000000000) (hb : 0 < b) (hb2 : b <= 4000000000000000000) : qjZ a b = some (rnd a b) := by
 unfold qjZ rnd;by_cases c : a < 0
 ·have e : qe6 12 a b = (bif decide (a < 0) then (qe6 11 (w64 (0 - a)) b).bind fun x1 => some (w64 (0 - x1)) else _) := rfl;rw [e, decide_eq_true c, cond_true, wid (by omega) (by omega), qyQ (m := 10) (by omega) hb (by omega) hb2, qa, if_pos c];have := qGU (a := 0 - a) (b := b) (by omega) hb;rw [wid (by omega) (by omega)]
 ·rw [qyQ (m := 11) (by omega) hb (by omega) hb2, if_neg c]
def qcc (n : Nat) (f : Nat -> Nat -> G) (t d : Nat -> G) (i : Nat) : G := qgu (t i) (qbw n f d i)
theorem qBf {n i : Nat} (f : Nat -> G) (z : G) (hi : i < n) : (mkL n f).set i z = mkL n fun k => if k = i then z else f k := by
 refine qpb (by simp [qK]) fun k hk => ?_;rw [List.getElem?_set, qK];by_cases c : i = k
 ·subst c;rw [if_pos rfl, if_pos hi, if_pos rfl]
 ·rw [if_neg c, qax _ hk, if_neg (fun hh => c hh.symm)]
theorem qBH {n : Nat} {f : Nat -> Nat -> G} {d : Nat -> G} (hf : BdF 20 n n f) (hd : ∀ k, k < n -> Bd 10000 (d k)) (hn : n <= 3) {i : Nat} (hi : i < n) : Bd 1200000 (qbw n f d i) := by
 refine (qBd hf hd hi).mono ?_;have := qsw (A := 2 * (20 * 10000)) (by omega) hn;omega
theorem qts {n : Nat} {f : Nat -> Nat -> G} {t d : Nat -> G} (hf : BdF 20 n n f) (hd : ∀ k, k < n -> Bd 10000 (d k)) (ht : ∀ k, k < n -> Bd 10000 (t k)) (hn : n <= 3) {i : Nat} (hi : i < n) : Bd 1210000 (qcc n f t d i) :=
 ((ht i hi).sub (qBH hf hd hn hi)).mono (by omega)
theorem qAt {r : Rg} {n : Nat} {f : Nat -> Nat -> G} {t d : Nat -> G} (hm : r.1 = mx n n f) (hf : BdF 20 n n f) (hd : ∀ k, k < n -> Bd 10000 (d k)) (ht : ∀ k, k < n -> Bd 10000 (t k)) (hn1 : 1 <= n) (hn : n <= 3) :
  qhi r (mkL n t) (mkL n d) = some (mkL n (qcc n f t d)) := by
 unfold qhi;rw [hm, qwl (A := 20) (B := 10000) (by omega) (by omega) hf hd (by omega) hn1 (by omega), qa, qK];rw [qvl n (qcc n f t d) (fun i hi => ?_) ?_]
 ·rfl
 ·have e0 : decide ((n : Int) < (n : Int)) = false := by simp
  simp only [e0, cond_false]
 ·have e0 : decide ((i : Int) < (n : Int)) = true := decide_eq_true (by omega);simp only [e0, cond_true];rw [qaj (qax t hi), qa, qaj (qax (qbw n f d) hi), qa, qCi (ht i hi) (qBH hf hd hn hi) (by omega), qa, qc6 (by rw [qK]; omega), qa, wid (by omega) (by omega)];rfl
def qq4 (r : Rg) (t d : Nat -> G) (i : Nat) : G := qbw r.2.1.length (qnN r.2.1) (qcc r.2.1.length (ent r.1) t d) i
def roF (r : Rg) (z : Int) : Int := rnd (z * r.2.2.1) (qq1 r.2.1 * r.2.2.2.1)
def clF (r : Rg) (z : Int) : Int := max (0 - r.2.2.2.2.1) (min r.2.2.2.2.1 (roF r z))
def qkj (r : Rg) (t d : Nat -> G) (i : Nat) : G := (clF r (qq4 r t d i).1, clF r (qq4 r t d i).2.1, ())
theorem qx7 {r : Rg} (h : qn4 r = 0) : 0 <= r.2.2.2.2.1 /\ r.2.2.2.2.1 <= 1000 := by
 unfold qn4 at h;by_cases e8 : 0 <= r.2.2.2.2.1 /\ r.2.2.2.2.1 <= 1000
 ·exact e8
 ·exfalso
  rw [if_pos e8] at h;repeat' split at h
  all_goals first | contradiction | omega
structure CorB (r : Rg) (t d : Nat -> G) : Prop where
 n1 : 1 <= r.2.1.length
 n3 : r.2.1.length <= 3
 pm : r.1 = mx r.2.1.length r.2.1.length (ent r.1)
 pB : BdF 20 r.2.1.length r.2.1.length (ent r.1)
 xB : BdF 614400000 r.2.1.length r.2.1.length (qnN r.2.1)
 tB : ∀ k, k < r.2.1.length -> Bd 10000 (t k)
 dB : ∀ k, k < r.2.1.length -> Bd 10000 (d k)
 rB : ∀ i, i < r.2.1.length -> Bd 4460544000000000 (qq4 r t d i)
 num : 0 <= r.2.2.1 /\ r.2.2.1 <= 100
 den : 1 <= qq1 r.2.1 * r.2.2.2.1 /\ qq1 r.2.1 * r.2.2.2.1 <= 7372800000000
 step : 0 <= r.2.2.2.2.1 /\ r.2.2.2.2.1 <= 1000
theorem qGR {r : Rg} (h : qn4 r = 0) {t d : Nat -> G} (ht : ∀ k, k < r.2.1.length -> Bd 10000 (t k)) (hd : ∀ k, k < r.2.1.length -> Bd 10000 (d k)) : CorB r t d := by
 have hB := qGM h;obtain ⟨hE, hI, hl, h0, h1, h2, h3⟩ := qsm h;obtain ⟨m1, m3, mR, mB⟩ := qvj hE;have hX := qwu hI;have hA := qo6 mB mR;have hpm := quc mR;have hq := hB.qB;rw [hl] at hA hpm;have e : qez r = qq1 r.2.1 * r.2.2.2.1 := Int.mul_comm _ _;rw [e] at hq;refine ⟨hB.n1, hB.n3, hpm, hA, hX, ht, hd, fun i hi => ?_, by omega, hq, qx7 h⟩;have hn3 := hB.n3;refine (qBd hX (fun k hk => qts hA hd ht hn3 hk) hi).mono ?_;have := qsw (A := 2 * (614400000 * 1210000)) (by omega) hn3;omega
theorem qET {r : Rg} {t d : Nat -> G} (h : CorB r t d) {z : Int} (hz : -4460544000000000 <= z /\ z <= 4460544000000000) : -446054400000000000 <= z * r.2.2.1 /\ z * r.2.2.1 <= 446054400000000000 := by
 have hn := h.num;have := qaP (A := 4460544000000000) (B := 100) hz (show -100 <= r.2.2.1 /\ r.2.2.1 <= 100 by omega);omega
theorem qkB {r : Rg} {t d : Nat -> G} (h : CorB r t d) {z : Int} (hz : -4460544000000000 <= z /\ z <= 4460544000000000) {X : Mx} :
  qaJ z (r.1, r.2.1, r.2.2.1, r.2.2.2.1, r.2.2.2.2.1, qq1 r.2.1, X, ()) = some (clF r z) := by
 unfold qaJ;simp only
 have hp := qET h hz;have hq := h.den;have hs := h.step;rw [wid (n := z * r.2.2.1) (by omega) (by omega), wid (n := qq1 r.2.1 * r.2.2.2.1) (by omega) (by omega), wid (n := 0 - r.2.2.2.2.1) (by omega) (by omega), qE8 (by omega) (by omega) (by omega), qa];congr 1
 unfold clF roF;omega
theorem qtX {r : Rg} {t d : Nat -> G} (h : CorB r t d) :
  qbC (r.1, r.2.1, r.2.2.1, r.2.2.2.1, r.2.2.2.2.1, qq1 r.2.1, mx r.2.1.length r.2.1.length (qnN r.2.1), ()) (mkL r.2.1.length t) (mkL r.2.1.length d) = some (mkL r.2.1.length (qkj r t d)) := by
 unfold qbC;simp only
 have hpm := h.pm;have hn1 := h.n1;have hn3 := h.n3;have e0 : qdh r.1 (mkL r.2.1.length d) = some (mkL r.2.1.length (qbw r.2.1.length (ent r.1) d)) := by
  have := qwE h.pB h.dB hn3;rw [<- hpm] at this;exact this
 rw [e0, qa, qK, qew];refine Ok.eq ?_;rw [qa4];refine (qa8 r.2.1.length (fun i (s : List G × Int) => s = (mkL r.2.1.length (fun j => if j < i then qcc r.2.1.length (ent r.1) t d j else qbw r.2.1.length (ent r.1) d j), (i : Int))) (fun q => q = mkL r.2.1.length (qcc r.2.1.length (ent r.1) t d)) ?_ ?_).mono ?_
 ·congr 1
 ·rintro i s hi rfl;by_cases hlt : i < r.2.1.length
  ·have e1 : decide ((i : Int) < (r.2.1.length : Int)) = true := decide_eq_true (by omega);have hx : idx (mkL r.2.1.length t) (i : Int) = some (t i) := qaj (qax _ hlt);have hy : idx (mkL r.2.1.length (fun j => if j < i then qcc r.2.1.length (ent r.1) t d j else qbw r.2.1.length (ent r.1) d j)) (i : Int) = some (qbw r.2.1.length (ent r.1) d i) := by
    rw [qaj (qax _ hlt), if_neg (Nat.lt_irrefl i)]
   simp only [e1, cond_true, hx, hy, qa, Int.toNat_natCast];rw [qyE (h.tB i hlt) (qBH h.pB h.dB hn3 hlt) (by omega), qa, wid (by omega) (by omega), qM];refine ⟨hlt, ?_⟩;congr 1
   rw [qBf _ _ hlt];refine qbG fun k hk => ?_;by_cases c : k = i
   ·subst c;rw [if_pos rfl, if_pos (by omega)]; rfl
   ·rw [if_neg c];by_cases c2 : k < i
    ·rw [if_pos c2, if_pos (by omega)]
    ·rw [if_neg c2, if_neg (by omega)]
  ·have : i = r.2.1.length := by omega
   subst this;have e1 : decide ((r.2.1.length : Int) < (r.2.1.length : Int)) = false := by simp
   simp only [e1, cond_false];rw [qW];exact qbG fun k hk => if_pos hk
 ·rintro q rfl;refine ok_eq.2 ?_;have hL : ∀ k, k < r.2.1.length -> Bd 1210000 (qcc r.2.1.length (ent r.1) t d k) := fun k hk => qts h.pB h.dB h.tB hn3 hk;rw [qvl r.2.1.length (qkj r t d) (fun i hi => ?_) ?_]
  ·rfl
  ·have e0 : decide ((r.2.1.length : Int) < (r.2.1.length : Int)) = false := by simp
   simp only [e0, cond_false]
  ·have e0 : decide ((i : Int) < (r.2.1.length : Int)) = true := decide_eq_true (by omega);simp only [e0, cond_true];rw [qaj (qmv (qnN r.2.1) hi), qa, qK];have hbd : (r.2.1.length : Int) * (2 * (614400000 * 1210000)) <= 9000000000000000000 := by omega
   rw [qmm r.2.1.length (by omega) (A := 2 * (614400000 * 1210000)) (by omega) hbd (fun k => qao (qnN r.2.1 i k) (qcc r.2.1.length (ent r.1) t d k)) (fun k hk => (h.xB i k hi hk).mul (hL k hk)) (fun k hk x y hxy => ?_) (fun x y => ?_)]
   ·simp only [qa];have hr := h.rB i hi;have er : qeY r.2.1.length (fun k => qao (qnN r.2.1 i k) (qcc r.2.1.length (ent r.1) t d k)) = qq4 r t d i := rfl;rw [er, qkB h hr.1, qa, qkB h hr.2, qa, qc6 (by rw [qK]; omega), qa, wid (by omega) (by omega)];rfl
   ·have e0 : decide ((k : Int) < (r.2.1.length : Int)) = true := decide_eq_true (by omega);simp only [e0, cond_true];rw [qaj (qax (fun k => qnN r.2.1 i k) hk), qa, qaj (qax _ hk), qa];rw [qhf (h.xB i k hi hk) (hL k hk) (by omega)];simp only [qa];rw [qpo hxy ((h.xB i k hi hk).mul (hL k hk)) (le_next (by omega) hk hbd)];rfl
   ·have e0 : decide ((r.2.1.length : Int) < (r.2.1.length : Int)) = false := by simp
    simp only [e0, cond_false]
def qAf (r : Rg) (t d : List G) : Int := if qn4 r = 0 then (if qku t r.1.length = 0 then qku d r.1.length else qku t r.1.length) else qn4 r
theorem qEK {r : Rg} {t d : List G} (h : qAf r t d = 0) : qn4 r = 0 /\ CorB r (fun k => t.getD k g0) (fun k => d.getD k g0) /\ t = mkL r.2.1.length (fun k => t.getD k g0) /\ d = mkL r.2.1.length (fun k => d.getD k g0) := by
 unfold qAf at h;by_cases c1 : qn4 r = 0
 case neg => rw [if_neg c1] at h; exact absurd h c1
 rw [if_pos c1] at h;by_cases c2 : qku t r.1.length = 0
 case neg => rw [if_neg c2] at h; exact absurd h c2
 rw [if_pos c2] at h;have hl := (qsm c1).2.2.1;rw [hl] at c2 h;obtain ⟨tl, tB⟩ := qrT c2;obtain ⟨dl, dB⟩ := qrT h;have e1 := qmp t g0;have e2 := qmp d g0;rw [tl] at e1;rw [dl] at e2;exact ⟨c1, qGR c1 (fun k hk => tB _ (qd6 (by omega))) (fun k hk => dB _ (qd6 (by omega))), e1, e2⟩
theorem qtT {r : Rg} {t d : List G} (hp : r.1.length <= 1000000000) (hpr : ∀ x ∈ r.1, x.length <= 1000000000) (hm : r.2.1.length <= 1000000000) (hmr : ∀ x ∈ r.2.1, x.length <= 1000000000) (hd : r.2.2.2.1 <= 9223372036854775807) (ht : t.length <= 1000000000) (hd2 : d.length <= 1000000000) :
  ∃ y, qca r t d = some (y, qAf r t d) /\ (qAf r t d = 0 -> y = (r.1, r.2.1, r.2.2.1, r.2.2.2.1, r.2.2.2.2.1, qq1 r.2.1, mx r.2.1.length r.2.1.length (qnN r.2.1), ())) := by
 obtain ⟨y, e1, e2⟩ := qsd hp hpr hm hmr hd;have e1' : qb2 (r.1, r.2.1, r.2.2.1, r.2.2.2.1, r.2.2.2.2.1, ()) = some (y, qn4 r) := e1;unfold qca;rw [e1', qa, qmZ ht, qa, qmZ hd2, qa, qEz, qa];exact ⟨y, rfl, fun h => e2 (qEK h).1⟩
end Go.Proofs.YtbcdgfgacigaoaaGreat.Mat
namespace Go.Proofs.YtbcdgfgacigaoaaGreat
open Go Go.Ab Go.Tx
end Go.Proofs.YtbcdgfgacigaoaaGreat
end
section
namespace Go.Wide
def dv : List Int -> Int
 | [] => 0
 | d :: l => d + 1000000000 * dv l
def dok (l : List Int) : Prop := ∀ d ∈ l, 0 <= d /\ d < 1000000000
def qiZ (n : Nat) : List Int := if h : n = 0 then [] else ((n % 1000000000 : Nat) : Int) :: qiZ (n / 1000000000)
termination_by n
decreasing_by omega
def pw : Nat -> Int
 | 0 => 1
 | k + 1 => 1000000000 * pw k
theorem qlB : ∀ k, 0 < pw k
 | 0 => by simp [pw]
 | k + 1 => by have := qlB k; simp only [pw] <;> omega
theorem qux (a : Nat) : ∀ b, pw (a + b) = pw a * pw b
 | 0 => by simp [pw]
 | b + 1 => by
  have h := qux a b;rw [<- Nat.add_assoc]; simp only [pw]; rw [h]; grind
theorem qtJ : dok [] := by simp [dok]
theorem qlE {d : Int} {l : List Int} : dok (d :: l) ↔ (0 <= d /\ d < 1000000000) /\ dok l := by simp [dok]
theorem qwy {l m : List Int} : dok (l ++ m) ↔ dok l /\ dok m := by
 unfold dok; constructor
 ·intro h; exact ⟨fun d hd => h d (by simp [hd]), fun d hd => h d (by simp [hd])⟩
 ·rintro ⟨h1, h2⟩ d hd;rcases List.mem_append.1 hd with h | h
  ·exact h1 d h
  ·exact h2 d h
theorem qi7 {l : List Int} (h : dok l) (i : Nat) : 0 <= l.getD i 0 /\ l.getD i 0 < 1000000000 := by
 by_cases hi : i < l.length
 ·have : l.getD i 0 = l[i] := by simp [hi]
  rw [this]; exact h _ (List.getElem_mem hi)
 ·have : l.getD i 0 = 0 := by simp; rw [List.getElem?_eq_none (by omega)]; rfl
  rw [this]; omega
theorem qnJ : ∀ {l : List Int}, dok l -> 0 <= dv l
 | [], _ => by simp [dv]
 | d :: l, h => by
  have h := qlE.1 h;have := qnJ h.2;simp only [dv] <;> omega
theorem qy4 : ∀ {l : List Int}, dok l -> dv l < pw l.length
 | [], _ => by simp [dv, pw]
 | d :: l, h => by
  have h := qlE.1 h;have := qy4 h.2;simp only [dv, List.length_cons, pw] <;> omega
theorem qsK : ∀ (l m : List Int), dv (l ++ m) = dv l + pw l.length * dv m
 | [], m => by simp [dv, pw]
 | d :: l, m => by
  have h := qsK l m;simp only [List.cons_append, dv, List.length_cons, pw]; rw [h]; grind
theorem qt6 : ∀ {l : List Int}, (∀ d ∈ l, d = 0) -> dv l = 0
 | [], _ => rfl
 | d :: l, h => by
  have h1 := h d (by simp);have h2 : dv l = 0 := qt6 fun e he => h e (List.mem_cons_of_mem _ he);simp only [dv, h1, h2] <;> rfl
theorem qbh : qiZ 0 = [] := by unfold qiZ; simp
theorem qgQ {n : Nat} (h : n ≠ 0) : qiZ n = ((n % 1000000000 : Nat) : Int) :: qiZ (n / 1000000000) := by
 conv => lhs; unfold qiZ
 rw [dif_neg h]
theorem qfS (n : Nat) : dok (qiZ n) := by
 induction n using Nat.strongRecOn with
 | ind n ih =>
  by_cases h : n = 0
  ·rw [h, qbh]; exact qtJ
  ·rw [qgQ h, qlE];exact ⟨by omega, ih _ (by omega)⟩
theorem qf6 (n : Nat) : dv (qiZ n) = n := by
 induction n using Nat.strongRecOn with
 | ind n ih =>
  by_cases h : n = 0
  ·rw [h, qbh]; rfl
  ·rw [qgQ h, dv, ih _ (by omega)]; omega
theorem qs2 : ∀ {l : List Int}, dok l -> (∀ a, l.getLast? = some a -> a ≠ 0) -> qiZ (dv l).toNat = l
 | [], _, _ => by simp [dv, qbh]
 | d :: l, h, hz => by
  have h := qlE.1 h;have hp := qnJ h.2;have hne : (dv (d :: l)).toNat ≠ 0 := by
   simp only [dv];cases l with
   | nil => have := hz d (by simp); simp only [dv] <;> omega
   | cons e l =>
    have h3 := qs2 h.2 (fun a ha => hz a (by simpa using ha));have : dv (e :: l) ≠ 0 := fun h0 => by rw [h0] at h3; simp [qbh] at h3
    omega
  rw [qgQ hne];have h3 := qs2 h.2 (fun a ha => hz a (by
   cases l with
   | nil => simp at ha
   | cons e l => simpa using ha))
  have e1 : (dv (d :: l)).toNat / 1000000000 = (dv l).toNat := by simp only [dv] <;> omega
  have e2 : (((dv (d :: l)).toNat % 1000000000 : Nat) : Int) = d := by simp only [dv] <;> omega
  rw [e1, e2, h3]
theorem qsT {n : Nat} : ∀ {k : Nat}, (n : Int) < pw k -> (qiZ n).length <= k := by
 induction n using Nat.strongRecOn with
 | ind n ih =>
  intro k hk;by_cases h : n = 0
  ·rw [h, qbh]; simp
  ·rw [qgQ h];cases k with
   | zero => simp [pw] at hk; omega
   | succ k =>
    simp only [pw] at hk;have := ih (n / 1000000000) (by omega) (k := k) (by omega);simp <;> omega
theorem qAo (n : Nat) : (n : Int) < pw (qiZ n).length := by
 have := qy4 (qfS n)
 rwa [qf6] at this
theorem qCF (n : Nat) : ∀ a, (qiZ n).getLast? = some a -> a ≠ 0 := by
 induction n using Nat.strongRecOn with
 | ind n ih =>
  intro a ha;by_cases h : n = 0
  ·rw [h, qbh] at ha; simp at ha
  ·rw [qgQ h] at ha;by_cases h1 : n / 1000000000 = 0
   ·rw [h1, qbh] at ha;simp at ha; omega
   ·refine ih (n / 1000000000) (by omega) a ?_;have hne : qiZ (n / 1000000000) ≠ [] := by rw [qgQ h1]; simp
    rwa [List.getLast?_cons_of_ne_nil hne] at ha
theorem qwr {a b : Nat} (h : a <= b) : pw a <= pw b := by
 obtain ⟨c, rfl⟩ : ∃ c, b = a + c := ⟨b - a, by omega⟩
 rw [qux];have h1 := qlB a;have h2 := qlB c;have := Int.mul_le_mul_of_nonneg_left (show 1 <= pw c by omega) (Int.le_of_lt h1);omega
theorem qb7 {m n : Nat} (h : m <= n) : (qiZ m).length <= (qiZ n).length :=
 qsT (Int.lt_of_le_of_lt (by omega) (qAo n))
def wl (n : Int) : Nat := (qiZ n.natAbs).length
theorem qz6 {n : Int} : n.natAbs < pw (wl n) := qAo n.natAbs
theorem qAE {n : Int} {k : Nat} (h : (n.natAbs : Int) < pw k) : wl n <= k := qsT h
theorem qnj {m n : Int} (h : m.natAbs <= n.natAbs) : wl m <= wl n := qb7 h
theorem qsb {n : Int} (h : n.natAbs <= 999999999999999999999999999) : wl n <= 3 := qAE (by simp only [pw]; omega)
theorem qEE : wl 1 = 1 := by unfold wl; rw [qgQ (by simp)]; simp [qbh]
theorem qEL (n : Int) : wl (-n) = wl n := by unfold wl; rw [Int.natAbs_neg]
theorem qgJ (a b : Int) : wl (a * b) <= wl a + wl b := by
 refine qAE ?_;rw [qux, Int.natAbs_mul];have h1 := qz6 (n := a);have h2 := qz6 (n := b);by_cases hb : b.natAbs = 0
 ·rw [hb]; have := Int.mul_pos (qlB (wl a)) (qlB (wl b)); simpa using this
 ·have h3 := Int.mul_lt_mul_of_pos_right h1 (show (0 : Int) < b.natAbs by omega);have h4 := Int.mul_le_mul_of_nonneg_left (Int.le_of_lt h2) (Int.le_of_lt (qlB (wl a)));rw [Int.natCast_mul]; omega
theorem qEp (a b : Int) : wl (a + b) <= max (wl a) (wl b) + 1 := by
 refine qAE ?_;have h1 := qz6 (n := a);have h2 := qz6 (n := b);have h3 := qwr (Nat.le_max_left (wl a) (wl b));have h4 := qwr (Nat.le_max_right (wl a) (wl b));simp only [pw] <;> omega
theorem qGo (a : Int) {b : Int} (hb : 0 < b) : wl (a / b) <= wl a + 1 := by
 refine qAE ?_;have h1 := qz6 (n := a);have h2 := qlB (wl a);have h3 : (a / b).natAbs <= a.natAbs + 1 := by
  have h4 : (a / b) * b <= a := Int.ediv_mul_le a (by omega);have h5 : a < (a / b + 1) * b := Int.lt_ediv_add_one_mul_self a hb;rcases Int.lt_or_le (a / b) 0 with h | h
  ·have h6 : (a / b + 1) * b <= (a / b + 1) * 1 := Int.mul_le_mul_of_nonpos_left (by omega) (by omega);omega
  ·have h6 : (a / b) * 1 <= (a / b) * b := Int.mul_le_mul_of_nonneg_left (by omega) h;omega
 simp only [pw] <;> omega
def W (n : Int) : Int × List Int × Unit := (n.sign, qiZ n.natAbs, ())
theorem qEq : W 0 = (0, [], ()) := by simp [W, qbh]
theorem qG6 {s v : Int} {l : List Int} (hl : dok l) (hz : ∀ a, l.getLast? = some a -> a ≠ 0) (hs : s = 1 \/ s = -1 \/ s = 0) (h0 : s = 0 -> dv l = 0) (hv : v = s * dv l) :
  ((if l.length = 0 then 0 else s), l, ()) = W v := by
 have hd := qs2 hl hz;have hp := qnJ hl;unfold W;rcases hs with rfl | rfl | rfl
 ·have : v.natAbs = (dv l).toNat := by omega
  rw [this, hd];by_cases h : l.length = 0
  ·rw [if_pos h];have : l = [] := List.eq_nil_of_length_eq_zero h;subst this;simp [dv] at hv; simp [hv]
  ·rw [if_neg h];have : v ≠ 0 := fun hv0 => h (by
                    rw [<- hd]; have : (dv l).toNat = 0 := by omega
                    rw [this, qbh]; rfl)
   rw [Int.sign_eq_one_of_pos (by omega)]
 ·have : v.natAbs = (dv l).toNat := by omega
  rw [this, hd];by_cases h : l.length = 0
  ·rw [if_pos h];have : l = [] := List.eq_nil_of_length_eq_zero h;subst this;simp [dv] at hv; simp [hv]
  ·rw [if_neg h];have : v ≠ 0 := fun hv0 => h (by
                    rw [<- hd]; have : (dv l).toNat = 0 := by omega
                    rw [this, qbh]; rfl)
   rw [Int.sign_eq_neg_one_of_neg (by omega)]
 ·have h1 := h0 rfl;rw [h1] at hd;simp [qbh] at hd;subst hd;simp [dv] at hv;simp [hv, qbh]
theorem qfB (n : Int) : (W n).1 = n.sign := rfl
theorem qCT (n : Int) : dv (W n).2.1 = n.natAbs := qf6 _
theorem qqO (n : Int) : dok (W n).2.1 := qfS _
theorem qe8 (n : Int) : (W n).2.1.length = wl n := rfl
end Go.Wide
end
section

end
