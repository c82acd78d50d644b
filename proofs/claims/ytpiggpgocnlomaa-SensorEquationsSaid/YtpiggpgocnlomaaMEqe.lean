/-
  ONE LAW OF A CHAPTER: its program side is run by an interpreter that is proved sound; what it computes is shown to be what the law says. No conditions. Part 5 of 6.
-/
import Derived.Test.YtpiggpgocnlomaaMEqd
import Derived.Test.YtpiggpgocnlomaaProg
import Derived.KernelRfl
section
/-
  PLAIN TOOLS: greatest common divisors.
-/
set_option linter.unusedVariables false
namespace Go.Tx
open Go
theorem euclid_loop {f : Int × Int → Option ((Int × Int) ⊕ Int)} (hf : ∀ s, f s = if s.2 = 0 then some (.inr s.1) else some (.inl (s.2, s.1.tmod s.2))) : ∀ (n : Nat) (a b : Int), b.natAbs ≤ n → ∃ r, loopO f (a, b) = some r ∧ r.natAbs = Int.gcd a b := by
  intro n
  induction n with
  | zero =>
    intro a b hb
    have : b = 0 := by omega
    subst this
    exact ⟨a, loopO_inr (by rw [hf]; simp), by simp⟩
  | succ n ih =>
    intro a b hb
    by_cases h0 : b = 0
    · subst h0
      exact ⟨a, loopO_inr (by rw [hf]; simp), by simp⟩
    · have hlt : (a.tmod b).natAbs < b.natAbs := by
        rw [Int.natAbs_tmod]; exact Nat.mod_lt _ (by omega)
      obtain ⟨r, h1, h2⟩ := ih b (a.tmod b) (by omega)
      refine ⟨r, by rw [loopO_inl (s' := (b, a.tmod b)) (by rw [hf]; simp [h0])]; exact h1, ?_⟩
      rw [h2]
      unfold Int.gcd
      rw [Int.natAbs_tmod, Nat.gcd_comm, ← Nat.gcd_rec, Nat.gcd_comm]
/-- the greatest common divisor of some numbers -/
def gcdF : Nat → List Int → Nat
  | g, [] => g
  | g, n :: l => gcdF (Nat.gcd g n.natAbs) l
def gcdL (l : List Int) : Nat := gcdF 0 l
theorem gcdF_snoc (g : Nat) (n : Int) : ∀ (l : List Int), gcdF g (l ++ [n]) = Nat.gcd (gcdF g l) n.natAbs := by
  intro l
  induction l generalizing g with
  | nil => rfl
  | cons m l ih => simp only [List.cons_append, gcdF]; exact ih _
theorem gcdL_two (a b : Int) : gcdL [a, b] = Int.gcd a b := by simp [gcdL, gcdF, Int.gcd]
theorem gcdL_three (a b c : Int) : gcdL [a, b, c] = Nat.gcd (Int.gcd a b) c.natAbs := by simp [gcdL, gcdF, Int.gcd]
theorem gcdF_le {B : Nat} : ∀ {l : List Int} {g : Nat}, g ≤ B → (∀ x ∈ l, x.natAbs ≤ B) → gcdF g l ≤ B
  | [], g, hg, _ => hg
  | n :: l, g, hg, h => by
    simp only [gcdF]
    refine gcdF_le ?_ fun x hx => h x (by simp [hx])
    have h1 := h n (by simp)
    by_cases hg0 : g = 0
    · subst hg0; simpa using h1
    · exact Nat.le_trans (Nat.le_of_dvd (by omega) (Nat.gcd_dvd_left g n.natAbs)) hg
theorem gcdF_zero : ∀ {l : List Int} {g : Nat}, gcdF g l = 0 ↔ g = 0 ∧ ∀ x ∈ l, x = 0
  | [], g => by simp [gcdF]
  | n :: l, g => by
    simp only [gcdF, gcdF_zero (l := l), Nat.gcd_eq_zero_iff, List.mem_cons, forall_eq_or_imp]
    constructor
    · rintro ⟨⟨h1, h2⟩, h3⟩; exact ⟨h1, by omega, h3⟩
    · rintro ⟨h1, h2, h3⟩; exact ⟨⟨h1, by omega⟩, h3⟩
theorem gcdF_dvd_start : ∀ (l : List Int) (g : Nat), gcdF g l ∣ g
  | [], g => Nat.dvd_refl g
  | n :: l, g => Nat.dvd_trans (gcdF_dvd_start l _) (Nat.gcd_dvd_left ..)
theorem gcdF_dvd : ∀ {l : List Int} {g : Nat} {x : Int}, x ∈ l → ((gcdF g l : Nat) : Int) ∣ x
  | n :: l, g, x, hx => by
    rcases List.mem_cons.1 hx with rfl | hx
    · have h1 := Nat.dvd_trans (gcdF_dvd_start l (Nat.gcd g x.natAbs)) (Nat.gcd_dvd_right ..)
      exact Int.ofNat_dvd_left.2 h1
    · exact gcdF_dvd (l := l) hx
theorem dvd_gcdF {d : Nat} : ∀ {l : List Int} {g : Nat}, d ∣ g → (∀ x ∈ l, (d : Int) ∣ x) → d ∣ gcdF g l
  | [], g, hg, _ => hg
  | n :: l, g, hg, h => dvd_gcdF (l := l) (Nat.dvd_gcd hg (Int.ofNat_dvd_left.1 (h n (by simp)))) fun x hx => h x (by simp [hx])
/-- the program's divisor -/
theorem divisor_loop (l : List Int) (hl : l.length ≤ 1000000000) (hb : ∀ x ∈ l, x.natAbs ≤ 4611686018427387904) :
    (loopO (fun (s2 : (Int × Int)) =>
      bif decide (s2.2 < (l.length : Int)) then
        (idx l s2.2).bind fun x3 =>
        (loopO (fun (s5 : (Int × Int)) =>
            bif !(decide (s5.2 = 0)) then
              bif decide (s5.2 = 0) then
                none
              else
                some (.inl (s5.2, s5.1.tmod s5.2))
            else
              some (.inr s5.1)) (s2.1, x3)).bind fun (p6 : Int) =>
        some (.inl (p6, IntKind.wrap .i64 (s2.2 + 1)))
      else
        some (.inr s2.1)) (0, 0)).bind (fun (p7 : Int) => some (max p7 (IntKind.wrap .i64 (0 - p7)))) = some (gcdL l : Int) := by
  refine Ok.eq ?_
  rw [ok_bind]
  refine (loop_up l.length (fun i (s : Int × Int) => s.2 = (i : Int) ∧ s.1.natAbs = gcdL (l.take i)) (fun r : Int => r.natAbs = gcdL l) ⟨rfl, rfl⟩ ?_).mono ?_
  · rintro i ⟨g, s⟩ hi ⟨h1, h2⟩
    simp only at h1 h2
    subst h1
    by_cases hlt : i < l.length
    · have e0 : decide ((i : Int) < (l.length : Int)) = true := by simp; omega
      simp only [e0, cond_true]
      rw [idx_in 0 (by omega) (by omega)]
      simp only [Option.bind_some, Int.toNat_natCast]
      obtain ⟨r, h3, h4⟩ := euclid_loop (f := fun (s5 : (Int × Int)) => bif !(decide (s5.2 = 0)) then bif decide (s5.2 = 0) then none else some (.inl (s5.2, s5.1.tmod s5.2)) else some (.inr s5.1)) (fun s => by
        by_cases h : s.2 = 0 <;> simp [h]) (l.getD i 0).natAbs g (l.getD i 0) (Nat.le_refl _)
      rw [h3]
      simp only [Option.bind_some]
      rw [wrap_id (by omega) (by omega), rnd_inl]
      refine ⟨hlt, by simp, ?_⟩
      rw [h4, take_next 0 hlt]
      unfold gcdL at h2 ⊢
      rw [gcdF_snoc, ← h2]
      rfl
    · have : i = l.length := by omega
      subst this
      have e0 : decide ((l.length : Int) < (l.length : Int)) = false := by simp
      simp only [e0, cond_false]
      rw [rnd_inr]
      simpa using h2
  · intro r hr
    have hle : gcdL l ≤ 4611686018427387904 := gcdF_le (by omega) hb
    rw [wrap_id (by omega) (by omega), ok_some]
    omega
/-- the reference's -/
theorem Gcd_loop (a b : Int) (ha : a.natAbs ≤ 4611686018427387904) (hb : b.natAbs ≤ 4611686018427387904) :
    Ok (loopO (fun (s2 : (Int × Int)) =>
      bif !(decide (s2.2 = 0)) then
        bif decide (s2.2 = 0) then
          none
        else
          some (.inl (s2.2, s2.1.tmod s2.2))
      else
        some (.inr s2.1)) (a, b)) fun r => r.natAbs = Int.gcd a b := by
  obtain ⟨r, h1, h2⟩ := euclid_loop (f := fun (s2 : (Int × Int)) => bif !(decide (s2.2 = 0)) then bif decide (s2.2 = 0) then none else some (.inl (s2.2, s2.1.tmod s2.2)) else some (.inr s2.1)) (fun s => by
    by_cases h : s.2 = 0 <;> simp [h]) b.natAbs a b (Nat.le_refl _)
  exact ⟨r, h1, h2⟩
theorem gcd_le {a b : Int} {B : Nat} (ha : a.natAbs ≤ B) (hb : b.natAbs ≤ B) : Int.gcd a b ≤ B := by
  have := gcdF_le (B := B) (l := [a, b]) (g := 0) (by omega) (by simp [ha, hb])
  have e := gcdL_two a b
  unfold gcdL at e
  omega
end Go.Tx
end
section
/-
  PLAIN TOOLS: sums over lists.
-/
set_option linter.unusedVariables false
namespace Go.Tx
open Go
section
variable {α : Type}
def sumF (f : α → Int) : List α → Int
  | [] => 0
  | a :: l => f a + sumF f l
theorem sumF_app (f : α → Int) (l m : List α) : sumF f (l ++ m) = sumF f l + sumF f m := by
  induction l with
  | nil => simp [sumF]
  | cons a l ih => simp only [List.cons_append, sumF, ih]; omega
theorem sumF_next (f : α → Int) {l : List α} {i : Nat} {a : α} (h : l[i]? = some a) : sumF f (l.take (i + 1)) = sumF f (l.take i) + f a := by
  rw [List.take_add_one, h, sumF_app]; simp [sumF]
theorem sumF_bd {f : α → Int} {B : Int} : ∀ {l : List α}, (∀ a ∈ l, -B ≤ f a ∧ f a ≤ B) → -(B * l.length) ≤ sumF f l ∧ sumF f l ≤ B * l.length
  | [], _ => by simp [sumF]
  | a :: l, h => by
    have h1 := h a (by simp)
    have h2 := sumF_bd (l := l) fun x hx => h x (by simp [hx])
    have e : B * (((a :: l).length : Nat) : Int) = B * l.length + B := by simp [Int.mul_add]
    simp only [sumF]
    omega
theorem sumF_bd' {f : α → Int} {B : Int} {n : Nat} {l : List α} (hB : 0 ≤ B) (hl : l.length ≤ n) (h : ∀ a ∈ l, -B ≤ f a ∧ f a ≤ B) : -(B * n) ≤ sumF f l ∧ sumF f l ≤ B * n := by
  have h1 := sumF_bd h
  have h2 : B * (l.length : Int) ≤ B * n := Int.mul_le_mul_of_nonneg_left (by omega) hB
  omega
theorem sumF_take_bd {f : α → Int} {B : Int} {n : Nat} {l : List α} (i : Nat) (hB : 0 ≤ B) (hl : l.length ≤ n) (h : ∀ a ∈ l, -B ≤ f a ∧ f a ≤ B) : -(B * n) ≤ sumF f (l.take i) ∧ sumF f (l.take i) ≤ B * n :=
  sumF_bd' hB (by simp; omega) fun a ha => h a (List.mem_of_mem_take ha)
theorem sumF_nonneg {f : α → Int} : ∀ {l : List α}, (∀ a ∈ l, 0 ≤ f a) → 0 ≤ sumF f l
  | [], _ => by simp [sumF]
  | a :: l, h => by
    have h1 := h a (by simp)
    have h2 := sumF_nonneg (l := l) fun x hx => h x (by simp [hx])
    simp only [sumF]; omega
theorem sumF_zero {f : α → Int} : ∀ {l : List α}, (∀ a ∈ l, 0 ≤ f a) → (sumF f l = 0 ↔ ∀ a ∈ l, f a = 0)
  | [], _ => by simp [sumF]
  | a :: l, h => by
    have h1 := h a (by simp)
    have h2 := sumF_nonneg (l := l) fun x hx => h x (by simp [hx])
    have h3 := sumF_zero (l := l) fun x hx => h x (by simp [hx])
    simp only [sumF, List.mem_cons, forall_eq_or_imp]
    rw [← h3]
    omega
theorem sumF_add (f g : α → Int) (l : List α) : sumF (fun a => f a + g a) l = sumF f l + sumF g l := by
  induction l with
  | nil => rfl
  | cons a l ih => simp only [sumF, ih]; omega
theorem sumF_mul (c : Int) (f : α → Int) (l : List α) : sumF (fun a => c * f a) l = c * sumF f l := by
  induction l with
  | nil => simp [sumF]
  | cons a l ih => simp only [sumF, ih, Int.mul_add]
theorem sumF_const (c : Int) (l : List α) : sumF (fun _ => c) l = c * l.length := by
  induction l with
  | nil => simp [sumF]
  | cons a l ih => simp only [sumF, ih, List.length_cons]; rw [Int.natCast_add]; simp [Int.mul_add]; omega
theorem sumF_congr {f g : α → Int} {l : List α} (h : ∀ a ∈ l, f a = g a) : sumF f l = sumF g l := by
  induction l with
  | nil => rfl
  | cons a l ih => simp only [sumF, h a (by simp)]; rw [ih fun x hx => h x (by simp [hx])]
theorem sumF_map {β : Type} (f : β → Int) (g : α → β) (l : List α) : sumF f (l.map g) = sumF (fun a => f (g a)) l := by
  induction l with
  | nil => rfl
  | cons a l ih => simp only [List.map_cons, sumF, ih]
theorem sq_nonneg (z : Int) : 0 ≤ z * z := by
  rcases Int.le_total 0 z with hz | hz
  · exact Int.mul_nonneg hz hz
  · have := Int.mul_nonneg (show 0 ≤ -z by omega) (show 0 ≤ -z by omega); rwa [Int.neg_mul_neg] at this
theorem sq_zero {z : Int} (h : z * z = 0) : z = 0 := by
  rcases Int.mul_eq_zero.1 h with h | h <;> exact h
theorem abs_mul_le {a b A B : Int} (h1 : -A ≤ a ∧ a ≤ A) (h2 : -B ≤ b ∧ b ≤ B) : -(A * B) ≤ a * b ∧ a * b ≤ A * B := by
  have hA : 0 ≤ A := by omega
  have hB : 0 ≤ B := by omega
  have e : (a * b).natAbs = a.natAbs * b.natAbs := Int.natAbs_mul a b
  have h3 : a.natAbs * b.natAbs ≤ A.natAbs * B.natAbs := Nat.mul_le_mul (by omega) (by omega)
  have h4 : ((A.natAbs * B.natAbs : Nat) : Int) = A * B := by
    rw [Int.natCast_mul]; congr 1 <;> omega
  omega
end
end Go.Tx
end
section
/-
  PLAIN TOOLS: loops that build lists; equal lists.
-/
set_option linter.unusedVariables false
namespace Go.Tx
open Go
section
variable {α β : Type}
/-- a list by a rule -/
def mkL (n : Nat) (f : Nat → α) : List α := (List.range n).map f
theorem mkL_len (n : Nat) (f : Nat → α) : (mkL n f).length = n := by simp [mkL]
theorem mkL_get {n : Nat} (f : Nat → α) {k : Nat} (h : k < n) : (mkL n f)[k]? = some (f k) := by simp [mkL, h]
theorem mkL_getD {n : Nat} (f : Nat → α) {k : Nat} (d : α) (h : k < n) : (mkL n f).getD k d = f k := getD_at (mkL_get f h)
theorem mkL_zero (f : Nat → α) : mkL 0 f = [] := rfl
theorem mkL_succ (n : Nat) (f : Nat → α) : mkL (n + 1) f = mkL n f ++ [f n] := by simp [mkL, List.range_succ]
theorem mkL_congr {n : Nat} {f g : Nat → α} (h : ∀ k, k < n → f k = g k) : mkL n f = mkL n g := List.map_congr_left fun k hk => h k (by simpa using hk)
theorem mkL_mem {n : Nat} {f : Nat → α} {x : α} (h : x ∈ mkL n f) : ∃ k, k < n ∧ x = f k := by
  obtain ⟨k, hk, rfl⟩ := List.mem_map.1 h
  exact ⟨k, by simpa using hk, rfl⟩
theorem mem_mkL {n : Nat} {f : Nat → α} {k : Nat} (h : k < n) : f k ∈ mkL n f := List.mem_map.2 ⟨k, by simpa using h, rfl⟩
theorem list_mkL (l : List α) (d : α) : l = mkL l.length fun k => l.getD k d := by
  apply List.ext_getElem?
  intro k
  by_cases h : k < l.length
  · rw [mkL_get _ h]; simp [h]
  · rw [List.getElem?_eq_none (by omega), List.getElem?_eq_none (by rw [mkL_len]; omega)]
theorem mkL_of {l : List α} {n : Nat} {f : Nat → α} (hl : l.length = n) (h : ∀ k, k < n → l[k]? = some (f k)) : l = mkL n f := by
  apply List.ext_getElem?
  intro k
  by_cases hk : k < n
  · rw [mkL_get _ hk, h k hk]
  · rw [List.getElem?_eq_none (by omega), List.getElem?_eq_none (by rw [mkL_len]; omega)]
theorem map_mkL {n : Nat} (f : Nat → α) (g : α → β) : (mkL n f).map g = mkL n fun k => g (f k) := by simp [mkL]
theorem getD_mem {l : List α} {i : Nat} {d : α} (h : i < l.length) : l.getD i d ∈ l := by
  have : l[i]? = some (l.getD i d) := by simp [h]
  exact List.mem_of_getElem? this
theorem at_getD {l : List α} {i : Nat} (d : α) (h : i < l.length) : l[i]? = some (l.getD i d) := by simp [h]
/-- A LOOP that builds a list by a rule -/
theorem for_mk {K : List β × Int → Option ((List β × Int) ⊕ List β)} (n : Nat) (f : Nat → β)
    (h : ∀ i, i < n → K (mkL i f, (i : Int)) = some (.inl (mkL i f ++ [f i], (i : Int) + 1))) (he : K (mkL n f, (n : Int)) = some (.inr (mkL n f))) : loopO K ([], 0) = some (mkL n f) := by
  refine Ok.eq (loop_up n (fun i (s : List β × Int) => s = (mkL i f, (i : Int))) (fun r => r = mkL n f) rfl ?_)
  rintro i s hi rfl
  by_cases hlt : i < n
  · rw [h i hlt, rnd_inl]
    exact ⟨hlt, by rw [mkL_succ]; rfl⟩
  · have : i = n := by omega
    subst this
    rw [he, rnd_inr]
theorem for_map {K : List β × Int → Option ((List β × Int) ⊕ List β)} (l : List α) (f : α → β)
    (h : ∀ (i : Nat) a out, l[i]? = some a → out.length = i → K (out, (i : Int)) = some (.inl (out ++ [f a], (i : Int) + 1))) (he : ∀ out, out.length = l.length → K (out, (l.length : Int)) = some (.inr out)) : loopO K ([], 0) = some (l.map f) := by
  refine Ok.eq (loop_up l.length (fun i (s : List β × Int) => s = ((l.take i).map f, (i : Int))) (fun r => r = l.map f) (by simp) ?_)
  rintro i s hi rfl
  by_cases hlt : i < l.length
  · have ha : l[i]? = some l[i] := by simp [hlt]
    rw [h i _ _ ha (by simp; omega), rnd_inl]
    refine ⟨hlt, ?_⟩
    have e : (l.take (i + 1)).map f = (l.take i).map f ++ [f l[i]] := by rw [List.take_add_one, ha]; simp only [List.map_append, Option.toList_some, List.map_cons, List.map_nil]
    rw [e]; rfl
  · have : i = l.length := by omega
    subst this
    rw [he _ (by simp), rnd_inr]
    simp
theorem getD_ext {l m : List α} (d : α) : (l.length = m.length ∧ ∀ i, i < l.length → l.getD i d = m.getD i d) ↔ l = m := by
  constructor
  · rintro ⟨h1, h2⟩
    rw [list_mkL l d, list_mkL m d, h1]
    exact mkL_congr fun k hk => h2 k (by omega)
  · rintro rfl; exact ⟨rfl, fun _ _ => rfl⟩
/-- equal numbers -/
theorem ints_loop [DecidableEq α] {l m : List α} (d : α) (hl : l.length = m.length) (hb : l.length ≤ 1000000000) (e : α → α → Bool) (he : ∀ a b, a ∈ l → b ∈ m → (e a b = true ↔ a = b)) {K : Int → Option (Int ⊕ (Unit ⊕ Bool))}
    (h : ∀ i, i < l.length → K (i : Int) = some (if e (l.getD i d) (m.getD i d) = true then .inl ((i : Int) + 1) else .inr (.inr false))) :
    (loopO (fun s => bif decide (s < (l.length : Int)) then K s else some (.inr (.inl ()))) 0).bind (Sum.elim (fun (p5 : Unit) => some true) some) = some (decide (l = m)) := by
  refine Ok.eq (ok_elim.2 ?_)
  refine (loop_up l.length (fun i (s : Int) => s = (i : Int) ∧ ∀ j, j < i → l.getD j d = m.getD j d) (fun r => (r = .inl () ∧ ∀ j, j < l.length → l.getD j d = m.getD j d) ∨ (r = .inr false ∧ ∃ j, j < l.length ∧ l.getD j d ≠ m.getD j d)) ⟨rfl, by simp⟩ ?_).mono ?_
  · rintro i s hi ⟨rfl, hI⟩
    by_cases hlt : i < l.length
    · have e0 : decide ((i : Int) < (l.length : Int)) = true := by simp; omega
      simp only [e0, cond_true]
      rw [h i hlt]
      have hm := he (l.getD i d) (m.getD i d) (getD_mem hlt) (getD_mem (by omega))
      by_cases c : e (l.getD i d) (m.getD i d) = true
      · rw [if_pos c, rnd_inl]
        refine ⟨hlt, by simp, fun j hj => ?_⟩
        by_cases hji : j < i
        · exact hI j hji
        · have : j = i := by omega
          subst this; exact hm.1 c
      · rw [if_neg c, rnd_inr]
        exact .inr ⟨rfl, i, hlt, fun h => c (hm.2 h)⟩
    · have : i = l.length := by omega
      subst this
      have e0 : decide ((l.length : Int) < (l.length : Int)) = false := by simp
      simp only [e0, cond_false]
      rw [rnd_inr]
      exact .inl ⟨rfl, hI⟩
  · rintro r (⟨rfl, h1⟩ | ⟨rfl, j, hj, hne⟩)
    · simp only [ok_some]; rw [eq_comm, decide_eq_true_iff]; exact (getD_ext d).1 ⟨hl, h1⟩
    · simp only; rw [eq_comm, decide_eq_false_iff_not]
      exact fun h => hne (by rw [h])
end
end Go.Tx
end
section
/-
  WIDE NUMBERS in plain Lean: digits to the base 10^9, the lowest one first.
-/
set_option linter.unusedVariables false
namespace Go.Wide
/-- what digits say -/
def dv : List Int → Int
  | [] => 0
  | d :: l => d + 1000000000 * dv l
def dok (l : List Int) : Prop := ∀ d ∈ l, 0 ≤ d ∧ d < 1000000000
/-- the digits of a number -/
def digs (n : Nat) : List Int := if h : n = 0 then [] else ((n % 1000000000 : Nat) : Int) :: digs (n / 1000000000)
termination_by n
decreasing_by omega
def pw : Nat → Int
  | 0 => 1
  | k + 1 => 1000000000 * pw k
theorem pw_pos : ∀ k, 0 < pw k
  | 0 => by simp [pw]
  | k + 1 => by have := pw_pos k; simp only [pw]; omega
theorem pw_add (a : Nat) : ∀ b, pw (a + b) = pw a * pw b
  | 0 => by simp [pw]
  | b + 1 => by
    have h := pw_add a b
    rw [← Nat.add_assoc]; simp only [pw]; rw [h]; grind
theorem dok_nil : dok [] := by simp [dok]
theorem dok_cons {d : Int} {l : List Int} : dok (d :: l) ↔ (0 ≤ d ∧ d < 1000000000) ∧ dok l := by simp [dok]
theorem dok_app {l m : List Int} : dok (l ++ m) ↔ dok l ∧ dok m := by
  unfold dok; constructor
  · intro h; exact ⟨fun d hd => h d (by simp [hd]), fun d hd => h d (by simp [hd])⟩
  · rintro ⟨h1, h2⟩ d hd
    rcases List.mem_append.1 hd with h | h
    · exact h1 d h
    · exact h2 d h
theorem dok_get {l : List Int} (h : dok l) (i : Nat) : 0 ≤ l.getD i 0 ∧ l.getD i 0 < 1000000000 := by
  by_cases hi : i < l.length
  · have : l.getD i 0 = l[i] := by simp [hi]
    rw [this]; exact h _ (List.getElem_mem hi)
  · have : l.getD i 0 = 0 := by simp; rw [List.getElem?_eq_none (by omega)]; rfl
    rw [this]; omega
theorem dv_pos : ∀ {l : List Int}, dok l → 0 ≤ dv l
  | [], _ => by simp [dv]
  | d :: l, h => by
    have h := dok_cons.1 h
    have := dv_pos h.2
    simp only [dv]; omega
theorem dv_lt : ∀ {l : List Int}, dok l → dv l < pw l.length
  | [], _ => by simp [dv, pw]
  | d :: l, h => by
    have h := dok_cons.1 h
    have := dv_lt h.2
    simp only [dv, List.length_cons, pw]; omega
theorem dv_app : ∀ (l m : List Int), dv (l ++ m) = dv l + pw l.length * dv m
  | [], m => by simp [dv, pw]
  | d :: l, m => by
    have h := dv_app l m
    simp only [List.cons_append, dv, List.length_cons, pw]; rw [h]; grind
theorem dv_zeros : ∀ {l : List Int}, (∀ d ∈ l, d = 0) → dv l = 0
  | [], _ => rfl
  | d :: l, h => by
    have h1 := h d (by simp)
    have h2 : dv l = 0 := dv_zeros fun e he => h e (List.mem_cons_of_mem _ he)
    simp only [dv, h1, h2]; rfl
theorem digs_zero : digs 0 = [] := by unfold digs; simp
theorem digs_pos {n : Nat} (h : n ≠ 0) : digs n = ((n % 1000000000 : Nat) : Int) :: digs (n / 1000000000) := by
  conv => lhs; unfold digs
  rw [dif_neg h]
theorem dok_digs (n : Nat) : dok (digs n) := by
  induction n using Nat.strongRecOn with
  | ind n ih =>
    by_cases h : n = 0
    · rw [h, digs_zero]; exact dok_nil
    · rw [digs_pos h, dok_cons]
      exact ⟨by omega, ih _ (by omega)⟩
theorem dv_digs (n : Nat) : dv (digs n) = n := by
  induction n using Nat.strongRecOn with
  | ind n ih =>
    by_cases h : n = 0
    · rw [h, digs_zero]; rfl
    · rw [digs_pos h, dv, ih _ (by omega)]; omega
/-- digits without a zero at the end are those of their number -/
theorem digs_dv : ∀ {l : List Int}, dok l → (∀ a, l.getLast? = some a → a ≠ 0) → digs (dv l).toNat = l
  | [], _, _ => by simp [dv, digs_zero]
  | d :: l, h, hz => by
    have h := dok_cons.1 h
    have hp := dv_pos h.2
    have hne : (dv (d :: l)).toNat ≠ 0 := by
      simp only [dv]
      cases l with
      | nil => have := hz d (by simp); simp only [dv]; omega
      | cons e l =>
        have h3 := digs_dv h.2 (fun a ha => hz a (by simpa using ha))
        have : dv (e :: l) ≠ 0 := fun h0 => by rw [h0] at h3; simp [digs_zero] at h3
        omega
    rw [digs_pos hne]
    have h3 := digs_dv h.2 (fun a ha => hz a (by
      cases l with
      | nil => simp at ha
      | cons e l => simpa using ha))
    have e1 : (dv (d :: l)).toNat / 1000000000 = (dv l).toNat := by simp only [dv]; omega
    have e2 : (((dv (d :: l)).toNat % 1000000000 : Nat) : Int) = d := by simp only [dv]; omega
    rw [e1, e2, h3]
theorem digs_len {n : Nat} : ∀ {k : Nat}, (n : Int) < pw k → (digs n).length ≤ k := by
  induction n using Nat.strongRecOn with
  | ind n ih =>
    intro k hk
    by_cases h : n = 0
    · rw [h, digs_zero]; simp
    · rw [digs_pos h]
      cases k with
      | zero => simp [pw] at hk; omega
      | succ k =>
        simp only [pw] at hk
        have := ih (n / 1000000000) (by omega) (k := k) (by omega)
        simp; omega
theorem digs_lt (n : Nat) : (n : Int) < pw (digs n).length := by
  have := dv_lt (dok_digs n)
  rwa [dv_digs] at this
theorem digs_last (n : Nat) : ∀ a, (digs n).getLast? = some a → a ≠ 0 := by
  induction n using Nat.strongRecOn with
  | ind n ih =>
    intro a ha
    by_cases h : n = 0
    · rw [h, digs_zero] at ha; simp at ha
    · rw [digs_pos h] at ha
      by_cases h1 : n / 1000000000 = 0
      · rw [h1, digs_zero] at ha
        simp at ha; omega
      · refine ih (n / 1000000000) (by omega) a ?_
        have hne : digs (n / 1000000000) ≠ [] := by rw [digs_pos h1]; simp
        rwa [List.getLast?_cons_of_ne_nil hne] at ha
/-- the digits at the top of a number with as many -/
theorem digs_ge {n : Nat} (h : n ≠ 0) : pw ((digs n).length - 1) ≤ n := by
  rcases Int.lt_or_le (n : Int) (pw ((digs n).length - 1)) with h1 | h1
  · have := digs_len h1
    have h2 : 0 < (digs n).length := by rw [digs_pos h]; simp
    omega
  · exact h1
theorem pw_mono {a b : Nat} (h : a ≤ b) : pw a ≤ pw b := by
  obtain ⟨c, rfl⟩ : ∃ c, b = a + c := ⟨b - a, by omega⟩
  rw [pw_add]
  have h1 := pw_pos a
  have h2 := pw_pos c
  have := Int.mul_le_mul_of_nonneg_left (show 1 ≤ pw c by omega) (Int.le_of_lt h1)
  omega
theorem digs_len_mono {m n : Nat} (h : m ≤ n) : (digs m).length ≤ (digs n).length :=
  digs_len (Int.lt_of_le_of_lt (by omega) (digs_lt n))

/-- the length of a number -/
def wl (n : Int) : Nat := (digs n.natAbs).length
theorem wl_lt {n : Int} : n.natAbs < pw (wl n) := digs_lt n.natAbs
theorem wl_le {n : Int} {k : Nat} (h : (n.natAbs : Int) < pw k) : wl n ≤ k := digs_len h
theorem wl_mono {m n : Int} (h : m.natAbs ≤ n.natAbs) : wl m ≤ wl n := digs_len_mono h
theorem wl_int {n : Int} (h : n.natAbs ≤ 999999999999999999999999999) : wl n ≤ 3 := wl_le (by simp only [pw]; omega)
theorem wl_one : wl 1 = 1 := by unfold wl; rw [digs_pos (by simp)]; simp [digs_zero]
theorem wl_neg (n : Int) : wl (-n) = wl n := by unfold wl; rw [Int.natAbs_neg]
theorem wl_mul (a b : Int) : wl (a * b) ≤ wl a + wl b := by
  refine wl_le ?_
  rw [pw_add, Int.natAbs_mul]
  have h1 := wl_lt (n := a)
  have h2 := wl_lt (n := b)
  by_cases hb : b.natAbs = 0
  · rw [hb]; have := Int.mul_pos (pw_pos (wl a)) (pw_pos (wl b)); simpa using this
  · have h3 := Int.mul_lt_mul_of_pos_right h1 (show (0 : Int) < b.natAbs by omega)
    have h4 := Int.mul_le_mul_of_nonneg_left (Int.le_of_lt h2) (Int.le_of_lt (pw_pos (wl a)))
    rw [Int.natCast_mul]; omega
theorem wl_add (a b : Int) : wl (a + b) ≤ max (wl a) (wl b) + 1 := by
  refine wl_le ?_
  have h1 := wl_lt (n := a)
  have h2 := wl_lt (n := b)
  have h3 := pw_mono (Nat.le_max_left (wl a) (wl b))
  have h4 := pw_mono (Nat.le_max_right (wl a) (wl b))
  simp only [pw]; omega
theorem wl_div (a : Int) {b : Int} (hb : 0 < b) : wl (a / b) ≤ wl a + 1 := by
  refine wl_le ?_
  have h1 := wl_lt (n := a)
  have h2 := pw_pos (wl a)
  have h3 : (a / b).natAbs ≤ a.natAbs + 1 := by
    have h4 : (a / b) * b ≤ a := Int.ediv_mul_le a (by omega)
    have h5 : a < (a / b + 1) * b := Int.lt_ediv_add_one_mul_self a hb
    rcases Int.lt_or_le (a / b) 0 with h | h
    · have h6 : (a / b + 1) * b ≤ (a / b + 1) * 1 := Int.mul_le_mul_of_nonpos_left (by omega) (by omega)
      omega
    · have h6 : (a / b) * 1 ≤ (a / b) * b := Int.mul_le_mul_of_nonneg_left (by omega) h
      omega
  simp only [pw]; omega

/-- a number as wide one -/
def W (n : Int) : Int × List Int × Unit := (n.sign, digs n.natAbs, ())
theorem W_zero : W 0 = (0, [], ()) := by simp [W, digs_zero]
theorem W_of {s v : Int} {l : List Int} (hl : dok l) (hz : ∀ a, l.getLast? = some a → a ≠ 0) (hs : s = 1 ∨ s = -1 ∨ s = 0) (h0 : s = 0 → dv l = 0) (hv : v = s * dv l) :
    ((if l.length = 0 then 0 else s), l, ()) = W v := by
  have hd := digs_dv hl hz
  have hp := dv_pos hl
  unfold W
  rcases hs with rfl | rfl | rfl
  · have : v.natAbs = (dv l).toNat := by omega
    rw [this, hd]
    by_cases h : l.length = 0
    · rw [if_pos h]
      have : l = [] := List.eq_nil_of_length_eq_zero h
      subst this
      simp [dv] at hv; simp [hv]
    · rw [if_neg h]
      have : v ≠ 0 := fun hv0 => h (by rw [← hd]; have : (dv l).toNat = 0 := by omega
                                       rw [this, digs_zero]; rfl)
      rw [Int.sign_eq_one_of_pos (by omega)]
  · have : v.natAbs = (dv l).toNat := by omega
    rw [this, hd]
    by_cases h : l.length = 0
    · rw [if_pos h]
      have : l = [] := List.eq_nil_of_length_eq_zero h
      subst this
      simp [dv] at hv; simp [hv]
    · rw [if_neg h]
      have : v ≠ 0 := fun hv0 => h (by rw [← hd]; have : (dv l).toNat = 0 := by omega
                                       rw [this, digs_zero]; rfl)
      rw [Int.sign_eq_neg_one_of_neg (by omega)]
  · have h1 := h0 rfl
    rw [h1] at hd
    simp [digs_zero] at hd
    subst hd
    simp [dv] at hv
    simp [hv, digs_zero]
theorem W_sign (n : Int) : (W n).1 = n.sign := rfl
theorem W_dv (n : Int) : dv (W n).2.1 = n.natAbs := dv_digs _
theorem W_dok (n : Int) : dok (W n).2.1 := dok_digs _
theorem W_len (n : Int) : (W n).2.1.length = wl n := rfl
end Go.Wide
end
section
/-
  TYPED FUNCTIONS (written by gen.py), each with the equation that the kernel checks: it is what the typed interpreter computes.
-/
set_option maxRecDepth 100000
set_option linter.unusedVariables false
namespace Go.Proofs.Ytpiggpgocnlomaa
open Go Go.Ab Go.Tx
noncomputable section
@[reducible] def I : Ty := .int .i64
@[reducible] def w64 (n : Int) : Int := IntKind.wrap .i64 n
def lookJ : List (List Tmp × FuncId × Kind × Join) → List Tmp → FuncId → Kind → Option Join
  | [], _, _, _ => none
  | (c, f, k, j) :: l, c', f', k' => if f = f' then (if k = k' then (if c = c' then some j else lookJ l c' f' k') else lookJ l c' f' k') else lookJ l c' f' k'
def awakeId : Nat := 14
def mkTH (js : List (List Tmp × FuncId × Kind × Join)) (inl : List (List Tmp × FuncId × Tmp)) : TH where
  lib := fun g => decide (g = awakeId)
  join := lookJ js
  inl := fun c f d => inl.any fun (c', f', d') => decide (f = f') && decide (d = d') && decide (c = c')
/-- functions that are known otherwise -/
def Lb : FuncId → Option (List V → Option V) := fun g => if g = awakeId then some (fun args => match args with
    | [] => some (.val (.bool true))
    | _ => none) else none
theorem hJ {js : List (List Tmp × FuncId × Kind × Join)} {inl : List (List Tmp × FuncId × Tmp)} : ∀ g, (mkTH js inl).lib g = false → Lb g = none := fun g h => by
  simp only [mkTH, decide_eq_false_iff_not] at h
  simp [Lb, h]
def law07_awake : Option Bool := some true
def e_law07_awake : Entry := ⟨14, [], [(.bool, 0)], fun _ => law07_awake⟩
theorem o_law07_awake : EntryOk Try.prog Hn.hints Lb e_law07_awake := fun x y h vs hv => by
  obtain rfl : true = y := Option.some.inj h
  simp only [e_law07_awake, ofPms, RVL] at hv
  subst hv
  refine ⟨.val (.bool true), ⟨1, fun m hm => ?_⟩, by simp [packT, e_law07_awake, ofL, packedT, ofTy, RV, RTy]⟩
  obtain ⟨m', rfl⟩ : ∃ m', m = m' + 1 := ⟨m - 1, by omega⟩
  simp [orcN, Lb, awakeId, e_law07_awake]
/-- ductility/ductilitylaw07.images -/
def law07_images (a0 : (List (List Int))) : Option Bool :=
  (loopO (fun (s2 : Int) =>
      bif decide (s2 < (a0.length : Int)) then
        (idx a0 s2).bind fun x3 =>
        bif decide ((x3.length : Int) > 12) then
          some (.inr (.inr false))
        else
          some (.inl (w64 (s2 + 1)))
      else
        some (.inr (.inl ()))) 0).bind (Sum.elim (fun (p4 : Unit) =>
  some (decide ((a0.length : Int) ≤ 12))) some)
def e_law07_images : Entry := ⟨24, [.ty (.sl (.sl I))], [(.bool, 0)], fun x => law07_images x⟩
def j_law07_images : TH := mkTH [([], 24, .block 0, { lv := [], ps := [], abn := true, D := ⟨65532⟩ }),
  ([], 24, .loop 0, { lv := [⟨none, 3, 0⟩], ps := [(I, 0)], D := ⟨65532⟩ })] []
theorem k_law07_images (x : denP e_law07_images.ps) : fnT Try.prog Hn.hints j_law07_images (tabT []) 40 24 (ofPms e_law07_images.ps x) e_law07_images.rs = e_law07_images.F x := by kernel_rfl
theorem o_law07_images : EntryOk Try.prog Hn.hints Lb e_law07_images := entry_ok tab_nil hJ 40 _ _ _ _ k_law07_images
/-- ductility/ductilitybase.Within -/
def base_Within (a0 : Int) (a1 : Int) (a2 : Int) : Option Bool :=
  (bif decide (a1 ≤ a0) then
      some (decide (a0 ≤ a2))
    else
      some false).bind fun (p1 : Bool) =>
  some p1
def e_base_Within : Entry := ⟨20, [.ty I, .ty I, .ty I], [(.bool, 0)], fun x => base_Within x.1 x.2.1 x.2.2⟩
def j_base_Within : TH := mkTH [([], 20, .region 1, { lv := [⟨none, 6, 0⟩], ps := [(.bool, 0)], D := ⟨32704⟩ })] []
theorem k_base_Within (x : denP e_base_Within.ps) : fnT Try.prog Hn.hints j_base_Within (tabT []) 40 20 (ofPms e_base_Within.ps x) e_base_Within.rs = e_base_Within.F x := by kernel_rfl
theorem o_base_Within : EntryOk Try.prog Hn.hints Lb e_base_Within := entry_ok tab_nil hJ 40 _ _ _ _ k_base_Within
/-- ductility/ductilityref07.ImageErr -/
def ref07_ImageErr (a0 : (List (List Int))) : Option Int :=
  (bif decide ((a0.length : Int) = 0) then
      some true
    else
      (idx a0 0).bind fun x1 =>
      some (decide ((x1.length : Int) = 0))).bind fun (p2 : Bool) =>
  bif p2 then
    some 10
  else
    (loopO (fun (s4 : Int) =>
        bif decide (s4 < (a0.length : Int)) then
          (idx a0 s4).bind fun x5 =>
          (idx a0 0).bind fun x6 =>
          bif !(decide ((x5.length : Int) = (x6.length : Int))) then
            some (.inr (.inr 10))
          else
            some (.inl (w64 (s4 + 1)))
        else
          some (.inr (.inl ()))) 0).bind (Sum.elim (fun (p7 : Unit) =>
    (bif decide ((a0.length : Int) > 10) then
        some true
      else
        (idx a0 0).bind fun x8 =>
        some (decide ((x8.length : Int) > 10))).bind fun (p9 : Bool) =>
    bif p9 then
      some 8
    else
      (loopO (fun (s11 : (Int × Int)) =>
          bif decide (s11.2 < (a0.length : Int)) then
            (loopO (fun (s13 : (Int × Int)) =>
                (idx a0 s11.2).bind fun x14 =>
                bif decide (s13.2 < (x14.length : Int)) then
                  (idx a0 s11.2).bind fun x15 =>
                  (idx x15 s13.2).bind fun x16 =>
                  (base_Within x16 (0 : Int) (255 : Int)).bind fun x17 =>
                  bif !x17 then
                    some (.inr (.inr (.inr (.inr 2))))
                  else
                    (idx a0 s11.2).bind fun x18 =>
                    (idx x18 s13.2).bind fun x19 =>
                    some (.inl (w64 (s13.1 + x19), w64 (s13.2 + 1)))
                else
                  some (.inr (.inl s13.1))) (s11.1, 0)).bind (Sum.elim (fun (p20 : Int) =>
            some (.inl (p20, w64 (s11.2 + 1)))) some)
          else
            some (.inr (.inl s11.1))) (0, 0)).bind (Sum.elim (fun (p21 : Int) =>
      bif decide (p21 = 0) then
        some 11
      else
        some 0) some)) some)
def e_ref07_ImageErr : Entry := ⟨27, [.ty (.sl (.sl I))], [(I, 0)], fun x => ref07_ImageErr x⟩
def j_ref07_ImageErr : TH := mkTH [([], 27, .region 1, { lv := [⟨none, 16, 0⟩], ps := [(.bool, 0)], D := ⟨130944⟩ }),
  ([], 27, .block 0, { lv := [], ps := [], abn := true, D := ⟨8589803532⟩ }),
  ([], 27, .loop 0, { lv := [⟨none, 3, 0⟩], ps := [(I, 0)], D := ⟨8589803532⟩ }),
  ([], 27, .region 8, { lv := [⟨none, 42, 0⟩], ps := [(.bool, 0)], D := ⟨8787503087616⟩ }),
  ([], 27, .block 2, { lv := [⟨none, 4, 0⟩], ps := [(I, 0)], abn := true, D := ⟨75557863717118230397044⟩ }),
  ([], 27, .loop 2, { lv := [⟨none, 4, 0⟩, ⟨none, 5, 0⟩], ps := [(I, 0), (I, 0)], D := ⟨75557863717118230397044⟩ }),
  ([], 27, .block 4, { lv := [⟨none, 4, 0⟩], ps := [(I, 0)], abn := true, D := ⟨75557863162964369997908⟩ }),
  ([], 27, .loop 4, { lv := [⟨none, 4, 0⟩, ⟨none, 6, 0⟩], ps := [(I, 0), (I, 0)], D := ⟨75557863162964369997908⟩ })] []
theorem k_ref07_ImageErr (x : denP e_ref07_ImageErr.ps) : fnT Try.prog Hn.hints j_ref07_ImageErr (tabT [e_base_Within]) 40 27 (ofPms e_ref07_ImageErr.ps x) e_ref07_ImageErr.rs = e_ref07_ImageErr.F x := by kernel_rfl
theorem o_ref07_ImageErr : EntryOk Try.prog Hn.hints Lb e_ref07_ImageErr := entry_ok (tab_cons o_base_Within tab_nil) hJ 40 _ _ _ _ k_ref07_ImageErr
/-- ductility/ductilitybase.CopyInts -/
def base_CopyInts (a0 : (List Int)) : Option (List Int) :=
  (app [] a0).bind fun x1 =>
  some x1
def e_base_CopyInts : Entry := ⟨36, [.ty (.sl I)], [((.sl I), 1)], fun x => base_CopyInts x⟩
def j_base_CopyInts : TH := mkTH [] []
theorem k_base_CopyInts (x : denP e_base_CopyInts.ps) : fnT Try.prog Hn.hints j_base_CopyInts (tabT []) 40 36 (ofPms e_base_CopyInts.ps x) e_base_CopyInts.rs = e_base_CopyInts.F x := by kernel_rfl
theorem o_base_CopyInts : EntryOk Try.prog Hn.hints Lb e_base_CopyInts := entry_ok tab_nil hJ 40 _ _ _ _ k_base_CopyInts
/-- ductility/ductilitybase.CopyLists -/
def base_CopyLists (a0 : (List (List Int))) : Option (List (List Int)) :=
  (loopO (fun (s3 : ((List (List Int)) × Int)) =>
      bif decide (s3.2 < (a0.length : Int)) then
        (idx a0 s3.2).bind fun x4 =>
        (base_CopyInts x4).bind fun x5 =>
        (app s3.1 ([x5])).bind fun x6 =>
        some (.inl (x6, w64 (s3.2 + 1)))
      else
        some (.inr s3.1)) ([], 0)).bind fun (p7 : (List (List Int))) =>
  some p7
def e_base_CopyLists : Entry := ⟨17, [.ty (.sl (.sl I))], [((.sl (.sl I)), 2)], fun x => base_CopyLists x⟩
def j_base_CopyLists : TH := mkTH [([], 17, .block 0, { lv := [⟨none, 3, 0⟩], ps := [((.sl (.sl I)), 2)], D := ⟨524280⟩ }),
  ([], 17, .loop 0, { lv := [⟨none, 3, 0⟩, ⟨none, 4, 0⟩], ps := [((.sl (.sl I)), 2), (I, 0)], D := ⟨524280⟩ })] []
theorem k_base_CopyLists (x : denP e_base_CopyLists.ps) : fnT Try.prog Hn.hints j_base_CopyLists (tabT [e_base_CopyInts]) 40 17 (ofPms e_base_CopyLists.ps x) e_base_CopyLists.rs = e_base_CopyLists.F x := by kernel_rfl
theorem o_base_CopyLists : EntryOk Try.prog Hn.hints Lb e_base_CopyLists := entry_ok (tab_cons o_base_CopyInts tab_nil) hJ 40 _ _ _ _ k_base_CopyLists
/-- ductility/sensor.samplesOf -/
def sensor_samplesOf (a0 : (List (List Int))) : Option Int :=
  bif decide ((a0.length : Int) = 0) then
    some 0
  else
    (idx a0 0).bind fun x1 =>
    some (x1.length : Int)
def e_sensor_samplesOf : Entry := ⟨108, [.ty (.sl (.sl I))], [(I, 0)], fun x => sensor_samplesOf x⟩
def j_sensor_samplesOf : TH := mkTH [] []
theorem k_sensor_samplesOf (x : denP e_sensor_samplesOf.ps) : fnT Try.prog Hn.hints j_sensor_samplesOf (tabT []) 40 108 (ofPms e_sensor_samplesOf.ps x) e_sensor_samplesOf.rs = e_sensor_samplesOf.F x := by kernel_rfl
theorem o_sensor_samplesOf : EntryOk Try.prog Hn.hints Lb e_sensor_samplesOf := entry_ok tab_nil hJ 40 _ _ _ _ k_sensor_samplesOf
/-- ductility/sensor.within -/
def sensor_within (a0 : Int) (a1 : Int) (a2 : Int) : Option Bool :=
  (bif decide (a1 ≤ a0) then
      some (decide (a0 ≤ a2))
    else
      some false).bind fun (p1 : Bool) =>
  some p1
def e_sensor_within : Entry := ⟨107, [.ty I, .ty I, .ty I], [(.bool, 0)], fun x => sensor_within x.1 x.2.1 x.2.2⟩
def j_sensor_within : TH := mkTH [([], 107, .region 1, { lv := [⟨none, 6, 0⟩], ps := [(.bool, 0)], D := ⟨32704⟩ })] []
theorem k_sensor_within (x : denP e_sensor_within.ps) : fnT Try.prog Hn.hints j_sensor_within (tabT []) 40 107 (ofPms e_sensor_within.ps x) e_sensor_within.rs = e_sensor_within.F x := by kernel_rfl
theorem o_sensor_within : EntryOk Try.prog Hn.hints Lb e_sensor_within := entry_ok tab_nil hJ 40 _ _ _ _ k_sensor_within
/-- ductility/sensor.imageErr$2 -/
def sensor_imageErr_2 (a0 : Int) : Option Bool :=
  (sensor_within a0 (0 : Int) (255 : Int)).bind fun x1 =>
  some (!x1)
def e_sensor_imageErr_2 : Entry := ⟨153, [.ty I], [(.bool, 0)], fun x => sensor_imageErr_2 x⟩
def j_sensor_imageErr_2 : TH := mkTH [] []
theorem k_sensor_imageErr_2 (x : denP e_sensor_imageErr_2.ps) : fnT Try.prog Hn.hints j_sensor_imageErr_2 (tabT [e_sensor_within]) 40 153 (ofPms e_sensor_imageErr_2.ps x) e_sensor_imageErr_2.rs = e_sensor_imageErr_2.F x := by kernel_rfl
theorem o_sensor_imageErr_2 : EntryOk Try.prog Hn.hints Lb e_sensor_imageErr_2 := entry_ok (tab_cons o_sensor_within tab_nil) hJ 40 _ _ _ _ k_sensor_imageErr_2
/-- slices.IndexFunc[[]int,int] -/
def slices_IndexFunc_Lint_int_of_sensor_imageErr_2 (a0 : (List Int)) : Option Int :=
  (loopO (fun (s2 : Int) =>
      bif decide (s2 < (a0.length : Int)) then
        (idx a0 s2).bind fun x3 =>
        (sensor_imageErr_2 x3).bind fun x4 =>
        bif x4 then
          some (.inr (.inr s2))
        else
          some (.inl (w64 (s2 + 1)))
      else
        some (.inr (.inl ()))) 0).bind (Sum.elim (fun (p5 : Unit) =>
  some (-1)) some)
def e_slices_IndexFunc_Lint_int_of_sensor_imageErr_2 : Entry := ⟨176, [.ty (.sl I), .fn 153 []], [(I, 0)], fun x => slices_IndexFunc_Lint_int_of_sensor_imageErr_2 x.1⟩
def j_slices_IndexFunc_Lint_int_of_sensor_imageErr_2 : TH := mkTH [([], 176, .block 0, { lv := [], ps := [], abn := true, D := ⟨524080⟩ }),
  ([], 176, .loop 0, { lv := [⟨none, 8, 0⟩], ps := [(I, 0)], D := ⟨524080⟩ })] []
theorem k_slices_IndexFunc_Lint_int_of_sensor_imageErr_2 (x : denP e_slices_IndexFunc_Lint_int_of_sensor_imageErr_2.ps) : fnT Try.prog Hn.hints j_slices_IndexFunc_Lint_int_of_sensor_imageErr_2 (tabT [e_sensor_imageErr_2]) 40 176 (ofPms e_slices_IndexFunc_Lint_int_of_sensor_imageErr_2.ps x) e_slices_IndexFunc_Lint_int_of_sensor_imageErr_2.rs = e_slices_IndexFunc_Lint_int_of_sensor_imageErr_2.F x := by kernel_rfl
theorem o_slices_IndexFunc_Lint_int_of_sensor_imageErr_2 : EntryOk Try.prog Hn.hints Lb e_slices_IndexFunc_Lint_int_of_sensor_imageErr_2 := entry_ok (tab_cons o_sensor_imageErr_2 tab_nil) hJ 40 _ _ _ _ k_slices_IndexFunc_Lint_int_of_sensor_imageErr_2
/-- slices.ContainsFunc[[]int,int] -/
def slices_ContainsFunc_Lint_int_of_sensor_imageErr_2 (a0 : (List Int)) : Option Bool :=
  (slices_IndexFunc_Lint_int_of_sensor_imageErr_2 a0).bind fun x1 =>
  some (decide (x1 ≥ 0))
def e_slices_ContainsFunc_Lint_int_of_sensor_imageErr_2 : Entry := ⟨152, [.ty (.sl I), .fn 153 []], [(.bool, 0)], fun x => slices_ContainsFunc_Lint_int_of_sensor_imageErr_2 x.1⟩
def j_slices_ContainsFunc_Lint_int_of_sensor_imageErr_2 : TH := mkTH [] []
theorem k_slices_ContainsFunc_Lint_int_of_sensor_imageErr_2 (x : denP e_slices_ContainsFunc_Lint_int_of_sensor_imageErr_2.ps) : fnT Try.prog Hn.hints j_slices_ContainsFunc_Lint_int_of_sensor_imageErr_2 (tabT [e_slices_IndexFunc_Lint_int_of_sensor_imageErr_2]) 40 152 (ofPms e_slices_ContainsFunc_Lint_int_of_sensor_imageErr_2.ps x) e_slices_ContainsFunc_Lint_int_of_sensor_imageErr_2.rs = e_slices_ContainsFunc_Lint_int_of_sensor_imageErr_2.F x := by kernel_rfl
theorem o_slices_ContainsFunc_Lint_int_of_sensor_imageErr_2 : EntryOk Try.prog Hn.hints Lb e_slices_ContainsFunc_Lint_int_of_sensor_imageErr_2 := entry_ok (tab_cons o_slices_IndexFunc_Lint_int_of_sensor_imageErr_2 tab_nil) hJ 40 _ _ _ _ k_slices_ContainsFunc_Lint_int_of_sensor_imageErr_2
/-- ductility/sensor.imageErr$3 -/
def sensor_imageErr_3 (a0 : Int) : Option Bool :=
  some (!(decide (a0 = 0)))
def e_sensor_imageErr_3 : Entry := ⟨154, [.ty I], [(.bool, 0)], fun x => sensor_imageErr_3 x⟩
def j_sensor_imageErr_3 : TH := mkTH [] []
theorem k_sensor_imageErr_3 (x : denP e_sensor_imageErr_3.ps) : fnT Try.prog Hn.hints j_sensor_imageErr_3 (tabT []) 40 154 (ofPms e_sensor_imageErr_3.ps x) e_sensor_imageErr_3.rs = e_sensor_imageErr_3.F x := by kernel_rfl
theorem o_sensor_imageErr_3 : EntryOk Try.prog Hn.hints Lb e_sensor_imageErr_3 := entry_ok tab_nil hJ 40 _ _ _ _ k_sensor_imageErr_3
/-- slices.IndexFunc[[]int,int] -/
def slices_IndexFunc_Lint_int_of_sensor_imageErr_3 (a0 : (List Int)) : Option Int :=
  (loopO (fun (s2 : Int) =>
      bif decide (s2 < (a0.length : Int)) then
        (idx a0 s2).bind fun x3 =>
        (sensor_imageErr_3 x3).bind fun x4 =>
        bif x4 then
          some (.inr (.inr s2))
        else
          some (.inl (w64 (s2 + 1)))
      else
        some (.inr (.inl ()))) 0).bind (Sum.elim (fun (p5 : Unit) =>
  some (-1)) some)
def e_slices_IndexFunc_Lint_int_of_sensor_imageErr_3 : Entry := ⟨176, [.ty (.sl I), .fn 154 []], [(I, 0)], fun x => slices_IndexFunc_Lint_int_of_sensor_imageErr_3 x.1⟩
def j_slices_IndexFunc_Lint_int_of_sensor_imageErr_3 : TH := mkTH [([], 176, .block 0, { lv := [], ps := [], abn := true, D := ⟨524080⟩ }),
  ([], 176, .loop 0, { lv := [⟨none, 8, 0⟩], ps := [(I, 0)], D := ⟨524080⟩ })] []
theorem k_slices_IndexFunc_Lint_int_of_sensor_imageErr_3 (x : denP e_slices_IndexFunc_Lint_int_of_sensor_imageErr_3.ps) : fnT Try.prog Hn.hints j_slices_IndexFunc_Lint_int_of_sensor_imageErr_3 (tabT [e_sensor_imageErr_3]) 40 176 (ofPms e_slices_IndexFunc_Lint_int_of_sensor_imageErr_3.ps x) e_slices_IndexFunc_Lint_int_of_sensor_imageErr_3.rs = e_slices_IndexFunc_Lint_int_of_sensor_imageErr_3.F x := by kernel_rfl
theorem o_slices_IndexFunc_Lint_int_of_sensor_imageErr_3 : EntryOk Try.prog Hn.hints Lb e_slices_IndexFunc_Lint_int_of_sensor_imageErr_3 := entry_ok (tab_cons o_sensor_imageErr_3 tab_nil) hJ 40 _ _ _ _ k_slices_IndexFunc_Lint_int_of_sensor_imageErr_3
/-- slices.ContainsFunc[[]int,int] -/
def slices_ContainsFunc_Lint_int_of_sensor_imageErr_3 (a0 : (List Int)) : Option Bool :=
  (slices_IndexFunc_Lint_int_of_sensor_imageErr_3 a0).bind fun x1 =>
  some (decide (x1 ≥ 0))
def e_slices_ContainsFunc_Lint_int_of_sensor_imageErr_3 : Entry := ⟨152, [.ty (.sl I), .fn 154 []], [(.bool, 0)], fun x => slices_ContainsFunc_Lint_int_of_sensor_imageErr_3 x.1⟩
def j_slices_ContainsFunc_Lint_int_of_sensor_imageErr_3 : TH := mkTH [] []
theorem k_slices_ContainsFunc_Lint_int_of_sensor_imageErr_3 (x : denP e_slices_ContainsFunc_Lint_int_of_sensor_imageErr_3.ps) : fnT Try.prog Hn.hints j_slices_ContainsFunc_Lint_int_of_sensor_imageErr_3 (tabT [e_slices_IndexFunc_Lint_int_of_sensor_imageErr_3]) 40 152 (ofPms e_slices_ContainsFunc_Lint_int_of_sensor_imageErr_3.ps x) e_slices_ContainsFunc_Lint_int_of_sensor_imageErr_3.rs = e_slices_ContainsFunc_Lint_int_of_sensor_imageErr_3.F x := by kernel_rfl
theorem o_slices_ContainsFunc_Lint_int_of_sensor_imageErr_3 : EntryOk Try.prog Hn.hints Lb e_slices_ContainsFunc_Lint_int_of_sensor_imageErr_3 := entry_ok (tab_cons o_slices_IndexFunc_Lint_int_of_sensor_imageErr_3 tab_nil) hJ 40 _ _ _ _ k_slices_ContainsFunc_Lint_int_of_sensor_imageErr_3
/-- ductility/sensor.unless -/
def sensor_unless (a0 : Bool) (a1 : Int) : Option Int :=
  bif a0 then
    some 0
  else
    some a1
def e_sensor_unless : Entry := ⟨106, [.ty .bool, .ty I], [(I, 0)], fun x => sensor_unless x.1 x.2⟩
def j_sensor_unless : TH := mkTH [] []
theorem k_sensor_unless (x : denP e_sensor_unless.ps) : fnT Try.prog Hn.hints j_sensor_unless (tabT []) 40 106 (ofPms e_sensor_unless.ps x) e_sensor_unless.rs = e_sensor_unless.F x := by kernel_rfl
theorem o_sensor_unless : EntryOk Try.prog Hn.hints Lb e_sensor_unless := entry_ok tab_nil hJ 40 _ _ _ _ k_sensor_unless
/-- ductility/sensor.first -/
def sensor_first (a0 : (List Int)) : Option Int :=
  (loopO (fun (s2 : Int) =>
      bif decide (s2 < (a0.length : Int)) then
        (idx a0 s2).bind fun x3 =>
        bif !(decide (x3 = 0)) then
          some (.inr (.inr x3))
        else
          some (.inl (w64 (s2 + 1)))
      else
        some (.inr (.inl ()))) 0).bind (Sum.elim (fun (p4 : Unit) =>
  some 0) some)
def e_sensor_first : Entry := ⟨105, [.ty (.sl I)], [(I, 0)], fun x => sensor_first x⟩
def j_sensor_first : TH := mkTH [([], 105, .block 0, { lv := [], ps := [], abn := true, D := ⟨32660⟩ }),
  ([], 105, .loop 0, { lv := [⟨none, 7, 0⟩], ps := [(I, 0)], D := ⟨32660⟩ })] []
theorem k_sensor_first (x : denP e_sensor_first.ps) : fnT Try.prog Hn.hints j_sensor_first (tabT []) 40 105 (ofPms e_sensor_first.ps x) e_sensor_first.rs = e_sensor_first.F x := by kernel_rfl
theorem o_sensor_first : EntryOk Try.prog Hn.hints Lb e_sensor_first := entry_ok tab_nil hJ 40 _ _ _ _ k_sensor_first
/-- ductility/sensor.imageErr -/
def sensor_imageErr (a0 : (List (List Int))) : Option Int :=
  (sensor_samplesOf a0).bind fun x1 =>
  ((loopO (fun (s3 : Int) =>
        bif decide (s3 < (a0.length : Int)) then
          (idx a0 s3).bind fun x4 =>
          bif !(decide ((x4.length : Int) = x1)) then
            some (.inr (.inr s3))
          else
            some (.inl (w64 (s3 + 1)))
        else
          some (.inr (.inl ()))) 0).bind (Sum.elim (fun (p5 : Unit) =>
    some (-1)) some)).bind fun (p6 : Int) =>
  (loopO (fun (s8 : (Bool × Bool × Int)) =>
      bif decide (s8.2.2 < (a0.length : Int)) then
        (idx a0 s8.2.2).bind fun x9 =>
        (bif s8.1 then
            some true
          else
            (slices_ContainsFunc_Lint_int_of_sensor_imageErr_2 x9).bind fun x10 =>
            some x10).bind fun (p11 : Bool) =>
        (bif s8.2.1 then
            (slices_ContainsFunc_Lint_int_of_sensor_imageErr_3 x9).bind fun x12 =>
            some (!x12)
          else
            some false).bind fun (p13 : Bool) =>
        some (.inl (p11, p13, w64 (s8.2.2 + 1)))
      else
        some (.inr (s8.1, s8.2.1))) (false, true, 0)).bind fun (p14 : (Bool × Bool)) =>
  (bif decide (x1 > 0) then
      (sensor_unless (!(decide (p6 ≥ 0))) (10 : Int)).bind fun x15 =>
      bif decide (x1 ≤ 10) then
        (sensor_unless (decide ((a0.length : Int) ≤ 10)) (8 : Int)).bind fun x16 =>
        (sensor_unless (!p14.1) (2 : Int)).bind fun x17 =>
        (sensor_unless (!p14.2) (11 : Int)).bind fun x18 =>
        (sensor_first ([x15, x16, x17, x18])).bind fun x19 =>
        some x19
      else
        (sensor_unless false (8 : Int)).bind fun x20 =>
        (sensor_unless (!p14.1) (2 : Int)).bind fun x21 =>
        (sensor_unless (!p14.2) (11 : Int)).bind fun x22 =>
        (sensor_first ([x15, x20, x21, x22])).bind fun x23 =>
        some x23
    else
      (sensor_unless false (10 : Int)).bind fun x24 =>
      bif decide (x1 ≤ 10) then
        (sensor_unless (decide ((a0.length : Int) ≤ 10)) (8 : Int)).bind fun x25 =>
        (sensor_unless (!p14.1) (2 : Int)).bind fun x26 =>
        (sensor_unless (!p14.2) (11 : Int)).bind fun x27 =>
        (sensor_first ([x24, x25, x26, x27])).bind fun x28 =>
        some x28
      else
        (sensor_unless false (8 : Int)).bind fun x29 =>
        (sensor_unless (!p14.1) (2 : Int)).bind fun x30 =>
        (sensor_unless (!p14.2) (11 : Int)).bind fun x31 =>
        (sensor_first ([x24, x29, x30, x31])).bind fun x32 =>
        some x32).bind fun (p33 : Int) =>
  some p33
def e_sensor_imageErr : Entry := ⟨109, [.ty (.sl (.sl I))], [(I, 0)], fun x => sensor_imageErr x⟩
def j_sensor_imageErr : TH := mkTH [([7, 13], 175, .inl 0, { lv := [⟨none, 4, 0⟩], ps := [(I, 0)], D := ⟨524272⟩, rs := [⟨0, 3⟩] }),
  ([7, 13], 175, .block 0, { lv := [], ps := [], abn := true, D := ⟨524080⟩, rs := [⟨0, 3⟩] }),
  ([7, 13], 175, .loop 0, { lv := [⟨none, 8, 0⟩], ps := [(I, 0)], D := ⟨524080⟩, rs := [⟨0, 3⟩] }),
  ([], 109, .block 0, { lv := [⟨none, 5, 0⟩, ⟨none, 6, 0⟩], ps := [(.bool, 0), (.bool, 0)], D := ⟨4294902112⟩ }),
  ([], 109, .loop 0, { lv := [⟨none, 5, 0⟩, ⟨none, 6, 0⟩, ⟨none, 16, 0⟩], ps := [(.bool, 0), (.bool, 0), (I, 0)], D := ⟨4294902112⟩ }),
  ([], 109, .region 7, { lv := [⟨none, 5, 0⟩], ps := [(.bool, 0)], D := ⟨32505888⟩ }),
  ([], 109, .region 8, { lv := [⟨none, 6, 0⟩], ps := [(.bool, 0)], D := ⟨2113929280⟩ }),
  ([], 109, .region 10, { lv := [⟨none, 2, 0⟩], ps := [(I, 0)], D := ⟨36028792723996676⟩ })] []
theorem k_sensor_imageErr (x : denP e_sensor_imageErr.ps) : fnT Try.prog Hn.hints j_sensor_imageErr (tabT [e_sensor_first, e_sensor_samplesOf, e_sensor_unless, e_slices_ContainsFunc_Lint_int_of_sensor_imageErr_2, e_slices_ContainsFunc_Lint_int_of_sensor_imageErr_3]) 40 109 (ofPms e_sensor_imageErr.ps x) e_sensor_imageErr.rs = e_sensor_imageErr.F x := by kernel_rfl
theorem o_sensor_imageErr : EntryOk Try.prog Hn.hints Lb e_sensor_imageErr := entry_ok (tab_cons o_sensor_first (tab_cons o_sensor_samplesOf (tab_cons o_sensor_unless (tab_cons o_slices_ContainsFunc_Lint_int_of_sensor_imageErr_2 (tab_cons o_slices_ContainsFunc_Lint_int_of_sensor_imageErr_3 tab_nil))))) hJ 40 _ _ _ _ k_sensor_imageErr
/-- ductility/sensor.weigh -/
def sensor_weigh (a0 : (List (List Int))) : Option (Int × Int × Int × Unit) :=
  (loopO (fun (s2 : (Int × Int × Int × Int)) =>
      bif decide (s2.1 < (a0.length : Int)) then
        (idx a0 s2.1).bind fun x3 =>
        (loopO (fun (s5 : (Int × Int × Int × Int)) =>
            bif decide (s5.1 < (x3.length : Int)) then
              (idx x3 s5.1).bind fun x6 =>
              some (.inl (w64 (s5.1 + 1), w64 (s5.2.1 + (w64 (s5.1 * x6))), w64 (s5.2.2.1 + (w64 (s2.1 * x6))), w64 (s5.2.2.2 + x6)))
            else
              some (.inr (s5.2.1, s5.2.2.1, s5.2.2.2))) (0, s2.2.1, s2.2.2.1, s2.2.2.2)).bind fun (p7 : (Int × Int × Int)) =>
        some (.inl (w64 (s2.1 + 1), p7.1, p7.2.1, p7.2.2))
      else
        some (.inr (s2.2.1, s2.2.2.1, s2.2.2.2))) (0, 0, 0, 0)).bind fun (p8 : (Int × Int × Int)) =>
  some (p8.1, p8.2.1, p8.2.2, ())
def e_sensor_weigh : Entry := ⟨110, [.ty (.sl (.sl I))], [((.pair I (.pair I (.pair I .unit))), 0)], fun x => sensor_weigh x⟩
def j_sensor_weigh : TH := mkTH [([], 110, .block 0, { lv := [⟨some 0, 3, 0⟩, ⟨some 0, 3, 1⟩, ⟨some 0, 3, 2⟩], ps := [(I, 0), (I, 0), (I, 0)], D := ⟨8796093021424⟩, wr := [⟨0, 3⟩] }),
  ([], 110, .loop 0, { lv := [⟨none, 10, 0⟩, ⟨some 0, 3, 0⟩, ⟨some 0, 3, 1⟩, ⟨some 0, 3, 2⟩], ps := [(I, 0), (I, 0), (I, 0), (I, 0)], D := ⟨8796093021424⟩, wr := [⟨0, 3⟩] }),
  ([], 110, .block 2, { lv := [⟨some 0, 3, 0⟩, ⟨some 0, 3, 1⟩, ⟨some 0, 3, 2⟩], ps := [(I, 0), (I, 0), (I, 0)], D := ⟨4398046380224⟩, wr := [⟨0, 3⟩] }),
  ([], 110, .loop 2, { lv := [⟨none, 17, 0⟩, ⟨some 0, 3, 0⟩, ⟨some 0, 3, 1⟩, ⟨some 0, 3, 2⟩], ps := [(I, 0), (I, 0), (I, 0), (I, 0)], D := ⟨4398046380224⟩, wr := [⟨0, 3⟩], rs := [⟨0, 3⟩] })] []
theorem k_sensor_weigh (x : denP e_sensor_weigh.ps) : fnT Try.prog Hn.hints j_sensor_weigh (tabT []) 40 110 (ofPms e_sensor_weigh.ps x) e_sensor_weigh.rs = e_sensor_weigh.F x := by kernel_rfl
theorem o_sensor_weigh : EntryOk Try.prog Hn.hints Lb e_sensor_weigh := entry_ok tab_nil hJ 40 _ _ _ _ k_sensor_weigh
/-- ductility/sensor.divisor -/
def sensor_divisor (a0 : (List Int)) : Option Int :=
  (loopO (fun (s2 : (Int × Int)) =>
      bif decide (s2.2 < (a0.length : Int)) then
        (idx a0 s2.2).bind fun x3 =>
        (loopO (fun (s5 : (Int × Int)) =>
            bif !(decide (s5.2 = 0)) then
              bif decide (s5.2 = 0) then
                none
              else
                some (.inl (s5.2, s5.1.tmod s5.2))
            else
              some (.inr s5.1)) (s2.1, x3)).bind fun (p6 : Int) =>
        some (.inl (p6, w64 (s2.2 + 1)))
      else
        some (.inr s2.1)) (0, 0)).bind fun (p7 : Int) =>
  some (max p7 (w64 (0 - p7)))
def e_sensor_divisor : Entry := ⟨122, [.ty (.sl I)], [(I, 0)], fun x => sensor_divisor x⟩
def j_sensor_divisor : TH := mkTH [([], 122, .block 0, { lv := [⟨none, 3, 0⟩], ps := [(I, 0)], D := ⟨524072⟩ }),
  ([], 122, .loop 0, { lv := [⟨none, 3, 0⟩, ⟨none, 8, 0⟩], ps := [(I, 0), (I, 0)], D := ⟨524072⟩ }),
  ([], 122, .block 2, { lv := [⟨none, 3, 0⟩], ps := [(I, 0)], D := ⟨258088⟩ }),
  ([], 122, .loop 2, { lv := [⟨none, 3, 0⟩, ⟨none, 5, 0⟩], ps := [(I, 0), (I, 0)], D := ⟨258088⟩ })] []
theorem k_sensor_divisor (x : denP e_sensor_divisor.ps) : fnT Try.prog Hn.hints j_sensor_divisor (tabT []) 40 122 (ofPms e_sensor_divisor.ps x) e_sensor_divisor.rs = e_sensor_divisor.F x := by kernel_rfl
theorem o_sensor_divisor : EntryOk Try.prog Hn.hints Lb e_sensor_divisor := entry_ok tab_nil hJ 40 _ _ _ _ k_sensor_divisor
/-- ductility/sensor.fraction -/
def sensor_fraction (a0 : Int) (a1 : Int) : Option (Int × Int × Unit) :=
  (sensor_divisor ([a0, a1])).bind fun x1 =>
  bif decide (x1 = 0) then
    none
  else
    bif decide (x1 = 0) then
      none
    else
      some (w64 (a0.tdiv x1), w64 (a1.tdiv x1), ())
def e_sensor_fraction : Entry := ⟨111, [.ty I, .ty I], [((.pair I (.pair I .unit)), 0)], fun x => sensor_fraction x.1 x.2⟩
def j_sensor_fraction : TH := mkTH [] []
theorem k_sensor_fraction (x : denP e_sensor_fraction.ps) : fnT Try.prog Hn.hints j_sensor_fraction (tabT [e_sensor_divisor]) 40 111 (ofPms e_sensor_fraction.ps x) e_sensor_fraction.rs = e_sensor_fraction.F x := by kernel_rfl
theorem o_sensor_fraction : EntryOk Try.prog Hn.hints Lb e_sensor_fraction := entry_ok (tab_cons o_sensor_divisor tab_nil) hJ 40 _ _ _ _ k_sensor_fraction
/-- ductility/sensor.CenterOf -/
def sensor_CenterOf (a0 : (List (List Int))) : Option ((Int × Int × Int × Int × Unit) × Int) :=
  (sensor_imageErr a0).bind fun x1 =>
  bif !(decide (x1 = 0)) then
    some ((0, 0, 0, 0, ()), x1)
  else
    (sensor_weigh a0).bind fun x2 =>
    (sensor_fraction x2.1 x2.2.2.1).bind fun x3 =>
    (sensor_fraction x2.2.1 x2.2.2.1).bind fun x4 =>
    some ((x3.1, x3.2.1, x4.1, x4.2.1, ()), 0)
def e_sensor_CenterOf : Entry := ⟨25, [.ty (.sl (.sl I))], [((.pair I (.pair I (.pair I (.pair I .unit)))), 0), (I, 0)], fun x => sensor_CenterOf x⟩
def j_sensor_CenterOf : TH := mkTH [] []
theorem k_sensor_CenterOf (x : denP e_sensor_CenterOf.ps) : fnT Try.prog Hn.hints j_sensor_CenterOf (tabT [e_sensor_fraction, e_sensor_imageErr, e_sensor_weigh]) 40 25 (ofPms e_sensor_CenterOf.ps x) e_sensor_CenterOf.rs = e_sensor_CenterOf.F x := by kernel_rfl
theorem o_sensor_CenterOf : EntryOk Try.prog Hn.hints Lb e_sensor_CenterOf := entry_ok (tab_cons o_sensor_fraction (tab_cons o_sensor_imageErr (tab_cons o_sensor_weigh tab_nil))) hJ 40 _ _ _ _ k_sensor_CenterOf
/-- ductility/sensor.MovedBy -/
def sensor_MovedBy (a0 : (List (List Int))) (a1 : (List (List Int))) : Option ((Int × Int × Int × Int × Unit) × Int) :=
  (bif decide ((a0.length : Int) = (a1.length : Int)) then
      (sensor_samplesOf a0).bind fun x1 =>
      (sensor_samplesOf a1).bind fun x2 =>
      some (decide (x1 = x2))
    else
      some false).bind fun (p3 : Bool) =>
  (sensor_imageErr a0).bind fun x4 =>
  (sensor_imageErr a1).bind fun x5 =>
  (sensor_unless p3 (13 : Int)).bind fun x6 =>
  (sensor_first ([x4, x5, x6])).bind fun x7 =>
  bif !(decide (x7 = 0)) then
    some ((0, 0, 0, 0, ()), x7)
  else
    (sensor_weigh a0).bind fun x8 =>
    (sensor_weigh a1).bind fun x9 =>
    (sensor_fraction (w64 ((w64 (x9.1 * x8.2.2.1)) - (w64 (x8.1 * x9.2.2.1)))) (w64 (x8.2.2.1 * x9.2.2.1))).bind fun x10 =>
    (sensor_fraction (w64 ((w64 (x9.2.1 * x8.2.2.1)) - (w64 (x8.2.1 * x9.2.2.1)))) (w64 (x8.2.2.1 * x9.2.2.1))).bind fun x11 =>
    some ((x10.1, x10.2.1, x11.1, x11.2.1, ()), 0)
def e_sensor_MovedBy : Entry := ⟨26, [.ty (.sl (.sl I)), .ty (.sl (.sl I))], [((.pair I (.pair I (.pair I (.pair I .unit)))), 0), (I, 0)], fun x => sensor_MovedBy x.1 x.2⟩
def j_sensor_MovedBy : TH := mkTH [([], 26, .region 1, { lv := [⟨none, 6, 0⟩], ps := [(.bool, 0)], D := ⟨8386624⟩ })] []
theorem k_sensor_MovedBy (x : denP e_sensor_MovedBy.ps) : fnT Try.prog Hn.hints j_sensor_MovedBy (tabT [e_sensor_first, e_sensor_fraction, e_sensor_imageErr, e_sensor_samplesOf, e_sensor_unless, e_sensor_weigh]) 40 26 (ofPms e_sensor_MovedBy.ps x) e_sensor_MovedBy.rs = e_sensor_MovedBy.F x := by kernel_rfl
theorem o_sensor_MovedBy : EntryOk Try.prog Hn.hints Lb e_sensor_MovedBy := entry_ok (tab_cons o_sensor_first (tab_cons o_sensor_fraction (tab_cons o_sensor_imageErr (tab_cons o_sensor_samplesOf (tab_cons o_sensor_unless (tab_cons o_sensor_weigh tab_nil)))))) hJ 40 _ _ _ _ k_sensor_MovedBy
/-- ductility/ductilitybase.Whole -/
def base_Whole (a0 : Int) : Option (Int × Int × Unit) :=
  some (a0, 1, ())
def e_base_Whole : Entry := ⟨33, [.ty I], [((.pair I (.pair I .unit)), 0)], fun x => base_Whole x⟩
def j_base_Whole : TH := mkTH [] []
theorem k_base_Whole (x : denP e_base_Whole.ps) : fnT Try.prog Hn.hints j_base_Whole (tabT []) 40 33 (ofPms e_base_Whole.ps x) e_base_Whole.rs = e_base_Whole.F x := by kernel_rfl
theorem o_base_Whole : EntryOk Try.prog Hn.hints Lb e_base_Whole := entry_ok tab_nil hJ 40 _ _ _ _ k_base_Whole
/-- ductility/ductilitybase.Cmp -/
def base_Cmp (a0 : (Int × Int × Unit)) (a1 : (Int × Int × Unit)) : Option Int :=
  bif decide (w64 (a0.1 * a1.2.1) < w64 (a1.1 * a0.2.1)) then
    some (-1)
  else
    bif decide (w64 (a0.1 * a1.2.1) > w64 (a1.1 * a0.2.1)) then
      some 1
    else
      some 0
def e_base_Cmp : Entry := ⟨32, [.ty (.pair I (.pair I .unit)), .ty (.pair I (.pair I .unit))], [(I, 0)], fun x => base_Cmp x.1 x.2⟩
def j_base_Cmp : TH := mkTH [] []
theorem k_base_Cmp (x : denP e_base_Cmp.ps) : fnT Try.prog Hn.hints j_base_Cmp (tabT []) 40 32 (ofPms e_base_Cmp.ps x) e_base_Cmp.rs = e_base_Cmp.F x := by kernel_rfl
theorem o_base_Cmp : EntryOk Try.prog Hn.hints Lb e_base_Cmp := entry_ok tab_nil hJ 40 _ _ _ _ k_base_Cmp
/-- ductility/ductilityref07.MovedErr -/
def ref07_MovedErr (a0 : (List (List Int))) (a1 : (List (List Int))) : Option Int :=
  (ref07_ImageErr a0).bind fun x1 =>
  bif !(decide (x1 = 0)) then
    some x1
  else
    (ref07_ImageErr a1).bind fun x2 =>
    bif !(decide (x2 = 0)) then
      some x2
    else
      (bif !(decide ((a0.length : Int) = (a1.length : Int))) then
          some true
        else
          (idx a0 0).bind fun x3 =>
          (idx a1 0).bind fun x4 =>
          some (!(decide ((x3.length : Int) = (x4.length : Int))))).bind fun (p5 : Bool) =>
      bif p5 then
        some 13
      else
        some 0
def e_ref07_MovedErr : Entry := ⟨30, [.ty (.sl (.sl I)), .ty (.sl (.sl I))], [(I, 0)], fun x => ref07_MovedErr x.1 x.2⟩
def j_ref07_MovedErr : TH := mkTH [([], 30, .region 7, { lv := [⟨none, 32, 0⟩], ps := [(.bool, 0)], D := ⟨8589803520⟩ })] []
theorem k_ref07_MovedErr (x : denP e_ref07_MovedErr.ps) : fnT Try.prog Hn.hints j_ref07_MovedErr (tabT [e_ref07_ImageErr]) 40 30 (ofPms e_ref07_MovedErr.ps x) e_ref07_MovedErr.rs = e_ref07_MovedErr.F x := by kernel_rfl
theorem o_ref07_MovedErr : EntryOk Try.prog Hn.hints Lb e_ref07_MovedErr := entry_ok (tab_cons o_ref07_ImageErr tab_nil) hJ 40 _ _ _ _ k_ref07_MovedErr
/-- ductility/ductilitylaw07.SensorCenters -/
def law07_SensorCenters (a0 : (List (List Int))) (a1 : (List (List Int))) (a2 : Bool) : Option Bool :=
  (law07_awake).bind fun x1 =>
  bif !x1 then
    some false
  else
    ((law07_images a0).bind fun x2 =>
      bif !x2 then
        some true
      else
        (law07_images a1).bind fun x3 =>
        bif !x3 then
          some true
        else
          (ref07_ImageErr a0).bind fun x4 =>
          bif !(decide (x4 = 0)) then
            some true
          else
            bif decide ((a0.length : Int) > 9) then
              some true
            else
              (idx a0 0).bind fun x5 =>
              some (decide ((x5.length : Int) > 9))).bind fun (p6 : Bool) =>
    bif p6 then
      some true
    else
      (loopO (fun (s9 : ((List (List Int)) × (List (List Int)) × Int)) =>
          bif decide (s9.2.2 ≤ (a0.length : Int)) then
            (idx a0 0).bind fun x10 =>
            (mkS (0 : Int) (w64 ((x10.length : Int) + 1))).bind fun x11 =>
            bif decide (w64 ((x10.length : Int) + 1) = w64 ((x10.length : Int) + 1)) then
              (idx a0 0).bind fun x12 =>
              (mkS (0 : Int) (w64 ((x12.length : Int) + 1))).bind fun x13 =>
              bif decide (w64 ((x12.length : Int) + 1) = w64 ((x12.length : Int) + 1)) then
                (loopO (fun (s15 : ((List Int) × (List Int) × Int)) =>
                    (idx a0 0).bind fun x16 =>
                    bif decide (s15.2.2 < (x16.length : Int)) then
                      (bif decide (s9.2.2 < (a0.length : Int)) then
                          (idx a0 s9.2.2).bind fun x17 =>
                          (idx x17 s15.2.2).bind fun x18 =>
                          (idx s15.1 s15.2.2).bind fun x19 =>
                          (idx s15.1 s15.2.2).bind fun x20 =>
                          let l21 : (List Int) := List.set s15.1 s15.2.2.toNat x18
                          some l21
                        else
                          some s15.1).bind fun (p22 : (List Int)) =>
                      (bif a2 then
                          some (decide (s9.2.2 > 0))
                        else
                          some false).bind fun (p23 : Bool) =>
                      (bif p23 then
                          (idx a0 (w64 (s9.2.2 - 1))).bind fun x24 =>
                          (idx x24 s15.2.2).bind fun x25 =>
                          (idx s15.2.1 s15.2.2).bind fun x26 =>
                          (idx s15.2.1 s15.2.2).bind fun x27 =>
                          let l28 : (List Int) := List.set s15.2.1 s15.2.2.toNat x25
                          some l28
                        else
                          some s15.2.1).bind fun (p29 : (List Int)) =>
                      (bif !a2 then
                          some (decide (s9.2.2 < (a0.length : Int)))
                        else
                          some false).bind fun (p30 : Bool) =>
                      (bif p30 then
                          (idx a0 s9.2.2).bind fun x31 =>
                          (idx x31 s15.2.2).bind fun x32 =>
                          (idx p29 (w64 (s15.2.2 + 1))).bind fun x33 =>
                          (idx p29 (w64 (s15.2.2 + 1))).bind fun x34 =>
                          let l35 : (List Int) := List.set p29 (w64 (s15.2.2 + 1)).toNat x32
                          some l35
                        else
                          some p29).bind fun (p36 : (List Int)) =>
                      some (.inl (p22, p36, w64 (s15.2.2 + 1)))
                    else
                      some (.inr (s15.1, s15.2.1))) (x11, x13, 0)).bind fun (p37 : ((List Int) × (List Int))) =>
                (app s9.1 ([p37.1])).bind fun x38 =>
                (app s9.2.1 ([p37.2])).bind fun x39 =>
                some (.inl (x38, x39, w64 (s9.2.2 + 1)))
              else
                none
            else
              none
          else
            some (.inr (s9.1, s9.2.1))) ([], [], 0)).bind fun (p40 : ((List (List Int)) × (List (List Int)))) =>
      (base_CopyLists p40.1).bind fun x41 =>
      (sensor_CenterOf x41).bind fun x42 =>
      (base_CopyLists p40.1).bind fun x43 =>
      (base_CopyLists p40.2).bind fun x44 =>
      (sensor_MovedBy x43 x44).bind fun x45 =>
      (base_CopyLists p40.1).bind fun x46 =>
      (base_CopyLists p40.1).bind fun x47 =>
      (sensor_MovedBy x46 x47).bind fun x48 =>
      (bif !(decide (x42.2 = 0)) then
          some true
        else
          bif !(decide (x45.2 = 0)) then
            some true
          else
            bif !(decide (x48.2 = 0)) then
              some true
            else
              bif decide (x42.1.2.1 ≤ 0) then
                some true
              else
                bif decide (x42.1.2.2.2.1 ≤ 0) then
                  some true
                else
                  (base_Whole (0 : Int)).bind fun x49 =>
                  (base_Cmp (x42.1.1, x42.1.2.1, ()) x49).bind fun x50 =>
                  bif decide (x50 < 0) then
                    some true
                  else
                    (base_Whole (0 : Int)).bind fun x51 =>
                    (base_Cmp (x42.1.2.2.1, x42.1.2.2.2.1, ()) x51).bind fun x52 =>
                    bif decide (x52 < 0) then
                      some true
                    else
                      (idx a0 0).bind fun x53 =>
                      (base_Whole (w64 ((x53.length : Int) - 1))).bind fun x54 =>
                      (base_Cmp (x42.1.1, x42.1.2.1, ()) x54).bind fun x55 =>
                      bif decide (x55 > 0) then
                        some true
                      else
                        (base_Whole (w64 ((a0.length : Int) - 1))).bind fun x56 =>
                        (base_Cmp (x42.1.2.2.1, x42.1.2.2.2.1, ()) x56).bind fun x57 =>
                        some (decide (x57 > 0))).bind fun (p58 : Bool) =>
      bif p58 then
        some false
      else
        (base_Whole (1 : Int)).bind fun x59 =>
        (base_Whole (0 : Int)).bind fun x60 =>
        (let v61 : Bool := !(bif (bif decide (x48.1.1 = x60.1) then (bif decide (x48.1.2.1 = x60.2.1) then true else false) else false) then (bif (bif decide (x48.1.2.2.1 = x60.1) then (bif decide (x48.1.2.2.2.1 = x60.2.1) then true else false) else false) then true else false) else false)
          bif v61 then
            some true
          else
            bif a2 then
              let v62 : Bool := !(bif (bif decide (x45.1.1 = x60.1) then (bif decide (x45.1.2.1 = x60.2.1) then true else false) else false) then (bif (bif decide (x45.1.2.2.1 = x59.1) then (bif decide (x45.1.2.2.2.1 = x59.2.1) then true else false) else false) then true else false) else false)
              bif v62 then
                some true
              else
                bif !a2 then
                  let v63 : Bool := !(bif (bif decide (x45.1.1 = x59.1) then (bif decide (x45.1.2.1 = x59.2.1) then true else false) else false) then (bif (bif decide (x45.1.2.2.1 = x60.1) then (bif decide (x45.1.2.2.2.1 = x60.2.1) then true else false) else false) then true else false) else false)
                  some v63
                else
                  some false
            else
              bif !a2 then
                let v64 : Bool := !(bif (bif decide (x45.1.1 = x59.1) then (bif decide (x45.1.2.1 = x59.2.1) then true else false) else false) then (bif (bif decide (x45.1.2.2.1 = x60.1) then (bif decide (x45.1.2.2.2.1 = x60.2.1) then true else false) else false) then true else false) else false)
                some v64
              else
                some false).bind fun (p65 : Bool) =>
        bif p65 then
          some false
        else
          (ref07_MovedErr a0 a1).bind fun x66 =>
          bif !(decide (x66 = 0)) then
            some true
          else
            (base_CopyLists a0).bind fun x67 =>
            (base_CopyLists a1).bind fun x68 =>
            (sensor_MovedBy x67 x68).bind fun x69 =>
            (base_CopyLists a1).bind fun x70 =>
            (base_CopyLists a0).bind fun x71 =>
            (sensor_MovedBy x70 x71).bind fun x72 =>
            (bif decide (x69.2 = 0) then
                bif decide (x72.2 = 0) then
                  bif decide (x69.1.1 = w64 (0 - x72.1.1)) then
                    bif decide (x69.1.2.1 = x72.1.2.1) then
                      bif decide (x69.1.2.2.1 = w64 (0 - x72.1.2.2.1)) then
                        some (decide (x69.1.2.2.2.1 = x72.1.2.2.2.1))
                      else
                        some false
                    else
                      some false
                  else
                    some false
                else
                  some false
              else
                some false).bind fun (p73 : Bool) =>
            some p73
def e_law07_SensorCenters : Entry := ⟨5, [.ty (.sl (.sl I)), .ty (.sl (.sl I)), .ty .bool], [(.bool, 0)], fun x => law07_SensorCenters x.1 x.2.1 x.2.2⟩
def j_law07_SensorCenters : TH := mkTH [([], 5, .region 3, { lv := [⟨none, 51, 0⟩], ps := [(.bool, 0)], D := ⟨4503599493152768⟩ }),
  ([], 5, .block 0, { lv := [⟨none, 7, 0⟩, ⟨none, 8, 0⟩], ps := [((.sl (.sl I)), 2), ((.sl (.sl I)), 2)], D := ⟨43556142965880123323311945247666703703936⟩ }),
  ([], 5, .loop 0, { lv := [⟨none, 7, 0⟩, ⟨none, 8, 0⟩, ⟨none, 9, 0⟩], ps := [((.sl (.sl I)), 2), ((.sl (.sl I)), 2), (I, 0)], D := ⟨43556142965880123323311945247666703703936⟩ }),
  ([], 5, .block 2, { lv := [⟨none, 10, 0⟩, ⟨none, 11, 0⟩], ps := [((.sl I), 1), ((.sl I), 1)], D := ⟨170141183460469231188084814293755763712⟩ }),
  ([], 5, .loop 2, { lv := [⟨none, 10, 0⟩, ⟨none, 11, 0⟩, ⟨none, 12, 0⟩], ps := [((.sl I), 1), ((.sl I), 1), (I, 0)], D := ⟨170141183460469231188084814293755763712⟩ }),
  ([], 5, .cond 81, { lv := [⟨none, 10, 0⟩], ps := [((.sl I), 1)], D := ⟨4946929176229545452542886912⟩ }),
  ([], 5, .region 15, { lv := [⟨none, 96, 0⟩], ps := [(.bool, 0)], D := ⟨153504564871387154087491403776⟩ }),
  ([], 5, .cond 96, { lv := [⟨none, 11, 0⟩], ps := [((.sl I), 1)], D := ⟨324360097333398198107968932677632⟩ }),
  ([], 5, .region 17, { lv := [⟨none, 115, 0⟩], ps := [(.bool, 0)], D := ⟨82752231182898815329704785246945280⟩ }),
  ([], 5, .cond 115, { lv := [⟨none, 11, 0⟩], ps := [((.sl I), 1)], D := ⟨170058106710732674489630815774616586240⟩ }),
  ([], 5, .region 23, { lv := [⟨none, 214, 0⟩], ps := [(.bool, 0)], D := ⟨52656145834278593166271309175472351383986943610739178170163920896⟩, rs := [⟨0, 13⟩] }),
  ([], 5, .region 26, { lv := [⟨none, 242, 0⟩], ps := [(.bool, 0)], D := ⟨14134776307602491299552006610107292759279006537214760863874627101719003136⟩ }),
  ([], 5, .region 32, { lv := [⟨none, 6, 0⟩], ps := [(.bool, 0)], D := ⟨260740604970799397654938671643386187528506842337034621523388775525163755798954085510880952384⟩, rs := [⟨0, 21⟩, ⟨0, 23⟩] })] []
theorem k_law07_SensorCenters (x : denP e_law07_SensorCenters.ps) : fnT Try.prog Hn.hints j_law07_SensorCenters (tabT [e_base_Cmp, e_base_CopyLists, e_base_Whole, e_law07_awake, e_law07_images, e_ref07_ImageErr, e_ref07_MovedErr, e_sensor_CenterOf, e_sensor_MovedBy]) 40 5 (ofPms e_law07_SensorCenters.ps x) e_law07_SensorCenters.rs = e_law07_SensorCenters.F x := by kernel_rfl
theorem o_law07_SensorCenters : EntryOk Try.prog Hn.hints Lb e_law07_SensorCenters := entry_ok (tab_cons o_base_Cmp (tab_cons o_base_CopyLists (tab_cons o_base_Whole (tab_cons o_law07_awake (tab_cons o_law07_images (tab_cons o_ref07_ImageErr (tab_cons o_ref07_MovedErr (tab_cons o_sensor_CenterOf (tab_cons o_sensor_MovedBy tab_nil))))))))) hJ 40 _ _ _ _ k_law07_SensorCenters
end
end Go.Proofs.Ytpiggpgocnlomaa
end
section
/- TYPED FUNCTIONS (written by gen.py), each with the equation that the kernel checks: it is what the typed interpreter computes. -/
set_option maxRecDepth 100000
set_option linter.unusedVariables false
namespace Go.Proofs.Ytpiggpgocnlomaa
open Go Go.Ab Go.Tx
noncomputable section
/-- ductility/ductilitybase.Size -/
def base_Size (a0 : Int) : Option Int :=
  some (max a0 (w64 (0 - a0)))
def e_base_Size : Entry := ⟨59, [.ty I], [(I, 0)], fun x => base_Size x⟩
def j_base_Size : TH := mkTH [] []
theorem k_base_Size (x : denP e_base_Size.ps) : fnT Try.prog Hn.hints j_base_Size (tabT []) 40 59 (ofPms e_base_Size.ps x) e_base_Size.rs = e_base_Size.F x := by kernel_rfl
theorem o_base_Size : EntryOk Try.prog Hn.hints Lb e_base_Size := entry_ok tab_nil hJ 40 _ _ _ _ k_base_Size
/-- ductility/ductilitybase.trimmed -/
def base_trimmed (a0 : (List Int)) : Option (List Int) :=
  (loopO (fun (s2 : Int) =>
      (bif decide (s2 > 0) then
          (idx a0 (w64 (s2 - 1))).bind fun x3 =>
          some (decide (x3 = 0))
        else
          some false).bind fun (p4 : Bool) =>
      bif p4 then
        some (.inl (w64 (s2 - 1)))
      else
        some (.inr s2)) (a0.length : Int)).bind fun (p5 : Int) =>
  (slc a0 0 p5).bind fun x6 =>
  some x6
def e_base_trimmed : Entry := ⟨184, [.ty (.sl I)], [((.sl I), 1000)], fun x => base_trimmed x⟩
def j_base_trimmed : TH := mkTH [([], 184, .block 0, { lv := [⟨none, 3, 0⟩], ps := [(I, 0)], D := ⟨262088⟩ }),
  ([], 184, .loop 0, { lv := [⟨none, 3, 0⟩], ps := [(I, 0)], D := ⟨262088⟩ }),
  ([], 184, .region 2, { lv := [⟨none, 15, 0⟩], ps := [(.bool, 0)], D := ⟨65472⟩ })] []
theorem k_base_trimmed (x : denP e_base_trimmed.ps) : fnT Try.prog Hn.hints j_base_trimmed (tabT []) 40 184 (ofPms e_base_trimmed.ps x) e_base_trimmed.rs = e_base_trimmed.F x := by kernel_rfl
theorem o_base_trimmed : EntryOk Try.prog Hn.hints Lb e_base_trimmed := entry_ok tab_nil hJ 40 _ _ _ _ k_base_trimmed
/-- ductility/ductilitybase.wideOf -/
def base_wideOf (a0 : Int) (a1 : (List Int)) : Option (Int × (List Int) × Unit) :=
  (base_trimmed a1).bind fun x1 =>
  (bif decide ((x1.length : Int) = 0) then
      some 0
    else
      some a0).bind fun (p2 : Int) =>
  some (p2, x1, ())
def e_base_wideOf : Entry := ⟨165, [.ty I, .ty (.sl I)], [((.pair I (.pair (.sl I) .unit)), 1000)], fun x => base_wideOf x.1 x.2⟩
def j_base_wideOf : TH := mkTH [([], 165, .cond 9, { lv := [⟨none, 0, 0⟩], ps := [(I, 0)], D := ⟨1⟩ })] []
theorem k_base_wideOf (x : denP e_base_wideOf.ps) : fnT Try.prog Hn.hints j_base_wideOf (tabT [e_base_trimmed]) 40 165 (ofPms e_base_wideOf.ps x) e_base_wideOf.rs = e_base_wideOf.F x := by kernel_rfl
theorem o_base_wideOf : EntryOk Try.prog Hn.hints Lb e_base_wideOf := entry_ok (tab_cons o_base_trimmed tab_nil) hJ 40 _ _ _ _ k_base_wideOf
/-- ductility/ductilitybase.WideOf -/
def base_WideOf (a0 : Int) : Option (Int × (List Int) × Unit) :=
  (bif decide (a0 < 0) then
      some (-1)
    else
      some 1).bind fun (p1 : Int) =>
  (loopO (fun (s4 : (Int × (List Int))) =>
      bif !(decide (s4.1 = 0)) then
        (base_Size (s4.1.tmod 1000000000)).bind fun x5 =>
        (app s4.2 ([x5])).bind fun x6 =>
        some (.inl (w64 (s4.1.tdiv 1000000000), x6))
      else
        some (.inr s4.2)) (a0, [])).bind fun (p7 : (List Int)) =>
  (base_wideOf p1 p7).bind fun x8 =>
  some x8
def e_base_WideOf : Entry := ⟨158, [.ty I], [((.pair I (.pair (.sl I) .unit)), 1000)], fun x => base_WideOf x⟩
def j_base_WideOf : TH := mkTH [([], 158, .cond 6, { lv := [⟨none, 3, 0⟩], ps := [(I, 0)], D := ⟨8⟩ }),
  ([], 158, .block 0, { lv := [⟨none, 4, 0⟩], ps := [((.sl I), 1)], D := ⟨130961⟩ }),
  ([], 158, .loop 0, { lv := [⟨none, 0, 0⟩, ⟨none, 4, 0⟩], ps := [(I, 0), ((.sl I), 1)], D := ⟨130961⟩ })] []
theorem k_base_WideOf (x : denP e_base_WideOf.ps) : fnT Try.prog Hn.hints j_base_WideOf (tabT [e_base_Size, e_base_wideOf]) 40 158 (ofPms e_base_WideOf.ps x) e_base_WideOf.rs = e_base_WideOf.F x := by kernel_rfl
theorem o_base_WideOf : EntryOk Try.prog Hn.hints Lb e_base_WideOf := entry_ok (tab_cons o_base_Size (tab_cons o_base_wideOf tab_nil)) hJ 40 _ _ _ _ k_base_WideOf
/-- ductility/ductilitybase.WideSign -/
def base_WideSign (a0 : (Int × (List Int) × Unit)) : Option Int :=
  some a0.1
def e_base_WideSign : Entry := ⟨127, [.ty (.pair I (.pair (.sl I) .unit))], [(I, 0)], fun x => base_WideSign x⟩
def j_base_WideSign : TH := mkTH [] []
theorem k_base_WideSign (x : denP e_base_WideSign.ps) : fnT Try.prog Hn.hints j_base_WideSign (tabT []) 40 127 (ofPms e_base_WideSign.ps x) e_base_WideSign.rs = e_base_WideSign.F x := by kernel_rfl
theorem o_base_WideSign : EntryOk Try.prog Hn.hints Lb e_base_WideSign := entry_ok tab_nil hJ 40 _ _ _ _ k_base_WideSign
/-- ductility/ductilitybase.WideNeg -/
def base_WideNeg (a0 : (Int × (List Int) × Unit)) : Option (Int × (List Int) × Unit) :=
  some (w64 (0 - a0.1), a0.2.1, ())
def e_base_WideNeg : Entry := ⟨177, [.ty (.pair I (.pair (.sl I) .unit))], [((.pair I (.pair (.sl I) .unit)), 1000)], fun x => base_WideNeg x⟩
def j_base_WideNeg : TH := mkTH [] []
theorem k_base_WideNeg (x : denP e_base_WideNeg.ps) : fnT Try.prog Hn.hints j_base_WideNeg (tabT []) 40 177 (ofPms e_base_WideNeg.ps x) e_base_WideNeg.rs = e_base_WideNeg.F x := by kernel_rfl
theorem o_base_WideNeg : EntryOk Try.prog Hn.hints Lb e_base_WideNeg := entry_ok tab_nil hJ 40 _ _ _ _ k_base_WideNeg
/-- ductility/ductilitybase.wideSize -/
def base_wideSize (a0 : (Int × (List Int) × Unit)) : Option (Int × (List Int) × Unit) :=
  bif decide (a0.1 < 0) then
    (base_WideNeg a0).bind fun x1 =>
    some x1
  else
    some a0
def e_base_wideSize : Entry := ⟨187, [.ty (.pair I (.pair (.sl I) .unit))], [((.pair I (.pair (.sl I) .unit)), 1000)], fun x => base_wideSize x⟩
def j_base_wideSize : TH := mkTH [] []
theorem k_base_wideSize (x : denP e_base_wideSize.ps) : fnT Try.prog Hn.hints j_base_wideSize (tabT [e_base_WideNeg]) 40 187 (ofPms e_base_wideSize.ps x) e_base_wideSize.rs = e_base_wideSize.F x := by kernel_rfl
theorem o_base_wideSize : EntryOk Try.prog Hn.hints Lb e_base_wideSize := entry_ok (tab_cons o_base_WideNeg tab_nil) hJ 40 _ _ _ _ k_base_wideSize
/-- ductility/ductilitybase.WideMul -/
def base_WideMul (a0 : (Int × (List Int) × Unit)) (a1 : (Int × (List Int) × Unit)) : Option (Int × (List Int) × Unit) :=
  (mkS (0 : Int) (w64 ((w64 ((a0.2.1.length : Int) + (a1.2.1.length : Int))) + 1))).bind fun x1 =>
  bif decide (w64 ((w64 ((a0.2.1.length : Int) + (a1.2.1.length : Int))) + 1) = w64 ((w64 ((a0.2.1.length : Int) + (a1.2.1.length : Int))) + 1)) then
    (loopO (fun (s3 : ((List Int) × Int)) =>
        bif decide (s3.2 < (a0.2.1.length : Int)) then
          (loopO (fun (s5 : ((List Int) × Int × Int)) =>
              bif decide (s5.2.2 < (a1.2.1.length : Int)) then
                (idx s5.1 (w64 (s3.2 + s5.2.2))).bind fun x6 =>
                (idx a0.2.1 s3.2).bind fun x7 =>
                (idx a1.2.1 s5.2.2).bind fun x8 =>
                (idx s5.1 (w64 (s3.2 + s5.2.2))).bind fun x9 =>
                (idx s5.1 (w64 (s3.2 + s5.2.2))).bind fun x10 =>
                let l11 : (List Int) := List.set s5.1 (w64 (s3.2 + s5.2.2)).toNat ((w64 ((w64 (x6 + (w64 (x7 * x8)))) + s5.2.1)).tmod 1000000000)
                some (.inl (l11, w64 ((w64 ((w64 (x6 + (w64 (x7 * x8)))) + s5.2.1)).tdiv 1000000000), w64 (s5.2.2 + 1)))
              else
                some (.inr (s5.1, s5.2.1))) (s3.1, 0, 0)).bind fun (p12 : ((List Int) × Int)) =>
          (idx p12.1 (w64 (s3.2 + (a1.2.1.length : Int)))).bind fun x13 =>
          (idx p12.1 (w64 (s3.2 + (a1.2.1.length : Int)))).bind fun x14 =>
          (idx p12.1 (w64 (s3.2 + (a1.2.1.length : Int)))).bind fun x15 =>
          let l16 : (List Int) := List.set p12.1 (w64 (s3.2 + (a1.2.1.length : Int))).toNat (w64 (x13 + p12.2))
          some (.inl (l16, w64 (s3.2 + 1)))
        else
          some (.inr s3.1)) (x1, 0)).bind fun (p17 : (List Int)) =>
    (base_wideOf (w64 (a0.1 * a1.1)) p17).bind fun x18 =>
    some x18
  else
    none
def e_base_WideMul : Entry := ⟨130, [.ty (.pair I (.pair (.sl I) .unit)), .ty (.pair I (.pair (.sl I) .unit))], [((.pair I (.pair (.sl I) .unit)), 1000)], fun x => base_WideMul x.1 x.2⟩
def j_base_WideMul : TH := mkTH [([], 130, .block 0, { lv := [⟨none, 5, 0⟩], ps := [((.sl I), 1)], D := ⟨604462909807314587091936⟩, rs := [⟨0, 2⟩, ⟨0, 3⟩] }),
  ([], 130, .loop 0, { lv := [⟨none, 5, 0⟩, ⟨none, 6, 0⟩], ps := [((.sl I), 1), (I, 0)], D := ⟨604462909807314587091936⟩, rs := [⟨0, 2⟩, ⟨0, 3⟩] }),
  ([], 130, .block 2, { lv := [⟨none, 5, 0⟩, ⟨none, 7, 0⟩], ps := [((.sl I), 1), (I, 0)], D := ⟨4611686018360279968⟩, rs := [⟨0, 3⟩] }),
  ([], 130, .loop 2, { lv := [⟨none, 5, 0⟩, ⟨none, 7, 0⟩, ⟨none, 8, 0⟩], ps := [((.sl I), 1), (I, 0), (I, 0)], D := ⟨4611686018360279968⟩, rs := [⟨0, 2⟩, ⟨0, 3⟩] })] []
theorem k_base_WideMul (x : denP e_base_WideMul.ps) : fnT Try.prog Hn.hints j_base_WideMul (tabT [e_base_wideOf]) 40 130 (ofPms e_base_WideMul.ps x) e_base_WideMul.rs = e_base_WideMul.F x := by kernel_rfl
theorem o_base_WideMul : EntryOk Try.prog Hn.hints Lb e_base_WideMul := entry_ok (tab_cons o_base_wideOf tab_nil) hJ 40 _ _ _ _ k_base_WideMul
/-- ductility/ductilitybase.cmpDigits -/
def base_cmpDigits (a0 : (List Int)) (a1 : (List Int)) : Option Int :=
  bif !(decide ((a0.length : Int) = (a1.length : Int))) then
    bif decide ((a0.length : Int) < (a1.length : Int)) then
      some (-1)
    else
      some 1
  else
    (loopO (fun (s2 : Int) =>
        bif decide (s2 ≥ 0) then
          (idx a0 s2).bind fun x3 =>
          (idx a1 s2).bind fun x4 =>
          bif decide (x3 < x4) then
            some (.inr (.inr (-1)))
          else
            (idx a0 s2).bind fun x5 =>
            (idx a1 s2).bind fun x6 =>
            bif decide (x5 > x6) then
              some (.inr (.inr 1))
            else
              some (.inl (w64 (s2 - 1)))
        else
          some (.inr (.inl ()))) (w64 ((a0.length : Int) - 1))).bind (Sum.elim (fun (p7 : Unit) =>
    some 0) some)
def e_base_cmpDigits : Entry := ⟨182, [.ty (.sl I), .ty (.sl I)], [(I, 0)], fun x => base_cmpDigits x.1 x.2⟩
def j_base_cmpDigits : TH := mkTH [([], 182, .block 0, { lv := [], ps := [], abn := true, D := ⟨2199022731312⟩ }),
  ([], 182, .loop 0, { lv := [⟨none, 5, 0⟩], ps := [(I, 0)], D := ⟨2199022731312⟩ })] []
theorem k_base_cmpDigits (x : denP e_base_cmpDigits.ps) : fnT Try.prog Hn.hints j_base_cmpDigits (tabT []) 40 182 (ofPms e_base_cmpDigits.ps x) e_base_cmpDigits.rs = e_base_cmpDigits.F x := by kernel_rfl
theorem o_base_cmpDigits : EntryOk Try.prog Hn.hints Lb e_base_cmpDigits := entry_ok tab_nil hJ 40 _ _ _ _ k_base_cmpDigits
/-- ductility/ductilitybase.digit -/
def base_digit (a0 : (List Int)) (a1 : Int) : Option Int :=
  bif decide (a1 < (a0.length : Int)) then
    (idx a0 a1).bind fun x1 =>
    some x1
  else
    some 0
def e_base_digit : Entry := ⟨188, [.ty (.sl I), .ty I], [(I, 0)], fun x => base_digit x.1 x.2⟩
def j_base_digit : TH := mkTH [] []
theorem k_base_digit (x : denP e_base_digit.ps) : fnT Try.prog Hn.hints j_base_digit (tabT []) 40 188 (ofPms e_base_digit.ps x) e_base_digit.rs = e_base_digit.F x := by kernel_rfl
theorem o_base_digit : EntryOk Try.prog Hn.hints Lb e_base_digit := entry_ok tab_nil hJ 40 _ _ _ _ k_base_digit
/-- ductility/ductilitybase.subDigits -/
def base_subDigits (a0 : (List Int)) (a1 : (List Int)) : Option (List Int) :=
  (loopO (fun (s3 : ((List Int) × Int × Int)) =>
      bif decide (s3.2.2 < (a0.length : Int)) then
        (idx a0 s3.2.2).bind fun x4 =>
        (base_digit a1 s3.2.2).bind fun x5 =>
        (bif decide (w64 ((w64 (x4 - x5)) - s3.2.1) < 0) then
            some (1, w64 ((w64 ((w64 (x4 - x5)) - s3.2.1)) + 1000000000))
          else
            some (0, w64 ((w64 (x4 - x5)) - s3.2.1))).bind fun (p6 : (Int × Int)) =>
        (app s3.1 ([p6.2])).bind fun x7 =>
        some (.inl (x7, p6.1, w64 (s3.2.2 + 1)))
      else
        some (.inr s3.1)) ([], 0, 0)).bind fun (p8 : (List Int)) =>
  (base_trimmed p8).bind fun x9 =>
  some x9
def e_base_subDigits : Entry := ⟨183, [.ty (.sl I), .ty (.sl I)], [((.sl I), 1000)], fun x => base_subDigits x.1 x.2⟩
def j_base_subDigits : TH := mkTH [([], 183, .block 0, { lv := [⟨none, 5, 0⟩], ps := [((.sl I), 1)], D := ⟨8589934560⟩ }),
  ([], 183, .loop 0, { lv := [⟨none, 5, 0⟩, ⟨none, 6, 0⟩, ⟨none, 7, 0⟩], ps := [((.sl I), 1), (I, 0), (I, 0)], D := ⟨8589934560⟩ }),
  ([], 183, .cond 26, { lv := [⟨none, 6, 0⟩, ⟨none, 8, 0⟩], ps := [(I, 0), (I, 0)], D := ⟨402653504⟩ })] []
theorem k_base_subDigits (x : denP e_base_subDigits.ps) : fnT Try.prog Hn.hints j_base_subDigits (tabT [e_base_digit, e_base_trimmed]) 40 183 (ofPms e_base_subDigits.ps x) e_base_subDigits.rs = e_base_subDigits.F x := by kernel_rfl
theorem o_base_subDigits : EntryOk Try.prog Hn.hints Lb e_base_subDigits := entry_ok (tab_cons o_base_digit (tab_cons o_base_trimmed tab_nil)) hJ 40 _ _ _ _ k_base_subDigits
/-- ductility/ductilitybase.addDigits -/
def base_addDigits (a0 : (List Int)) (a1 : (List Int)) : Option (List Int) :=
  (loopO (fun (s3 : ((List Int) × Int × Int)) =>
      (bif decide (s3.2.2 < (a0.length : Int)) then
          some true
        else
          bif decide (s3.2.2 < (a1.length : Int)) then
            some true
          else
            some (decide (s3.2.1 > 0))).bind fun (p4 : Bool) =>
      bif p4 then
        (base_digit a0 s3.2.2).bind fun x5 =>
        (base_digit a1 s3.2.2).bind fun x6 =>
        (app s3.1 ([(w64 ((w64 (x5 + x6)) + s3.2.1)).tmod 1000000000])).bind fun x7 =>
        some (.inl (x7, w64 ((w64 ((w64 (x5 + x6)) + s3.2.1)).tdiv 1000000000), w64 (s3.2.2 + 1)))
      else
        some (.inr s3.1)) ([], 0, 0)).bind fun (p8 : (List Int)) =>
  some p8
def e_base_addDigits : Entry := ⟨181, [.ty (.sl I), .ty (.sl I)], [((.sl I), 1)], fun x => base_addDigits x.1 x.2⟩
def j_base_addDigits : TH := mkTH [([], 181, .block 0, { lv := [⟨none, 5, 0⟩], ps := [((.sl I), 1)], D := ⟨2199023255520⟩ }),
  ([], 181, .loop 0, { lv := [⟨none, 5, 0⟩, ⟨none, 6, 0⟩, ⟨none, 7, 0⟩], ps := [((.sl I), 1), (I, 0), (I, 0)], D := ⟨2199023255520⟩ }),
  ([], 181, .region 4, { lv := [⟨none, 22, 0⟩], ps := [(.bool, 0)], D := ⟨8388096⟩ })] []
theorem k_base_addDigits (x : denP e_base_addDigits.ps) : fnT Try.prog Hn.hints j_base_addDigits (tabT [e_base_digit]) 40 181 (ofPms e_base_addDigits.ps x) e_base_addDigits.rs = e_base_addDigits.F x := by kernel_rfl
theorem o_base_addDigits : EntryOk Try.prog Hn.hints Lb e_base_addDigits := entry_ok (tab_cons o_base_digit tab_nil) hJ 40 _ _ _ _ k_base_addDigits
/-- ductility/ductilitybase.WideAdd -/
def base_WideAdd (a0 : (Int × (List Int) × Unit)) (a1 : (Int × (List Int) × Unit)) : Option (Int × (List Int) × Unit) :=
  bif decide (a0.1 = 0) then
    some a1
  else
    bif decide (a1.1 = 0) then
      some a0
    else
      bif decide (a0.1 = a1.1) then
        (base_addDigits a0.2.1 a1.2.1).bind fun x1 =>
        (base_wideOf a0.1 x1).bind fun x2 =>
        some x2
      else
        (base_cmpDigits a0.2.1 a1.2.1).bind fun x3 =>
        bif decide (x3 = 0) then
          some (0, [], ())
        else
          bif decide (x3 > 0) then
            (base_subDigits a0.2.1 a1.2.1).bind fun x4 =>
            (base_wideOf a0.1 x4).bind fun x5 =>
            some x5
          else
            (base_subDigits a1.2.1 a0.2.1).bind fun x6 =>
            (base_wideOf a1.1 x6).bind fun x7 =>
            some x7
def e_base_WideAdd : Entry := ⟨164, [.ty (.pair I (.pair (.sl I) .unit)), .ty (.pair I (.pair (.sl I) .unit))], [((.pair I (.pair (.sl I) .unit)), 2000)], fun x => base_WideAdd x.1 x.2⟩
def j_base_WideAdd : TH := mkTH [] []
theorem k_base_WideAdd (x : denP e_base_WideAdd.ps) : fnT Try.prog Hn.hints j_base_WideAdd (tabT [e_base_addDigits, e_base_cmpDigits, e_base_subDigits, e_base_wideOf]) 40 164 (ofPms e_base_WideAdd.ps x) e_base_WideAdd.rs = e_base_WideAdd.F x := by kernel_rfl
theorem o_base_WideAdd : EntryOk Try.prog Hn.hints Lb e_base_WideAdd := entry_ok (tab_cons o_base_addDigits (tab_cons o_base_cmpDigits (tab_cons o_base_subDigits (tab_cons o_base_wideOf tab_nil)))) hJ 40 _ _ _ _ k_base_WideAdd
/-- ductility/ductilitybase.WideSub -/
def base_WideSub (a0 : (Int × (List Int) × Unit)) (a1 : (Int × (List Int) × Unit)) : Option (Int × (List Int) × Unit) :=
  (base_WideNeg a1).bind fun x1 =>
  (base_WideAdd a0 x1).bind fun x2 =>
  some x2
def e_base_WideSub : Entry := ⟨163, [.ty (.pair I (.pair (.sl I) .unit)), .ty (.pair I (.pair (.sl I) .unit))], [((.pair I (.pair (.sl I) .unit)), 2000)], fun x => base_WideSub x.1 x.2⟩
def j_base_WideSub : TH := mkTH [] []
theorem k_base_WideSub (x : denP e_base_WideSub.ps) : fnT Try.prog Hn.hints j_base_WideSub (tabT [e_base_WideAdd, e_base_WideNeg]) 40 163 (ofPms e_base_WideSub.ps x) e_base_WideSub.rs = e_base_WideSub.F x := by kernel_rfl
theorem o_base_WideSub : EntryOk Try.prog Hn.hints Lb e_base_WideSub := entry_ok (tab_cons o_base_WideAdd (tab_cons o_base_WideNeg tab_nil)) hJ 40 _ _ _ _ k_base_WideSub
/-- ductility/ductilitybase.WideFloor -/
def base_WideFloor (a0 : (Int × (List Int) × Unit)) (a1 : (Int × (List Int) × Unit)) : Option (Int × (List Int) × Unit) :=
  bif decide (a0.1 = 0) then
    some (0, [], ())
  else
    (mkS (0 : Int) (a0.2.1.length : Int)).bind fun x1 =>
    bif decide ((a0.2.1.length : Int) = (a0.2.1.length : Int)) then
      (loopO (fun (s3 : ((List Int) × (List Int) × Int)) =>
          bif decide (s3.2.2 ≥ 0) then
            (idx a0.2.1 s3.2.2).bind fun x4 =>
            (app ([x4]) s3.2.1).bind fun x5 =>
            (base_trimmed x5).bind fun x6 =>
            (loopO (fun (s8 : (Int × Int)) =>
                bif decide (s8.1 < s8.2) then
                  (base_wideOf (1 : Int) a1.2.1).bind fun x9 =>
                  (base_WideOf (w64 ((w64 ((w64 (s8.1 + s8.2)) + 1)).tdiv 2))).bind fun x10 =>
                  (base_WideMul x9 x10).bind fun x11 =>
                  (base_cmpDigits x11.2.1 x6).bind fun x12 =>
                  (bif decide (x12 ≤ 0) then
                      some (w64 ((w64 ((w64 (s8.1 + s8.2)) + 1)).tdiv 2), s8.2)
                    else
                      some (s8.1, w64 ((w64 ((w64 ((w64 (s8.1 + s8.2)) + 1)).tdiv 2)) - 1))).bind fun (p13 : (Int × Int)) =>
                  some (.inl (p13.1, p13.2))
                else
                  some (.inr s8.1)) (0, 999999999)).bind fun (p14 : Int) =>
            (idx s3.1 s3.2.2).bind fun x15 =>
            (idx s3.1 s3.2.2).bind fun x16 =>
            let l17 : (List Int) := List.set s3.1 s3.2.2.toNat p14
            (base_wideOf (1 : Int) a1.2.1).bind fun x18 =>
            (base_WideOf p14).bind fun x19 =>
            (base_WideMul x18 x19).bind fun x20 =>
            (base_subDigits x6 x20.2.1).bind fun x21 =>
            some (.inl (l17, x21, w64 (s3.2.2 - 1)))
          else
            some (.inr (s3.1, s3.2.1))) (x1, [], w64 ((a0.2.1.length : Int) - 1))).bind fun (p22 : ((List Int) × (List Int))) =>
      (base_wideOf a0.1 p22.1).bind fun x23 =>
      (bif decide (a0.1 < 0) then
          some (decide ((p22.2.length : Int) > 0))
        else
          some false).bind fun (p24 : Bool) =>
      (bif p24 then
          (base_WideOf (1 : Int)).bind fun x25 =>
          (base_WideSub x23 x25).bind fun x26 =>
          some (x26.1, x26.2.1)
        else
          some (x23.1, x23.2.1)).bind fun (p27 : (Int × (List Int))) =>
      some (p27.1, p27.2, ())
    else
      none
def e_base_WideFloor : Entry := ⟨179, [.ty (.pair I (.pair (.sl I) .unit)), .ty (.pair I (.pair (.sl I) .unit))], [((.pair I (.pair (.sl I) .unit)), 2000)], fun x => base_WideFloor x.1 x.2⟩
def j_base_WideFloor : TH := mkTH [([], 179, .block 0, { lv := [⟨none, 5, 0⟩, ⟨none, 6, 0⟩], ps := [((.sl I), 1), ((.sl I), 2000)], D := ⟨4722366482869613234144⟩, rs := [⟨0, 2⟩, ⟨0, 3⟩] }),
  ([], 179, .loop 0, { lv := [⟨none, 5, 0⟩, ⟨none, 6, 0⟩, ⟨none, 7, 0⟩], ps := [((.sl I), 1), ((.sl I), 2000), (I, 0)], D := ⟨4722366482869613234144⟩, rs := [⟨0, 2⟩, ⟨0, 3⟩] }),
  ([], 179, .block 2, { lv := [⟨none, 8, 0⟩], ps := [(I, 0)], D := ⟨576460477425518336⟩ }),
  ([], 179, .loop 2, { lv := [⟨none, 8, 0⟩, ⟨none, 9, 0⟩], ps := [(I, 0), (I, 0)], D := ⟨576460477425518336⟩, rs := [⟨0, 3⟩] }),
  ([], 179, .cond 55, { lv := [⟨none, 8, 0⟩, ⟨none, 9, 0⟩], ps := [(I, 0), (I, 0)], D := ⟨504403158265496320⟩ }),
  ([], 179, .region 17, { lv := [⟨none, 83, 0⟩], ps := [(.bool, 0)], D := ⟨19267255250108152471879744⟩, rs := [⟨0, 2⟩] }),
  ([], 179, .cond 83, { lv := [⟨some 0, 11, 0⟩, ⟨some 0, 11, 1⟩], ps := [(I, 0), ((.sl I), 2000)], D := ⟨135399691796838467567091712⟩, wr := [⟨0, 11⟩] })] []
theorem k_base_WideFloor (x : denP e_base_WideFloor.ps) : fnT Try.prog Hn.hints j_base_WideFloor (tabT [e_base_WideMul, e_base_WideOf, e_base_WideSub, e_base_cmpDigits, e_base_subDigits, e_base_trimmed, e_base_wideOf]) 40 179 (ofPms e_base_WideFloor.ps x) e_base_WideFloor.rs = e_base_WideFloor.F x := by kernel_rfl
theorem o_base_WideFloor : EntryOk Try.prog Hn.hints Lb e_base_WideFloor := entry_ok (tab_cons o_base_WideMul (tab_cons o_base_WideOf (tab_cons o_base_WideSub (tab_cons o_base_cmpDigits (tab_cons o_base_subDigits (tab_cons o_base_trimmed (tab_cons o_base_wideOf tab_nil))))))) hJ 40 _ _ _ _ k_base_WideFloor
/-- ductility/ductilitybase.wideGcd -/
def base_wideGcd (a0 : (Int × (List Int) × Unit)) (a1 : (Int × (List Int) × Unit)) : Option (Int × (List Int) × Unit) :=
  (base_wideSize a0).bind fun x1 =>
  (base_wideSize a1).bind fun x2 =>
  (loopO (fun (s6 : (Int × (List Int) × Int × (List Int))) =>
      (base_WideSign (s6.2.2.1, s6.2.2.2, ())).bind fun x7 =>
      bif !(decide (x7 = 0)) then
        (base_WideFloor (s6.1, s6.2.1, ()) (s6.2.2.1, s6.2.2.2, ())).bind fun x8 =>
        (base_WideMul x8 (s6.2.2.1, s6.2.2.2, ())).bind fun x9 =>
        (base_WideSub (s6.1, s6.2.1, ()) x9).bind fun x10 =>
        some (.inl (s6.2.2.1, s6.2.2.2, x10.1, x10.2.1))
      else
        some (.inr (s6.1, s6.2.1))) (x1.1, x1.2.1, x2.1, x2.2.1)).bind fun (p11 : (Int × (List Int))) =>
  some (p11.1, p11.2, ())
def e_base_wideGcd : Entry := ⟨178, [.ty (.pair I (.pair (.sl I) .unit)), .ty (.pair I (.pair (.sl I) .unit))], [((.pair I (.pair (.sl I) .unit)), 0)], fun x => base_wideGcd x.1 x.2⟩
def j_base_wideGcd : TH := mkTH [([], 178, .block 0, { lv := [⟨some 0, 2, 0⟩, ⟨some 0, 2, 1⟩], ps := [(I, 0), ((.sl I), 0)], D := ⟨4193312⟩, wr := [⟨0, 2⟩, ⟨0, 3⟩, ⟨0, 5⟩] }),
  ([], 178, .loop 0, { lv := [⟨some 0, 2, 0⟩, ⟨some 0, 2, 1⟩, ⟨some 0, 3, 0⟩, ⟨some 0, 3, 1⟩], ps := [(I, 0), ((.sl I), 0), (I, 0), ((.sl I), 0)], D := ⟨4193312⟩, wr := [⟨0, 2⟩, ⟨0, 3⟩, ⟨0, 5⟩], rs := [⟨0, 5⟩] })] []
theorem k_base_wideGcd (x : denP e_base_wideGcd.ps) : fnT Try.prog Hn.hints j_base_wideGcd (tabT [e_base_WideFloor, e_base_WideMul, e_base_WideSign, e_base_WideSub, e_base_wideSize]) 40 178 (ofPms e_base_wideGcd.ps x) e_base_wideGcd.rs = e_base_wideGcd.F x := by kernel_rfl
theorem o_base_wideGcd : EntryOk Try.prog Hn.hints Lb e_base_wideGcd := entry_ok (tab_cons o_base_WideFloor (tab_cons o_base_WideMul (tab_cons o_base_WideSign (tab_cons o_base_WideSub (tab_cons o_base_wideSize tab_nil))))) hJ 40 _ _ _ _ k_base_wideGcd
/-- ductility/ductilitybase.WideCmp -/
def base_WideCmp (a0 : (Int × (List Int) × Unit)) (a1 : (Int × (List Int) × Unit)) : Option Int :=
  (base_WideSub a0 a1).bind fun x1 =>
  some x1.1
def e_base_WideCmp : Entry := ⟨129, [.ty (.pair I (.pair (.sl I) .unit)), .ty (.pair I (.pair (.sl I) .unit))], [(I, 0)], fun x => base_WideCmp x.1 x.2⟩
def j_base_WideCmp : TH := mkTH [] []
theorem k_base_WideCmp (x : denP e_base_WideCmp.ps) : fnT Try.prog Hn.hints j_base_WideCmp (tabT [e_base_WideSub]) 40 129 (ofPms e_base_WideCmp.ps x) e_base_WideCmp.rs = e_base_WideCmp.F x := by kernel_rfl
theorem o_base_WideCmp : EntryOk Try.prog Hn.hints Lb e_base_WideCmp := entry_ok (tab_cons o_base_WideSub tab_nil) hJ 40 _ _ _ _ k_base_WideCmp
/-- ductility/ductilitybase.RatioMake -/
def base_RatioMake (a0 : (Int × (List Int) × Unit)) (a1 : (Int × (List Int) × Unit)) : Option (Int × (List Int) × Int × (List Int) × Unit) :=
  (base_WideSign a1).bind fun x1 =>
  (bif decide (x1 < 0) then
      (base_WideNeg a0).bind fun x2 =>
      (base_WideNeg a1).bind fun x3 =>
      some (x2.1, x2.2.1, x3.1, x3.2.1)
    else
      some (a0.1, a0.2.1, a1.1, a1.2.1)).bind fun (p4 : (Int × (List Int) × Int × (List Int))) =>
  (base_wideGcd (p4.1, p4.2.1, ()) (p4.2.2.1, p4.2.2.2, ())).bind fun x5 =>
  (base_WideOf (1 : Int)).bind fun x6 =>
  (base_WideCmp x5 x6).bind fun x7 =>
  bif decide (x7 = 0) then
    some (p4.1, p4.2.1, p4.2.2.1, p4.2.2.2, ())
  else
    (base_WideFloor (p4.1, p4.2.1, ()) x5).bind fun x8 =>
    (base_WideFloor (p4.2.2.1, p4.2.2.2, ()) x5).bind fun x9 =>
    some (x8.1, x8.2.1, x9.1, x9.2.1, ())
def e_base_RatioMake : Entry := ⟨157, [.ty (.pair I (.pair (.sl I) .unit)), .ty (.pair I (.pair (.sl I) .unit))], [((.pair I (.pair (.sl I) (.pair I (.pair (.sl I) .unit)))), 2000)], fun x => base_RatioMake x.1 x.2⟩
def j_base_RatioMake : TH := mkTH [([], 157, .cond 8, { lv := [⟨some 0, 2, 0⟩, ⟨some 0, 2, 1⟩, ⟨some 0, 3, 0⟩, ⟨some 0, 3, 1⟩], ps := [(I, 0), ((.sl I), 1000), (I, 0), ((.sl I), 1000)], D := ⟨7680⟩, wr := [⟨0, 2⟩, ⟨0, 3⟩] })] []
theorem k_base_RatioMake (x : denP e_base_RatioMake.ps) : fnT Try.prog Hn.hints j_base_RatioMake (tabT [e_base_WideCmp, e_base_WideFloor, e_base_WideNeg, e_base_WideOf, e_base_WideSign, e_base_wideGcd]) 40 157 (ofPms e_base_RatioMake.ps x) e_base_RatioMake.rs = e_base_RatioMake.F x := by kernel_rfl
theorem o_base_RatioMake : EntryOk Try.prog Hn.hints Lb e_base_RatioMake := entry_ok (tab_cons o_base_WideCmp (tab_cons o_base_WideFloor (tab_cons o_base_WideNeg (tab_cons o_base_WideOf (tab_cons o_base_WideSign (tab_cons o_base_wideGcd tab_nil)))))) hJ 40 _ _ _ _ k_base_RatioMake
/-- ductility/ductilitybase.RatioOf -/
def base_RatioOf (a0 : Int) (a1 : Int) : Option (Int × (List Int) × Int × (List Int) × Unit) :=
  (base_WideOf a0).bind fun x1 =>
  (base_WideOf a1).bind fun x2 =>
  (base_RatioMake x1 x2).bind fun x3 =>
  some x3
def e_base_RatioOf : Entry := ⟨113, [.ty I, .ty I], [((.pair I (.pair (.sl I) (.pair I (.pair (.sl I) .unit)))), 2000)], fun x => base_RatioOf x.1 x.2⟩
def j_base_RatioOf : TH := mkTH [] []
theorem k_base_RatioOf (x : denP e_base_RatioOf.ps) : fnT Try.prog Hn.hints j_base_RatioOf (tabT [e_base_RatioMake, e_base_WideOf]) 40 113 (ofPms e_base_RatioOf.ps x) e_base_RatioOf.rs = e_base_RatioOf.F x := by kernel_rfl
theorem o_base_RatioOf : EntryOk Try.prog Hn.hints Lb e_base_RatioOf := entry_ok (tab_cons o_base_RatioMake (tab_cons o_base_WideOf tab_nil)) hJ 40 _ _ _ _ k_base_RatioOf
/-- ductility/ductilityref07.Center -/
def ref07_Center (a0 : (List (List Int))) : Option (Int × (List Int) × Int × (List Int) × Int × (List Int) × Int × (List Int) × Unit) :=
  (loopO (fun (s2 : (Int × Int × Int × Int)) =>
      bif decide (s2.2.2.2 < (a0.length : Int)) then
        (loopO (fun (s4 : (Int × Int × Int × Int)) =>
            (idx a0 s2.2.2.2).bind fun x5 =>
            bif decide (s4.2.2.2 < (x5.length : Int)) then
              (idx a0 s2.2.2.2).bind fun x6 =>
              (idx x6 s4.2.2.2).bind fun x7 =>
              (idx a0 s2.2.2.2).bind fun x8 =>
              (idx x8 s4.2.2.2).bind fun x9 =>
              (idx a0 s2.2.2.2).bind fun x10 =>
              (idx x10 s4.2.2.2).bind fun x11 =>
              some (.inl (w64 (s4.1 + (w64 (s4.2.2.2 * x7))), w64 (s4.2.1 + (w64 (s2.2.2.2 * x9))), w64 (s4.2.2.1 + x11), w64 (s4.2.2.2 + 1)))
            else
              some (.inr (s4.1, s4.2.1, s4.2.2.1))) (s2.1, s2.2.1, s2.2.2.1, 0)).bind fun (p12 : (Int × Int × Int)) =>
        some (.inl (p12.1, p12.2.1, p12.2.2, w64 (s2.2.2.2 + 1)))
      else
        some (.inr (s2.1, s2.2.1, s2.2.2.1))) (0, 0, 0, 0)).bind fun (p13 : (Int × Int × Int)) =>
  (base_RatioOf p13.1 p13.2.2).bind fun x14 =>
  (base_RatioOf p13.2.1 p13.2.2).bind fun x15 =>
  some (x14.1, x14.2.1, x14.2.2.1, x14.2.2.2.1, x15.1, x15.2.1, x15.2.2.1, x15.2.2.2.1, ())
def e_ref07_Center : Entry := ⟨29, [.ty (.sl (.sl I))], [((.pair I (.pair (.sl I) (.pair I (.pair (.sl I) (.pair I (.pair (.sl I) (.pair I (.pair (.sl I) .unit)))))))), 2000)], fun x => ref07_Center x⟩
def j_ref07_Center : TH := mkTH [([], 29, .block 0, { lv := [⟨none, 3, 0⟩, ⟨none, 4, 0⟩, ⟨none, 5, 0⟩], ps := [(I, 0), (I, 0), (I, 0)], D := ⟨18014398509481976⟩ }),
  ([], 29, .loop 0, { lv := [⟨none, 3, 0⟩, ⟨none, 4, 0⟩, ⟨none, 5, 0⟩, ⟨none, 6, 0⟩], ps := [(I, 0), (I, 0), (I, 0), (I, 0)], D := ⟨18014398509481976⟩ }),
  ([], 29, .block 2, { lv := [⟨none, 3, 0⟩, ⟨none, 4, 0⟩, ⟨none, 5, 0⟩], ps := [(I, 0), (I, 0), (I, 0)], D := ⟨18014398509465784⟩ }),
  ([], 29, .loop 2, { lv := [⟨none, 3, 0⟩, ⟨none, 4, 0⟩, ⟨none, 5, 0⟩, ⟨none, 7, 0⟩], ps := [(I, 0), (I, 0), (I, 0), (I, 0)], D := ⟨18014398509465784⟩ })] []
theorem k_ref07_Center (x : denP e_ref07_Center.ps) : fnT Try.prog Hn.hints j_ref07_Center (tabT [e_base_RatioOf]) 40 29 (ofPms e_ref07_Center.ps x) e_ref07_Center.rs = e_ref07_Center.F x := by kernel_rfl
theorem o_ref07_Center : EntryOk Try.prog Hn.hints Lb e_ref07_Center := entry_ok (tab_cons o_base_RatioOf tab_nil) hJ 40 _ _ _ _ k_ref07_Center
/-- ductility/ductilitybase.WideInt -/
def base_WideInt (a0 : (Int × (List Int) × Unit)) : Option (Int × Bool) :=
  bif decide ((a0.2.1.length : Int) > 2) then
    some (0, false)
  else
    (loopO (fun (s2 : (Int × Int)) =>
        bif decide (s2.2 ≥ 0) then
          (idx a0.2.1 s2.2).bind fun x3 =>
          some (.inl (w64 ((w64 (s2.1 * 1000000000)) + x3), w64 (s2.2 - 1)))
        else
          some (.inr s2.1)) (0, w64 ((a0.2.1.length : Int) - 1))).bind fun (p4 : Int) =>
    some (w64 (a0.1 * p4), true)
def e_base_WideInt : Entry := ⟨155, [.ty (.pair I (.pair (.sl I) .unit))], [(I, 0), (.bool, 0)], fun x => base_WideInt x⟩
def j_base_WideInt : TH := mkTH [([], 155, .block 0, { lv := [⟨none, 4, 0⟩], ps := [(I, 0)], D := ⟨67092528⟩ }),
  ([], 155, .loop 0, { lv := [⟨none, 4, 0⟩, ⟨none, 5, 0⟩], ps := [(I, 0), (I, 0)], D := ⟨67092528⟩, rs := [⟨0, 1⟩] })] []
theorem k_base_WideInt (x : denP e_base_WideInt.ps) : fnT Try.prog Hn.hints j_base_WideInt (tabT []) 40 155 (ofPms e_base_WideInt.ps x) e_base_WideInt.rs = e_base_WideInt.F x := by kernel_rfl
theorem o_base_WideInt : EntryOk Try.prog Hn.hints Lb e_base_WideInt := entry_ok tab_nil hJ 40 _ _ _ _ k_base_WideInt
/-- ductility/ductilitybase.IsSmall -/
def base_IsSmall (a0 : (Int × Int × Unit)) : Option Bool :=
  ((base_Within a0.1 (-1000000000 : Int) (1000000000 : Int)).bind fun x1 =>
    bif x1 then
      (base_Within a0.2.1 (1 : Int) (1000000000 : Int)).bind fun x2 =>
      some x2
    else
      some false).bind fun (p3 : Bool) =>
  some p3
def e_base_IsSmall : Entry := ⟨156, [.ty (.pair I (.pair I .unit))], [(.bool, 0)], fun x => base_IsSmall x⟩
def j_base_IsSmall : TH := mkTH [([], 156, .region 1, { lv := [⟨none, 2, 0⟩], ps := [(.bool, 0)], D := ⟨2044⟩, rs := [⟨0, 1⟩] })] []
theorem k_base_IsSmall (x : denP e_base_IsSmall.ps) : fnT Try.prog Hn.hints j_base_IsSmall (tabT [e_base_Within]) 40 156 (ofPms e_base_IsSmall.ps x) e_base_IsSmall.rs = e_base_IsSmall.F x := by kernel_rfl
theorem o_base_IsSmall : EntryOk Try.prog Hn.hints Lb e_base_IsSmall := entry_ok (tab_cons o_base_Within tab_nil) hJ 40 _ _ _ _ k_base_IsSmall
/-- ductility/ductilitybase.RatioFrac -/
def base_RatioFrac (a0 : (Int × (List Int) × Int × (List Int) × Unit)) : Option ((Int × Int × Unit) × Bool) :=
  (base_WideInt (a0.1, a0.2.1, ())).bind fun x1 =>
  (base_WideInt (a0.2.2.1, a0.2.2.2.1, ())).bind fun x2 =>
  (bif !x1.2 then
      some true
    else
      bif !x2.2 then
        some true
      else
        (base_IsSmall (x1.1, x2.1, ())).bind fun x3 =>
        some (!x3)).bind fun (p4 : Bool) =>
  bif p4 then
    some ((0, 0, ()), false)
  else
    some ((x1.1, x2.1, ()), true)
def e_base_RatioFrac : Entry := ⟨112, [.ty (.pair I (.pair (.sl I) (.pair I (.pair (.sl I) .unit))))], [((.pair I (.pair I .unit)), 0), (.bool, 0)], fun x => base_RatioFrac x⟩
def j_base_RatioFrac : TH := mkTH [([], 112, .region 4, { lv := [⟨none, 34, 0⟩], ps := [(.bool, 0)], D := ⟨34342961152⟩ })] []
theorem k_base_RatioFrac (x : denP e_base_RatioFrac.ps) : fnT Try.prog Hn.hints j_base_RatioFrac (tabT [e_base_IsSmall, e_base_WideInt]) 40 112 (ofPms e_base_RatioFrac.ps x) e_base_RatioFrac.rs = e_base_RatioFrac.F x := by kernel_rfl
theorem o_base_RatioFrac : EntryOk Try.prog Hn.hints Lb e_base_RatioFrac := entry_ok (tab_cons o_base_IsSmall (tab_cons o_base_WideInt tab_nil)) hJ 40 _ _ _ _ k_base_RatioFrac
/-- ductility/ductilityref07.Fractions -/
def ref07_Fractions (a0 : (Int × (List Int) × Int × (List Int) × Int × (List Int) × Int × (List Int) × Unit)) : Option (Int × Int × Int × Int × Unit) :=
  (base_RatioFrac (a0.1, a0.2.1, a0.2.2.1, a0.2.2.2.1, ())).bind fun x1 =>
  (base_RatioFrac (a0.2.2.2.2.1, a0.2.2.2.2.2.1, a0.2.2.2.2.2.2.1, a0.2.2.2.2.2.2.2.1, ())).bind fun x2 =>
  some (x1.1.1, x1.1.2.1, x2.1.1, x2.1.2.1, ())
def e_ref07_Fractions : Entry := ⟨28, [.ty (.pair I (.pair (.sl I) (.pair I (.pair (.sl I) (.pair I (.pair (.sl I) (.pair I (.pair (.sl I) .unit))))))))], [((.pair I (.pair I (.pair I (.pair I .unit)))), 0)], fun x => ref07_Fractions x⟩
def j_ref07_Fractions : TH := mkTH [] []
theorem k_ref07_Fractions (x : denP e_ref07_Fractions.ps) : fnT Try.prog Hn.hints j_ref07_Fractions (tabT [e_base_RatioFrac]) 40 28 (ofPms e_ref07_Fractions.ps x) e_ref07_Fractions.rs = e_ref07_Fractions.F x := by kernel_rfl
theorem o_ref07_Fractions : EntryOk Try.prog Hn.hints Lb e_ref07_Fractions := entry_ok (tab_cons o_base_RatioFrac tab_nil) hJ 40 _ _ _ _ k_ref07_Fractions
/-- ductility/ductilitybase.RatioNeg -/
def base_RatioNeg (a0 : (Int × (List Int) × Int × (List Int) × Unit)) : Option (Int × (List Int) × Int × (List Int) × Unit) :=
  (base_WideNeg (a0.1, a0.2.1, ())).bind fun x1 =>
  some (x1.1, x1.2.1, a0.2.2.1, a0.2.2.2.1, ())
def e_base_RatioNeg : Entry := ⟨160, [.ty (.pair I (.pair (.sl I) (.pair I (.pair (.sl I) .unit))))], [((.pair I (.pair (.sl I) (.pair I (.pair (.sl I) .unit)))), 1000)], fun x => base_RatioNeg x⟩
def j_base_RatioNeg : TH := mkTH [] []
theorem k_base_RatioNeg (x : denP e_base_RatioNeg.ps) : fnT Try.prog Hn.hints j_base_RatioNeg (tabT [e_base_WideNeg]) 40 160 (ofPms e_base_RatioNeg.ps x) e_base_RatioNeg.rs = e_base_RatioNeg.F x := by kernel_rfl
theorem o_base_RatioNeg : EntryOk Try.prog Hn.hints Lb e_base_RatioNeg := entry_ok (tab_cons o_base_WideNeg tab_nil) hJ 40 _ _ _ _ k_base_RatioNeg
/-- ductility/ductilitybase.RatioAdd -/
def base_RatioAdd (a0 : (Int × (List Int) × Int × (List Int) × Unit)) (a1 : (Int × (List Int) × Int × (List Int) × Unit)) : Option (Int × (List Int) × Int × (List Int) × Unit) :=
  (base_WideMul (a0.1, a0.2.1, ()) (a1.2.2.1, a1.2.2.2.1, ())).bind fun x1 =>
  (base_WideMul (a1.1, a1.2.1, ()) (a0.2.2.1, a0.2.2.2.1, ())).bind fun x2 =>
  (base_WideAdd x1 x2).bind fun x3 =>
  (base_WideMul (a0.2.2.1, a0.2.2.2.1, ()) (a1.2.2.1, a1.2.2.2.1, ())).bind fun x4 =>
  (base_RatioMake x3 x4).bind fun x5 =>
  some x5
def e_base_RatioAdd : Entry := ⟨159, [.ty (.pair I (.pair (.sl I) (.pair I (.pair (.sl I) .unit)))), .ty (.pair I (.pair (.sl I) (.pair I (.pair (.sl I) .unit))))], [((.pair I (.pair (.sl I) (.pair I (.pair (.sl I) .unit)))), 2000)], fun x => base_RatioAdd x.1 x.2⟩
def j_base_RatioAdd : TH := mkTH [] []
theorem k_base_RatioAdd (x : denP e_base_RatioAdd.ps) : fnT Try.prog Hn.hints j_base_RatioAdd (tabT [e_base_RatioMake, e_base_WideAdd, e_base_WideMul]) 40 159 (ofPms e_base_RatioAdd.ps x) e_base_RatioAdd.rs = e_base_RatioAdd.F x := by kernel_rfl
theorem o_base_RatioAdd : EntryOk Try.prog Hn.hints Lb e_base_RatioAdd := entry_ok (tab_cons o_base_RatioMake (tab_cons o_base_WideAdd (tab_cons o_base_WideMul tab_nil))) hJ 40 _ _ _ _ k_base_RatioAdd
/-- ductility/ductilitybase.RatioSub -/
def base_RatioSub (a0 : (Int × (List Int) × Int × (List Int) × Unit)) (a1 : (Int × (List Int) × Int × (List Int) × Unit)) : Option (Int × (List Int) × Int × (List Int) × Unit) :=
  (base_RatioNeg a1).bind fun x1 =>
  (base_RatioAdd a0 x1).bind fun x2 =>
  some x2
def e_base_RatioSub : Entry := ⟨114, [.ty (.pair I (.pair (.sl I) (.pair I (.pair (.sl I) .unit)))), .ty (.pair I (.pair (.sl I) (.pair I (.pair (.sl I) .unit))))], [((.pair I (.pair (.sl I) (.pair I (.pair (.sl I) .unit)))), 2000)], fun x => base_RatioSub x.1 x.2⟩
def j_base_RatioSub : TH := mkTH [] []
theorem k_base_RatioSub (x : denP e_base_RatioSub.ps) : fnT Try.prog Hn.hints j_base_RatioSub (tabT [e_base_RatioAdd, e_base_RatioNeg]) 40 114 (ofPms e_base_RatioSub.ps x) e_base_RatioSub.rs = e_base_RatioSub.F x := by kernel_rfl
theorem o_base_RatioSub : EntryOk Try.prog Hn.hints Lb e_base_RatioSub := entry_ok (tab_cons o_base_RatioAdd (tab_cons o_base_RatioNeg tab_nil)) hJ 40 _ _ _ _ k_base_RatioSub
/-- ductility/ductilityref07.Moved -/
def ref07_Moved (a0 : (List (List Int))) (a1 : (List (List Int))) : Option (Int × Int × Int × Int × Unit) :=
  (ref07_Center a0).bind fun x1 =>
  (ref07_Center a1).bind fun x2 =>
  (base_RatioSub (x2.1, x2.2.1, x2.2.2.1, x2.2.2.2.1, ()) (x1.1, x1.2.1, x1.2.2.1, x1.2.2.2.1, ())).bind fun x3 =>
  (base_RatioSub (x2.2.2.2.2.1, x2.2.2.2.2.2.1, x2.2.2.2.2.2.2.1, x2.2.2.2.2.2.2.2.1, ()) (x1.2.2.2.2.1, x1.2.2.2.2.2.1, x1.2.2.2.2.2.2.1, x1.2.2.2.2.2.2.2.1, ())).bind fun x4 =>
  (ref07_Fractions (x3.1, x3.2.1, x3.2.2.1, x3.2.2.2.1, x4.1, x4.2.1, x4.2.2.1, x4.2.2.2.1, ())).bind fun x5 =>
  some x5
def e_ref07_Moved : Entry := ⟨31, [.ty (.sl (.sl I)), .ty (.sl (.sl I))], [((.pair I (.pair I (.pair I (.pair I .unit)))), 0)], fun x => ref07_Moved x.1 x.2⟩
def j_ref07_Moved : TH := mkTH [] []
theorem k_ref07_Moved (x : denP e_ref07_Moved.ps) : fnT Try.prog Hn.hints j_ref07_Moved (tabT [e_base_RatioSub, e_ref07_Center, e_ref07_Fractions]) 40 31 (ofPms e_ref07_Moved.ps x) e_ref07_Moved.rs = e_ref07_Moved.F x := by kernel_rfl
theorem o_ref07_Moved : EntryOk Try.prog Hn.hints Lb e_ref07_Moved := entry_ok (tab_cons o_base_RatioSub (tab_cons o_ref07_Center (tab_cons o_ref07_Fractions tab_nil))) hJ 40 _ _ _ _ k_ref07_Moved
/-- ductility/ductilitylaw07.SensorImages -/
def law07_SensorImages (a0 : (List (List Int))) (a1 : (List (List Int))) : Option Bool :=
  (law07_awake).bind fun x1 =>
  bif !x1 then
    some false
  else
    ((law07_images a0).bind fun x2 =>
      bif !x2 then
        some true
      else
        (law07_images a1).bind fun x3 =>
        some (!x3)).bind fun (p4 : Bool) =>
    bif p4 then
      some true
    else
      (base_CopyLists a0).bind fun x5 =>
      (sensor_CenterOf x5).bind fun x6 =>
      (base_CopyLists a0).bind fun x7 =>
      (base_CopyLists a1).bind fun x8 =>
      (sensor_MovedBy x7 x8).bind fun x9 =>
      (ref07_ImageErr a0).bind fun x10 =>
      (bif !(decide (x6.2 = x10)) then
          some true
        else
          bif !(decide (x10 = 0)) then
            let v11 : Bool := !(bif (bif decide (x6.1.1 = 0) then (bif decide (x6.1.2.1 = 0) then true else false) else false) then (bif (bif decide (x6.1.2.2.1 = 0) then (bif decide (x6.1.2.2.2.1 = 0) then true else false) else false) then true else false) else false)
            bif v11 then
              some true
            else
              bif decide (x10 = 0) then
                (ref07_Center a0).bind fun x12 =>
                (ref07_Fractions x12).bind fun x13 =>
                let v14 : Bool := !(bif (bif decide (x6.1.1 = x13.1) then (bif decide (x6.1.2.1 = x13.2.1) then true else false) else false) then (bif (bif decide (x6.1.2.2.1 = x13.2.2.1) then (bif decide (x6.1.2.2.2.1 = x13.2.2.2.1) then true else false) else false) then true else false) else false)
                some v14
              else
                some false
          else
            bif decide (x10 = 0) then
              (ref07_Center a0).bind fun x15 =>
              (ref07_Fractions x15).bind fun x16 =>
              let v17 : Bool := !(bif (bif decide (x6.1.1 = x16.1) then (bif decide (x6.1.2.1 = x16.2.1) then true else false) else false) then (bif (bif decide (x6.1.2.2.1 = x16.2.2.1) then (bif decide (x6.1.2.2.2.1 = x16.2.2.2.1) then true else false) else false) then true else false) else false)
              some v17
            else
              some false).bind fun (p18 : Bool) =>
      bif p18 then
        some false
      else
        (ref07_MovedErr a0 a1).bind fun x19 =>
        bif !(decide (x19 = 0)) then
          (bif decide (x9.2 = x19) then
              let v20 : Bool := (bif (bif decide (x9.1.1 = 0) then (bif decide (x9.1.2.1 = 0) then true else false) else false) then (bif (bif decide (x9.1.2.2.1 = 0) then (bif decide (x9.1.2.2.2.1 = 0) then true else false) else false) then true else false) else false)
              some v20
            else
              some false).bind fun (p21 : Bool) =>
          some p21
        else
          (bif decide (x9.2 = 0) then
              (ref07_Moved a0 a1).bind fun x22 =>
              let v23 : Bool := (bif (bif decide (x9.1.1 = x22.1) then (bif decide (x9.1.2.1 = x22.2.1) then true else false) else false) then (bif (bif decide (x9.1.2.2.1 = x22.2.2.1) then (bif decide (x9.1.2.2.2.1 = x22.2.2.2.1) then true else false) else false) then true else false) else false)
              some v23
            else
              some false).bind fun (p24 : Bool) =>
          some p24
def e_law07_SensorImages : Entry := ⟨4, [.ty (.sl (.sl I)), .ty (.sl (.sl I))], [(.bool, 0)], fun x => law07_SensorImages x.1 x.2⟩
def j_law07_SensorImages : TH := mkTH [([], 4, .region 3, { lv := [⟨none, 20, 0⟩], ps := [(.bool, 0)], D := ⟨2088960⟩ }),
  ([], 4, .region 8, { lv := [⟨none, 59, 0⟩], ps := [(.bool, 0)], D := ⟨1152921367167893504⟩ }),
  ([], 4, .region 12, { lv := [⟨none, 4, 0⟩], ps := [(.bool, 0)], D := ⟨9407839477591871324176⟩ }),
  ([], 4, .region 13, { lv := [⟨none, 4, 0⟩], ps := [(.bool, 0)], D := ⟨4826258545492777408397328⟩ })] []
theorem k_law07_SensorImages (x : denP e_law07_SensorImages.ps) : fnT Try.prog Hn.hints j_law07_SensorImages (tabT [e_base_CopyLists, e_law07_awake, e_law07_images, e_ref07_Center, e_ref07_Fractions, e_ref07_ImageErr, e_ref07_Moved, e_ref07_MovedErr, e_sensor_CenterOf, e_sensor_MovedBy]) 40 4 (ofPms e_law07_SensorImages.ps x) e_law07_SensorImages.rs = e_law07_SensorImages.F x := by kernel_rfl
theorem o_law07_SensorImages : EntryOk Try.prog Hn.hints Lb e_law07_SensorImages := entry_ok (tab_cons o_base_CopyLists (tab_cons o_law07_awake (tab_cons o_law07_images (tab_cons o_ref07_Center (tab_cons o_ref07_Fractions (tab_cons o_ref07_ImageErr (tab_cons o_ref07_Moved (tab_cons o_ref07_MovedErr (tab_cons o_sensor_CenterOf (tab_cons o_sensor_MovedBy tab_nil)))))))))) hJ 40 _ _ _ _ k_law07_SensorImages
/-- ductility/ductilitylaw07.few -/
def law07_few (a0 : (List (Int × Int × Unit))) : Option Bool :=
  some (decide ((a0.length : Int) ≤ 12))
def e_law07_few : Entry := ⟨46, [.ty (.sl (.pair I (.pair I .unit)))], [(.bool, 0)], fun x => law07_few x⟩
def j_law07_few : TH := mkTH [] []
theorem k_law07_few (x : denP e_law07_few.ps) : fnT Try.prog Hn.hints j_law07_few (tabT []) 40 46 (ofPms e_law07_few.ps x) e_law07_few.rs = e_law07_few.F x := by kernel_rfl
theorem o_law07_few : EntryOk Try.prog Hn.hints Lb e_law07_few := entry_ok tab_nil hJ 40 _ _ _ _ k_law07_few
/-- ductility/ductilityref07.CopyPairs -/
def ref07_CopyPairs (a0 : (List (Int × Int × Unit))) : Option (List (Int × Int × Unit)) :=
  (app [] a0).bind fun x1 =>
  some x1
def e_ref07_CopyPairs : Entry := ⟨48, [.ty (.sl (.pair I (.pair I .unit)))], [((.sl (.pair I (.pair I .unit))), 1)], fun x => ref07_CopyPairs x⟩
def j_ref07_CopyPairs : TH := mkTH [] []
theorem k_ref07_CopyPairs (x : denP e_ref07_CopyPairs.ps) : fnT Try.prog Hn.hints j_ref07_CopyPairs (tabT []) 40 48 (ofPms e_ref07_CopyPairs.ps x) e_ref07_CopyPairs.rs = e_ref07_CopyPairs.F x := by kernel_rfl
theorem o_ref07_CopyPairs : EntryOk Try.prog Hn.hints Lb e_ref07_CopyPairs := entry_ok tab_nil hJ 40 _ _ _ _ k_ref07_CopyPairs
/-- ductility/sensor.sized -/
def sensor_sized (a0 : Int) (a1 : Int) : Option Bool :=
  (sensor_within a0 (w64 (0 - a1)) a1).bind fun x1 =>
  some x1
def e_sensor_sized : Entry := ⟨118, [.ty I, .ty I], [(.bool, 0)], fun x => sensor_sized x.1 x.2⟩
def j_sensor_sized : TH := mkTH [] []
theorem k_sensor_sized (x : denP e_sensor_sized.ps) : fnT Try.prog Hn.hints j_sensor_sized (tabT [e_sensor_within]) 40 118 (ofPms e_sensor_sized.ps x) e_sensor_sized.rs = e_sensor_sized.F x := by kernel_rfl
theorem o_sensor_sized : EntryOk Try.prog Hn.hints Lb e_sensor_sized := entry_ok (tab_cons o_sensor_within tab_nil) hJ 40 _ _ _ _ k_sensor_sized
/-- ductility/sensor.pairsErr$1 -/
def sensor_pairsErr_1 (a0 : (Int × Int × Unit)) : Option Bool :=
  ((sensor_sized a0.1 (1000 : Int)).bind fun x1 =>
    bif !x1 then
      some true
    else
      (sensor_sized a0.2.1 (1000 : Int)).bind fun x2 =>
      some (!x2)).bind fun (p3 : Bool) =>
  some p3
def e_sensor_pairsErr_1 : Entry := ⟨162, [.ty (.pair I (.pair I .unit))], [(.bool, 0)], fun x => sensor_pairsErr_1 x⟩
def j_sensor_pairsErr_1 : TH := mkTH [([], 162, .region 1, { lv := [⟨none, 2, 0⟩], ps := [(.bool, 0)], D := ⟨8188⟩, rs := [⟨0, 1⟩] })] []
theorem k_sensor_pairsErr_1 (x : denP e_sensor_pairsErr_1.ps) : fnT Try.prog Hn.hints j_sensor_pairsErr_1 (tabT [e_sensor_sized]) 40 162 (ofPms e_sensor_pairsErr_1.ps x) e_sensor_pairsErr_1.rs = e_sensor_pairsErr_1.F x := by kernel_rfl
theorem o_sensor_pairsErr_1 : EntryOk Try.prog Hn.hints Lb e_sensor_pairsErr_1 := entry_ok (tab_cons o_sensor_sized tab_nil) hJ 40 _ _ _ _ k_sensor_pairsErr_1
/-- slices.IndexFunc[[]ductility/api.SensorPair,ductility/api.SensorPair] -/
def slices_IndexFunc_Lapi_SensorPair_api_SensorPair_of_sensor_pairsErr_1 (a0 : (List (Int × Int × Unit))) : Option Int :=
  (loopO (fun (s2 : Int) =>
      bif decide (s2 < (a0.length : Int)) then
        (idx a0 s2).bind fun x3 =>
        (sensor_pairsErr_1 x3).bind fun x4 =>
        bif x4 then
          some (.inr (.inr s2))
        else
          some (.inl (w64 (s2 + 1)))
      else
        some (.inr (.inl ()))) 0).bind (Sum.elim (fun (p5 : Unit) =>
  some (-1)) some)
def e_slices_IndexFunc_Lapi_SensorPair_api_SensorPair_of_sensor_pairsErr_1 : Entry := ⟨180, [.ty (.sl (.pair I (.pair I .unit))), .fn 162 []], [(I, 0)], fun x => slices_IndexFunc_Lapi_SensorPair_api_SensorPair_of_sensor_pairsErr_1 x.1⟩
def j_slices_IndexFunc_Lapi_SensorPair_api_SensorPair_of_sensor_pairsErr_1 : TH := mkTH [([], 180, .block 0, { lv := [], ps := [], abn := true, D := ⟨524080⟩ }),
  ([], 180, .loop 0, { lv := [⟨none, 8, 0⟩], ps := [(I, 0)], D := ⟨524080⟩ })] []
theorem k_slices_IndexFunc_Lapi_SensorPair_api_SensorPair_of_sensor_pairsErr_1 (x : denP e_slices_IndexFunc_Lapi_SensorPair_api_SensorPair_of_sensor_pairsErr_1.ps) : fnT Try.prog Hn.hints j_slices_IndexFunc_Lapi_SensorPair_api_SensorPair_of_sensor_pairsErr_1 (tabT [e_sensor_pairsErr_1]) 40 180 (ofPms e_slices_IndexFunc_Lapi_SensorPair_api_SensorPair_of_sensor_pairsErr_1.ps x) e_slices_IndexFunc_Lapi_SensorPair_api_SensorPair_of_sensor_pairsErr_1.rs = e_slices_IndexFunc_Lapi_SensorPair_api_SensorPair_of_sensor_pairsErr_1.F x := by kernel_rfl
theorem o_slices_IndexFunc_Lapi_SensorPair_api_SensorPair_of_sensor_pairsErr_1 : EntryOk Try.prog Hn.hints Lb e_slices_IndexFunc_Lapi_SensorPair_api_SensorPair_of_sensor_pairsErr_1 := entry_ok (tab_cons o_sensor_pairsErr_1 tab_nil) hJ 40 _ _ _ _ k_slices_IndexFunc_Lapi_SensorPair_api_SensorPair_of_sensor_pairsErr_1
/-- slices.ContainsFunc[[]ductility/api.SensorPair,ductility/api.SensorPair] -/
def slices_ContainsFunc_Lapi_SensorPair_api_SensorPair_of_sensor_pairsErr_1 (a0 : (List (Int × Int × Unit))) : Option Bool :=
  (slices_IndexFunc_Lapi_SensorPair_api_SensorPair_of_sensor_pairsErr_1 a0).bind fun x1 =>
  some (decide (x1 ≥ 0))
def e_slices_ContainsFunc_Lapi_SensorPair_api_SensorPair_of_sensor_pairsErr_1 : Entry := ⟨161, [.ty (.sl (.pair I (.pair I .unit))), .fn 162 []], [(.bool, 0)], fun x => slices_ContainsFunc_Lapi_SensorPair_api_SensorPair_of_sensor_pairsErr_1 x.1⟩
def j_slices_ContainsFunc_Lapi_SensorPair_api_SensorPair_of_sensor_pairsErr_1 : TH := mkTH [] []
theorem k_slices_ContainsFunc_Lapi_SensorPair_api_SensorPair_of_sensor_pairsErr_1 (x : denP e_slices_ContainsFunc_Lapi_SensorPair_api_SensorPair_of_sensor_pairsErr_1.ps) : fnT Try.prog Hn.hints j_slices_ContainsFunc_Lapi_SensorPair_api_SensorPair_of_sensor_pairsErr_1 (tabT [e_slices_IndexFunc_Lapi_SensorPair_api_SensorPair_of_sensor_pairsErr_1]) 40 161 (ofPms e_slices_ContainsFunc_Lapi_SensorPair_api_SensorPair_of_sensor_pairsErr_1.ps x) e_slices_ContainsFunc_Lapi_SensorPair_api_SensorPair_of_sensor_pairsErr_1.rs = e_slices_ContainsFunc_Lapi_SensorPair_api_SensorPair_of_sensor_pairsErr_1.F x := by kernel_rfl
theorem o_slices_ContainsFunc_Lapi_SensorPair_api_SensorPair_of_sensor_pairsErr_1 : EntryOk Try.prog Hn.hints Lb e_slices_ContainsFunc_Lapi_SensorPair_api_SensorPair_of_sensor_pairsErr_1 := entry_ok (tab_cons o_slices_IndexFunc_Lapi_SensorPair_api_SensorPair_of_sensor_pairsErr_1 tab_nil) hJ 40 _ _ _ _ k_slices_ContainsFunc_Lapi_SensorPair_api_SensorPair_of_sensor_pairsErr_1
/-- ductility/sensor.pairsErr -/
def sensor_pairsErr (a0 : (List (Int × Int × Unit))) : Option Int :=
  (slices_ContainsFunc_Lapi_SensorPair_api_SensorPair_of_sensor_pairsErr_1 a0).bind fun x1 =>
  (sensor_unless (decide ((a0.length : Int) > 0)) (10 : Int)).bind fun x2 =>
  (sensor_unless (decide ((a0.length : Int) ≤ 10)) (8 : Int)).bind fun x3 =>
  (sensor_unless (!x1) (2 : Int)).bind fun x4 =>
  (sensor_first ([x2, x3, x4])).bind fun x5 =>
  some x5
def e_sensor_pairsErr : Entry := ⟨119, [.ty (.sl (.pair I (.pair I .unit)))], [(I, 0)], fun x => sensor_pairsErr x⟩
def j_sensor_pairsErr : TH := mkTH [] []
theorem k_sensor_pairsErr (x : denP e_sensor_pairsErr.ps) : fnT Try.prog Hn.hints j_sensor_pairsErr (tabT [e_sensor_first, e_sensor_unless, e_slices_ContainsFunc_Lapi_SensorPair_api_SensorPair_of_sensor_pairsErr_1]) 40 119 (ofPms e_sensor_pairsErr.ps x) e_sensor_pairsErr.rs = e_sensor_pairsErr.F x := by kernel_rfl
theorem o_sensor_pairsErr : EntryOk Try.prog Hn.hints Lb e_sensor_pairsErr := entry_ok (tab_cons o_sensor_first (tab_cons o_sensor_unless (tab_cons o_slices_ContainsFunc_Lapi_SensorPair_api_SensorPair_of_sensor_pairsErr_1 tab_nil))) hJ 40 _ _ _ _ k_sensor_pairsErr
/-- ductility/sensor.of -/
def sensor_of (a0 : (List (Int × Int × Unit))) : Option (Int × Int × Int × Int × Int × Unit) :=
  (loopO (fun (s2 : (Int × Int × Int × Int × Int × Int)) =>
      bif decide (s2.1 < (a0.length : Int)) then
        (idx a0 s2.1).bind fun x3 =>
        some (.inl (w64 (s2.1 + 1), s2.2.1, w64 (s2.2.2.1 + x3.2.1), w64 (s2.2.2.2.1 + x3.1), w64 (s2.2.2.2.2.1 + (w64 (x3.2.1 * x3.2.1))), w64 (s2.2.2.2.2.2 + (w64 (x3.2.1 * x3.1)))))
      else
        some (.inr (s2.2.1, s2.2.2.1, s2.2.2.2.1, s2.2.2.2.2.1, s2.2.2.2.2.2))) (0, (a0.length : Int), 0, 0, 0, 0)).bind fun (p4 : (Int × Int × Int × Int × Int)) =>
  some (p4.1, p4.2.1, p4.2.2.1, p4.2.2.2.1, p4.2.2.2.2, ())
def e_sensor_of : Entry := ⟨120, [.ty (.sl (.pair I (.pair I .unit)))], [((.pair I (.pair I (.pair I (.pair I (.pair I .unit))))), 0)], fun x => sensor_of x⟩
def j_sensor_of : TH := mkTH [([], 120, .block 0, { lv := [⟨some 0, 3, 0⟩, ⟨some 0, 3, 1⟩, ⟨some 0, 3, 2⟩, ⟨some 0, 3, 3⟩, ⟨some 0, 3, 4⟩], ps := [(I, 0), (I, 0), (I, 0), (I, 0), (I, 0)], D := ⟨70368744175648⟩, wr := [⟨0, 3⟩, ⟨0, 5⟩] }),
  ([], 120, .loop 0, { lv := [⟨none, 11, 0⟩, ⟨some 0, 3, 0⟩, ⟨some 0, 3, 1⟩, ⟨some 0, 3, 2⟩, ⟨some 0, 3, 3⟩, ⟨some 0, 3, 4⟩], ps := [(I, 0), (I, 0), (I, 0), (I, 0), (I, 0), (I, 0)], D := ⟨70368744175648⟩, wr := [⟨0, 3⟩, ⟨0, 5⟩], rs := [⟨0, 3⟩, ⟨0, 5⟩] })] []
theorem k_sensor_of (x : denP e_sensor_of.ps) : fnT Try.prog Hn.hints j_sensor_of (tabT []) 40 120 (ofPms e_sensor_of.ps x) e_sensor_of.rs = e_sensor_of.F x := by kernel_rfl
theorem o_sensor_of : EntryOk Try.prog Hn.hints Lb e_sensor_of := entry_ok tab_nil hJ 40 _ _ _ _ k_sensor_of
/-- (ductility/sensor.sums).spread -/
def sensor_sums_spread (a0 : (Int × Int × Int × Int × Int × Unit)) : Option Int :=
  some (w64 ((w64 (a0.1 * a0.2.2.2.1)) - (w64 (a0.2.1 * a0.2.1))))
def e_sensor_sums_spread : Entry := ⟨121, [.ty (.pair I (.pair I (.pair I (.pair I (.pair I .unit)))))], [(I, 0)], fun x => sensor_sums_spread x⟩
def j_sensor_sums_spread : TH := mkTH [] []
theorem k_sensor_sums_spread (x : denP e_sensor_sums_spread.ps) : fnT Try.prog Hn.hints j_sensor_sums_spread (tabT []) 40 121 (ofPms e_sensor_sums_spread.ps x) e_sensor_sums_spread.rs = e_sensor_sums_spread.F x := by kernel_rfl
theorem o_sensor_sums_spread : EntryOk Try.prog Hn.hints Lb e_sensor_sums_spread := entry_ok tab_nil hJ 40 _ _ _ _ k_sensor_sums_spread
/-- ductility/sensor.CalibrationOf -/
def sensor_CalibrationOf (a0 : (List (Int × Int × Unit))) : Option ((Int × Int × Int × Unit) × Int) :=
  (sensor_pairsErr a0).bind fun x1 =>
  bif !(decide (x1 = 0)) then
    some ((0, 0, 0, ()), x1)
  else
    (sensor_of a0).bind fun x2 =>
    (sensor_sums_spread x2).bind fun x3 =>
    bif decide (x3 = 0) then
      some ((0, 0, 0, ()), 11)
    else
      (sensor_divisor ([w64 ((w64 (x2.1 * x2.2.2.2.2.1)) - (w64 (x2.2.1 * x2.2.2.1))), w64 ((w64 (x2.2.2.1 * x2.2.2.2.1)) - (w64 (x2.2.1 * x2.2.2.2.2.1))), x3])).bind fun x4 =>
      bif decide (x4 = 0) then
        none
      else
        let v5 : Int := w64 ((w64 ((w64 (x2.1 * x2.2.2.2.2.1)) - (w64 (x2.2.1 * x2.2.2.1)))).tdiv x4)
        bif decide (x4 = 0) then
          none
        else
          let v6 : Int := w64 ((w64 ((w64 (x2.2.2.1 * x2.2.2.2.1)) - (w64 (x2.2.1 * x2.2.2.2.2.1)))).tdiv x4)
          bif decide (x4 = 0) then
            none
          else
            some ((v5, v6, w64 (x3.tdiv x4), ()), 0)
def e_sensor_CalibrationOf : Entry := ⟨47, [.ty (.sl (.pair I (.pair I .unit)))], [((.pair I (.pair I (.pair I .unit))), 0), (I, 0)], fun x => sensor_CalibrationOf x⟩
def j_sensor_CalibrationOf : TH := mkTH [] []
theorem k_sensor_CalibrationOf (x : denP e_sensor_CalibrationOf.ps) : fnT Try.prog Hn.hints j_sensor_CalibrationOf (tabT [e_sensor_divisor, e_sensor_of, e_sensor_pairsErr, e_sensor_sums_spread]) 40 47 (ofPms e_sensor_CalibrationOf.ps x) e_sensor_CalibrationOf.rs = e_sensor_CalibrationOf.F x := by kernel_rfl
theorem o_sensor_CalibrationOf : EntryOk Try.prog Hn.hints Lb e_sensor_CalibrationOf := entry_ok (tab_cons o_sensor_divisor (tab_cons o_sensor_of (tab_cons o_sensor_pairsErr (tab_cons o_sensor_sums_spread tab_nil)))) hJ 40 _ _ _ _ k_sensor_CalibrationOf
/-- ductility/sensor.CheckLine -/
def sensor_CheckLine (a0 : (Int × Int × Int × Unit)) : Option Int :=
  ((sensor_within a0.2.2.1 (1 : Int) (300000000000 : Int)).bind fun x1 =>
    bif x1 then
      (sensor_sized a0.1 (300000000000 : Int)).bind fun x2 =>
      bif x2 then
        (sensor_sized a0.2.1 (300000000000 : Int)).bind fun x3 =>
        some x3
      else
        some false
    else
      some false).bind fun (p4 : Bool) =>
  bif !p4 then
    some 2
  else
    (sensor_divisor ([a0.1, a0.2.1, a0.2.2.1])).bind fun x5 =>
    (sensor_unless (decide (x5 = 1)) (3 : Int)).bind fun x6 =>
    some x6
def e_sensor_CheckLine : Entry := ⟨51, [.ty (.pair I (.pair I (.pair I .unit)))], [(I, 0)], fun x => sensor_CheckLine x⟩
def j_sensor_CheckLine : TH := mkTH [([], 51, .region 1, { lv := [⟨none, 3, 0⟩], ps := [(.bool, 0)], D := ⟨131064⟩, rs := [⟨0, 1⟩] })] []
theorem k_sensor_CheckLine (x : denP e_sensor_CheckLine.ps) : fnT Try.prog Hn.hints j_sensor_CheckLine (tabT [e_sensor_divisor, e_sensor_sized, e_sensor_unless, e_sensor_within]) 40 51 (ofPms e_sensor_CheckLine.ps x) e_sensor_CheckLine.rs = e_sensor_CheckLine.F x := by kernel_rfl
theorem o_sensor_CheckLine : EntryOk Try.prog Hn.hints Lb e_sensor_CheckLine := entry_ok (tab_cons o_sensor_divisor (tab_cons o_sensor_sized (tab_cons o_sensor_unless (tab_cons o_sensor_within tab_nil)))) hJ 40 _ _ _ _ k_sensor_CheckLine
/-- ductility/sensor.off -/
def sensor_off (a0 : (Int × Int × Int × Unit)) (a1 : (Int × Int × Unit)) : Option Int :=
  some (w64 ((w64 ((w64 (a0.1 * a1.2.1)) + a0.2.1)) - (w64 (a0.2.2.1 * a1.1))))
def e_sensor_off : Entry := ⟨123, [.ty (.pair I (.pair I (.pair I .unit))), .ty (.pair I (.pair I .unit))], [(I, 0)], fun x => sensor_off x.1 x.2⟩
def j_sensor_off : TH := mkTH [] []
theorem k_sensor_off (x : denP e_sensor_off.ps) : fnT Try.prog Hn.hints j_sensor_off (tabT []) 40 123 (ofPms e_sensor_off.ps x) e_sensor_off.rs = e_sensor_off.F x := by kernel_rfl
theorem o_sensor_off : EntryOk Try.prog Hn.hints Lb e_sensor_off := entry_ok tab_nil hJ 40 _ _ _ _ k_sensor_off
/-- ductility/sensor.CheckCalibration -/
def sensor_CheckCalibration (a0 : (List (Int × Int × Unit))) (a1 : (Int × Int × Int × Unit)) : Option (Int × Int) :=
  (sensor_pairsErr a0).bind fun x1 =>
  (sensor_CheckLine (a1.1, a1.2.1, a1.2.2.1, ())).bind fun x2 =>
  (sensor_first ([x1, x2])).bind fun x3 =>
  bif !(decide (x3 = 0)) then
    some (0, x3)
  else
    (loopO (fun (s5 : (Int × Int × Int)) =>
        bif decide (s5.2.2 < (a0.length : Int)) then
          (idx a0 s5.2.2).bind fun x6 =>
          (sensor_off (a1.1, a1.2.1, a1.2.2.1, ()) x6).bind fun x7 =>
          (sensor_off (a1.1, a1.2.1, a1.2.2.1, ()) x6).bind fun x8 =>
          some (.inl (w64 (s5.1 + x7), w64 (s5.2.1 + (w64 (x8 * x6.2.1))), w64 (s5.2.2 + 1)))
        else
          some (.inr (s5.1, s5.2.1))) (0, 0, 0)).bind fun (p9 : (Int × Int)) =>
    bif !(decide (p9.1 = 0)) then
      some (0, 19)
    else
      bif !(decide (p9.2 = 0)) then
        some (1, 19)
      else
        (sensor_of a0).bind fun x10 =>
        (sensor_sums_spread x10).bind fun x11 =>
        (sensor_unless (!(decide (x11 = 0))) (11 : Int)).bind fun x12 =>
        some (0, x12)
def e_sensor_CheckCalibration : Entry := ⟨49, [.ty (.sl (.pair I (.pair I .unit))), .ty (.pair I (.pair I (.pair I .unit)))], [(I, 0), (I, 0)], fun x => sensor_CheckCalibration x.1 x.2⟩
def j_sensor_CheckCalibration : TH := mkTH [([], 49, .block 0, { lv := [⟨none, 7, 0⟩, ⟨none, 8, 0⟩], ps := [(I, 0), (I, 0)], D := ⟨1099507434880⟩, wr := [⟨0, 10⟩] }),
  ([], 49, .loop 0, { lv := [⟨none, 7, 0⟩, ⟨none, 8, 0⟩, ⟨none, 22, 0⟩], ps := [(I, 0), (I, 0), (I, 0)], D := ⟨1099507434880⟩, wr := [⟨0, 10⟩], rs := [⟨0, 10⟩] })] []
theorem k_sensor_CheckCalibration (x : denP e_sensor_CheckCalibration.ps) : fnT Try.prog Hn.hints j_sensor_CheckCalibration (tabT [e_sensor_CheckLine, e_sensor_first, e_sensor_of, e_sensor_off, e_sensor_pairsErr, e_sensor_sums_spread, e_sensor_unless]) 40 49 (ofPms e_sensor_CheckCalibration.ps x) e_sensor_CheckCalibration.rs = e_sensor_CheckCalibration.F x := by kernel_rfl
theorem o_sensor_CheckCalibration : EntryOk Try.prog Hn.hints Lb e_sensor_CheckCalibration := entry_ok (tab_cons o_sensor_CheckLine (tab_cons o_sensor_first (tab_cons o_sensor_of (tab_cons o_sensor_off (tab_cons o_sensor_pairsErr (tab_cons o_sensor_sums_spread (tab_cons o_sensor_unless tab_nil))))))) hJ 40 _ _ _ _ k_sensor_CheckCalibration
/-- ductility/sensor.MisfitOf -/
def sensor_MisfitOf (a0 : (List (Int × Int × Unit))) (a1 : (Int × Int × Int × Unit)) : Option ((Int × Int × Unit) × Int) :=
  ((sensor_sized a1.1 (10000 : Int)).bind fun x1 =>
    bif x1 then
      (sensor_sized a1.2.1 (10000 : Int)).bind fun x2 =>
      bif x2 then
        (sensor_sized a1.2.2.1 (10000 : Int)).bind fun x3 =>
        some x3
      else
        some false
    else
      some false).bind fun (p4 : Bool) =>
  (sensor_pairsErr a0).bind fun x5 =>
  (sensor_CheckLine a1).bind fun x6 =>
  (sensor_unless p4 (8 : Int)).bind fun x7 =>
  (sensor_first ([x5, x6, x7])).bind fun x8 =>
  bif !(decide (x8 = 0)) then
    some ((0, 0, ()), x8)
  else
    (loopO (fun (s10 : (Int × Int)) =>
        bif decide (s10.2 < (a0.length : Int)) then
          (idx a0 s10.2).bind fun x11 =>
          (sensor_off a1 x11).bind fun x12 =>
          (sensor_off a1 x11).bind fun x13 =>
          some (.inl (w64 (s10.1 + (w64 (x12 * x13))), w64 (s10.2 + 1)))
        else
          some (.inr s10.1)) (0, 0)).bind fun (p14 : Int) =>
    (sensor_fraction p14 (w64 (a1.2.2.1 * a1.2.2.1))).bind fun x15 =>
    some (x15, 0)
def e_sensor_MisfitOf : Entry := ⟨50, [.ty (.sl (.pair I (.pair I .unit))), .ty (.pair I (.pair I (.pair I .unit)))], [((.pair I (.pair I .unit)), 0), (I, 0)], fun x => sensor_MisfitOf x.1 x.2⟩
def j_sensor_MisfitOf : TH := mkTH [([], 50, .region 1, { lv := [⟨none, 6, 0⟩], ps := [(.bool, 0)], D := ⟨16775232⟩, rs := [⟨0, 3⟩] }),
  ([], 50, .block 0, { lv := [⟨none, 8, 0⟩], ps := [(I, 0)], D := ⟨4503324749464832⟩, wr := [⟨0, 10⟩] }),
  ([], 50, .loop 0, { lv := [⟨none, 8, 0⟩, ⟨none, 38, 0⟩], ps := [(I, 0), (I, 0)], D := ⟨4503324749464832⟩, wr := [⟨0, 10⟩], rs := [⟨0, 10⟩] })] []
theorem k_sensor_MisfitOf (x : denP e_sensor_MisfitOf.ps) : fnT Try.prog Hn.hints j_sensor_MisfitOf (tabT [e_sensor_CheckLine, e_sensor_first, e_sensor_fraction, e_sensor_off, e_sensor_pairsErr, e_sensor_sized, e_sensor_unless]) 40 50 (ofPms e_sensor_MisfitOf.ps x) e_sensor_MisfitOf.rs = e_sensor_MisfitOf.F x := by kernel_rfl
theorem o_sensor_MisfitOf : EntryOk Try.prog Hn.hints Lb e_sensor_MisfitOf := entry_ok (tab_cons o_sensor_CheckLine (tab_cons o_sensor_first (tab_cons o_sensor_fraction (tab_cons o_sensor_off (tab_cons o_sensor_pairsErr (tab_cons o_sensor_sized (tab_cons o_sensor_unless tab_nil))))))) hJ 40 _ _ _ _ k_sensor_MisfitOf
/-- ductility/ductilitybase.Gcd -/
def base_Gcd (a0 : Int) (a1 : Int) : Option Int :=
  (loopO (fun (s2 : (Int × Int)) =>
      bif !(decide (s2.2 = 0)) then
        bif decide (s2.2 = 0) then
          none
        else
          some (.inl (s2.2, s2.1.tmod s2.2))
      else
        some (.inr s2.1)) (a0, a1)).bind fun (p3 : Int) =>
  (base_Size p3).bind fun x4 =>
  some x4
def e_base_Gcd : Entry := ⟨124, [.ty I, .ty I], [(I, 0)], fun x => base_Gcd x.1 x.2⟩
def j_base_Gcd : TH := mkTH [([], 124, .block 0, { lv := [⟨none, 0, 0⟩], ps := [(I, 0)], D := ⟨2019⟩ }),
  ([], 124, .loop 0, { lv := [⟨none, 0, 0⟩, ⟨none, 1, 0⟩], ps := [(I, 0), (I, 0)], D := ⟨2019⟩ })] []
theorem k_base_Gcd (x : denP e_base_Gcd.ps) : fnT Try.prog Hn.hints j_base_Gcd (tabT [e_base_Size]) 40 124 (ofPms e_base_Gcd.ps x) e_base_Gcd.rs = e_base_Gcd.F x := by kernel_rfl
theorem o_base_Gcd : EntryOk Try.prog Hn.hints Lb e_base_Gcd := entry_ok (tab_cons o_base_Size tab_nil) hJ 40 _ _ _ _ k_base_Gcd
/-- ductility/ductilityref07.LineErr -/
def ref07_LineErr (a0 : (Int × Int × Int × Unit)) : Option Int :=
  ((base_Within a0.2.2.1 (1 : Int) (300000000000 : Int)).bind fun x1 =>
    bif !x1 then
      some true
    else
      (base_Within a0.1 (-300000000000 : Int) (300000000000 : Int)).bind fun x2 =>
      bif !x2 then
        some true
      else
        (base_Within a0.2.1 (-300000000000 : Int) (300000000000 : Int)).bind fun x3 =>
        some (!x3)).bind fun (p4 : Bool) =>
  bif p4 then
    some 2
  else
    (base_Gcd a0.1 a0.2.1).bind fun x5 =>
    (base_Gcd x5 a0.2.2.1).bind fun x6 =>
    bif !(decide (x6 = 1)) then
      some 3
    else
      some 0
def e_ref07_LineErr : Entry := ⟨52, [.ty (.pair I (.pair I (.pair I .unit)))], [(I, 0)], fun x => ref07_LineErr x⟩
def j_ref07_LineErr : TH := mkTH [([], 52, .region 1, { lv := [⟨none, 18, 0⟩], ps := [(.bool, 0)], D := ⟨524280⟩, rs := [⟨0, 1⟩] })] []
theorem k_ref07_LineErr (x : denP e_ref07_LineErr.ps) : fnT Try.prog Hn.hints j_ref07_LineErr (tabT [e_base_Gcd, e_base_Within]) 40 52 (ofPms e_ref07_LineErr.ps x) e_ref07_LineErr.rs = e_ref07_LineErr.F x := by kernel_rfl
theorem o_ref07_LineErr : EntryOk Try.prog Hn.hints Lb e_ref07_LineErr := entry_ok (tab_cons o_base_Gcd (tab_cons o_base_Within tab_nil)) hJ 40 _ _ _ _ k_ref07_LineErr
/-- ductility/ductilityref07.PairsErr -/
def ref07_PairsErr (a0 : (List (Int × Int × Unit))) : Option Int :=
  bif decide ((a0.length : Int) = 0) then
    some 10
  else
    bif decide ((a0.length : Int) > 10) then
      some 8
    else
      (loopO (fun (s2 : Int) =>
          bif decide (s2 < (a0.length : Int)) then
            ((idx a0 s2).bind fun x3 =>
              (base_Size x3.1).bind fun x4 =>
              bif decide (x4 > 1000) then
                some true
              else
                (idx a0 s2).bind fun x5 =>
                (base_Size x5.2.1).bind fun x6 =>
                bif decide (x6 > 1000) then
                  some true
                else
                  (idx a0 s2).bind fun x7 =>
                  bif decide (x7.1 < (-1000)) then
                    some true
                  else
                    (idx a0 s2).bind fun x8 =>
                    some (decide (x8.2.1 < (-1000)))).bind fun (p9 : Bool) =>
            bif p9 then
              some (.inr (.inr 2))
            else
              some (.inl (w64 (s2 + 1)))
          else
            some (.inr (.inl ()))) 0).bind (Sum.elim (fun (p10 : Unit) =>
      some 0) some)
def e_ref07_PairsErr : Entry := ⟨53, [.ty (.sl (.pair I (.pair I .unit)))], [(I, 0)], fun x => ref07_PairsErr x⟩
def j_ref07_PairsErr : TH := mkTH [([], 53, .block 0, { lv := [], ps := [], abn := true, D := ⟨281474976709644⟩ }),
  ([], 53, .loop 0, { lv := [⟨none, 3, 0⟩], ps := [(I, 0)], D := ⟨281474976709644⟩ }),
  ([], 53, .region 8, { lv := [⟨none, 47, 0⟩], ps := [(.bool, 0)], D := ⟨281474976645120⟩ })] []
theorem k_ref07_PairsErr (x : denP e_ref07_PairsErr.ps) : fnT Try.prog Hn.hints j_ref07_PairsErr (tabT [e_base_Size]) 40 53 (ofPms e_ref07_PairsErr.ps x) e_ref07_PairsErr.rs = e_ref07_PairsErr.F x := by kernel_rfl
theorem o_ref07_PairsErr : EntryOk Try.prog Hn.hints Lb e_ref07_PairsErr := entry_ok (tab_cons o_base_Size tab_nil) hJ 40 _ _ _ _ k_ref07_PairsErr
/-- ductility/ductilityref07.Flat -/
def ref07_Flat (a0 : (List (Int × Int × Unit))) : Option Bool :=
  (loopO (fun (s2 : Int) =>
      bif decide (s2 < (a0.length : Int)) then
        (idx a0 s2).bind fun x3 =>
        (idx a0 0).bind fun x4 =>
        bif !(decide (x3.2.1 = x4.2.1)) then
          some (.inr (.inr false))
        else
          some (.inl (w64 (s2 + 1)))
      else
        some (.inr (.inl ()))) 1).bind (Sum.elim (fun (p5 : Unit) =>
  some true) some)
def e_ref07_Flat : Entry := ⟨54, [.ty (.sl (.pair I (.pair I .unit)))], [(.bool, 0)], fun x => ref07_Flat x⟩
def j_ref07_Flat : TH := mkTH [([], 54, .block 0, { lv := [], ps := [], abn := true, D := ⟨1048572⟩ }),
  ([], 54, .loop 0, { lv := [⟨none, 3, 0⟩], ps := [(I, 0)], D := ⟨1048572⟩ })] []
theorem k_ref07_Flat (x : denP e_ref07_Flat.ps) : fnT Try.prog Hn.hints j_ref07_Flat (tabT []) 40 54 (ofPms e_ref07_Flat.ps x) e_ref07_Flat.rs = e_ref07_Flat.F x := by kernel_rfl
theorem o_ref07_Flat : EntryOk Try.prog Hn.hints Lb e_ref07_Flat := entry_ok tab_nil hJ 40 _ _ _ _ k_ref07_Flat
/-- ductility/ductilityref07.lowest -/
def ref07_lowest (a0 : Int) (a1 : Int) (a2 : Int) : Option (Int × Int × Int × Unit) :=
  (base_Gcd a0 a1).bind fun x1 =>
  (base_Gcd x1 a2).bind fun x2 =>
  bif decide (x2 = 0) then
    none
  else
    bif decide (x2 = 0) then
      none
    else
      bif decide (x2 = 0) then
        none
      else
        some (w64 (a0.tdiv x2), w64 (a1.tdiv x2), w64 (a2.tdiv x2), ())
def e_ref07_lowest : Entry := ⟨125, [.ty I, .ty I, .ty I], [((.pair I (.pair I (.pair I .unit))), 0)], fun x => ref07_lowest x.1 x.2.1 x.2.2⟩
def j_ref07_lowest : TH := mkTH [] []
theorem k_ref07_lowest (x : denP e_ref07_lowest.ps) : fnT Try.prog Hn.hints j_ref07_lowest (tabT [e_base_Gcd]) 40 125 (ofPms e_ref07_lowest.ps x) e_ref07_lowest.rs = e_ref07_lowest.F x := by kernel_rfl
theorem o_ref07_lowest : EntryOk Try.prog Hn.hints Lb e_ref07_lowest := entry_ok (tab_cons o_base_Gcd tab_nil) hJ 40 _ _ _ _ k_ref07_lowest
/-- ductility/ductilityref07.Calibration -/
def ref07_Calibration (a0 : (List (Int × Int × Unit))) : Option (Int × Int × Int × Unit) :=
  (loopO (fun (s2 : (Int × Int × Int × Int × Int)) =>
      bif decide (s2.2.2.2.2 < (a0.length : Int)) then
        (idx a0 s2.2.2.2.2).bind fun x3 =>
        (idx a0 s2.2.2.2.2).bind fun x4 =>
        (idx a0 s2.2.2.2.2).bind fun x5 =>
        (idx a0 s2.2.2.2.2).bind fun x6 =>
        (idx a0 s2.2.2.2.2).bind fun x7 =>
        (idx a0 s2.2.2.2.2).bind fun x8 =>
        some (.inl (w64 (s2.1 + x3.2.1), w64 (s2.2.1 + x4.1), w64 (s2.2.2.1 + (w64 (x5.2.1 * x6.2.1))), w64 (s2.2.2.2.1 + (w64 (x7.2.1 * x8.1))), w64 (s2.2.2.2.2 + 1)))
      else
        some (.inr (s2.1, s2.2.1, s2.2.2.1, s2.2.2.2.1))) (0, 0, 0, 0, 0)).bind fun (p9 : (Int × Int × Int × Int)) =>
  (ref07_lowest (w64 ((w64 ((a0.length : Int) * p9.2.2.2)) - (w64 (p9.1 * p9.2.1)))) (w64 ((w64 (p9.2.2.1 * p9.2.1)) - (w64 (p9.1 * p9.2.2.2)))) (w64 ((w64 ((a0.length : Int) * p9.2.2.1)) - (w64 (p9.1 * p9.1))))).bind fun x10 =>
  some x10
def e_ref07_Calibration : Entry := ⟨55, [.ty (.sl (.pair I (.pair I .unit)))], [((.pair I (.pair I (.pair I .unit))), 0)], fun x => ref07_Calibration x⟩
def j_ref07_Calibration : TH := mkTH [([], 55, .block 0, { lv := [⟨none, 4, 0⟩, ⟨none, 5, 0⟩, ⟨none, 6, 0⟩, ⟨none, 7, 0⟩], ps := [(I, 0), (I, 0), (I, 0), (I, 0)], D := ⟨72057594037926384⟩ }),
  ([], 55, .loop 0, { lv := [⟨none, 4, 0⟩, ⟨none, 5, 0⟩, ⟨none, 6, 0⟩, ⟨none, 7, 0⟩, ⟨none, 8, 0⟩], ps := [(I, 0), (I, 0), (I, 0), (I, 0), (I, 0)], D := ⟨72057594037926384⟩ })] []
theorem k_ref07_Calibration (x : denP e_ref07_Calibration.ps) : fnT Try.prog Hn.hints j_ref07_Calibration (tabT [e_ref07_lowest]) 40 55 (ofPms e_ref07_Calibration.ps x) e_ref07_Calibration.rs = e_ref07_Calibration.F x := by kernel_rfl
theorem o_ref07_Calibration : EntryOk Try.prog Hn.hints Lb e_ref07_Calibration := entry_ok (tab_cons o_ref07_lowest tab_nil) hJ 40 _ _ _ _ k_ref07_Calibration
/-- ductility/ductilityref07.Sums -/
def ref07_Sums (a0 : (List (Int × Int × Unit))) (a1 : (Int × Int × Int × Unit)) : Option (Int × (List Int) × Int × (List Int) × Unit) :=
  (loopO (fun (s3 : (Int × Int × (List Int) × Int × (List Int))) =>
      bif decide (s3.1 < (a0.length : Int)) then
        (base_WideOf a1.1).bind fun x4 =>
        (idx a0 s3.1).bind fun x5 =>
        (base_WideOf x5.2.1).bind fun x6 =>
        (base_WideMul x4 x6).bind fun x7 =>
        (base_WideOf a1.2.1).bind fun x8 =>
        (base_WideAdd x7 x8).bind fun x9 =>
        (base_WideOf a1.2.2.1).bind fun x10 =>
        (idx a0 s3.1).bind fun x11 =>
        (base_WideOf x11.1).bind fun x12 =>
        (base_WideMul x10 x12).bind fun x13 =>
        (base_WideSub x9 x13).bind fun x14 =>
        (base_WideAdd (s3.2.1, s3.2.2.1, ()) x14).bind fun x15 =>
        (idx a0 s3.1).bind fun x16 =>
        (base_WideOf x16.2.1).bind fun x17 =>
        (base_WideMul x14 x17).bind fun x18 =>
        (base_WideAdd (s3.2.2.2.1, s3.2.2.2.2, ()) x18).bind fun x19 =>
        some (.inl (w64 (s3.1 + 1), x15.1, x15.2.1, x19.1, x19.2.1))
      else
        some (.inr (s3.2.1, s3.2.2.1, s3.2.2.2.1, s3.2.2.2.2))) (0, 0, [], 0, [])).bind fun (p20 : (Int × (List Int) × Int × (List Int))) =>
  some (p20.1, p20.2.1, p20.2.2.1, p20.2.2.2, ())
def e_ref07_Sums : Entry := ⟨126, [.ty (.sl (.pair I (.pair I .unit))), .ty (.pair I (.pair I (.pair I .unit)))], [((.pair I (.pair (.sl I) (.pair I (.pair (.sl I) .unit)))), 0)], fun x => ref07_Sums x.1 x.2⟩
def j_ref07_Sums : TH := mkTH [([], 126, .block 0, { lv := [⟨some 0, 5, 0⟩, ⟨some 0, 5, 1⟩, ⟨some 0, 5, 2⟩, ⟨some 0, 5, 3⟩], ps := [(I, 0), ((.sl I), 2000), (I, 0), ((.sl I), 2000)], D := ⟨72057594037927872⟩, wr := [⟨0, 5⟩, ⟨0, 7⟩] }),
  ([], 126, .loop 0, { lv := [⟨none, 6, 0⟩, ⟨some 0, 5, 0⟩, ⟨some 0, 5, 1⟩, ⟨some 0, 5, 2⟩, ⟨some 0, 5, 3⟩], ps := [(I, 0), (I, 0), ((.sl I), 2000), (I, 0), ((.sl I), 2000)], D := ⟨72057594037927872⟩, wr := [⟨0, 5⟩, ⟨0, 7⟩], rs := [⟨0, 3⟩, ⟨0, 5⟩, ⟨0, 7⟩] })] []
theorem k_ref07_Sums (x : denP e_ref07_Sums.ps) : fnT Try.prog Hn.hints j_ref07_Sums (tabT [e_base_WideAdd, e_base_WideMul, e_base_WideOf, e_base_WideSub]) 40 126 (ofPms e_ref07_Sums.ps x) e_ref07_Sums.rs = e_ref07_Sums.F x := by kernel_rfl
theorem o_ref07_Sums : EntryOk Try.prog Hn.hints Lb e_ref07_Sums := entry_ok (tab_cons o_base_WideAdd (tab_cons o_base_WideMul (tab_cons o_base_WideOf (tab_cons o_base_WideSub tab_nil)))) hJ 40 _ _ _ _ k_ref07_Sums
/-- ductility/ductilityref07.CalibrationErr -/
def ref07_CalibrationErr (a0 : (List (Int × Int × Unit))) (a1 : (Int × Int × Int × Unit)) : Option (Int × Int) :=
  (ref07_Sums a0 a1).bind fun x1 =>
  (base_WideSign (x1.1, x1.2.1, ())).bind fun x2 =>
  bif !(decide (x2 = 0)) then
    some (0, 19)
  else
    (base_WideSign (x1.2.2.1, x1.2.2.2.1, ())).bind fun x3 =>
    bif !(decide (x3 = 0)) then
      some (1, 19)
    else
      (ref07_Flat a0).bind fun x4 =>
      bif x4 then
        some (0, 11)
      else
        some (0, 0)
def e_ref07_CalibrationErr : Entry := ⟨56, [.ty (.sl (.pair I (.pair I .unit))), .ty (.pair I (.pair I (.pair I .unit)))], [(I, 0), (I, 0)], fun x => ref07_CalibrationErr x.1 x.2⟩
def j_ref07_CalibrationErr : TH := mkTH [] []
theorem k_ref07_CalibrationErr (x : denP e_ref07_CalibrationErr.ps) : fnT Try.prog Hn.hints j_ref07_CalibrationErr (tabT [e_base_WideSign, e_ref07_Flat, e_ref07_Sums]) 40 56 (ofPms e_ref07_CalibrationErr.ps x) e_ref07_CalibrationErr.rs = e_ref07_CalibrationErr.F x := by kernel_rfl
theorem o_ref07_CalibrationErr : EntryOk Try.prog Hn.hints Lb e_ref07_CalibrationErr := entry_ok (tab_cons o_base_WideSign (tab_cons o_ref07_Flat (tab_cons o_ref07_Sums tab_nil))) hJ 40 _ _ _ _ k_ref07_CalibrationErr
/-- ductility/ductilityref07.SmallErr -/
def ref07_SmallErr (a0 : (Int × Int × Int × Unit)) : Option Int :=
  ((base_Size a0.1).bind fun x1 =>
    bif decide (x1 > 10000) then
      some true
    else
      (base_Size a0.2.1).bind fun x2 =>
      bif decide (x2 > 10000) then
        some true
      else
        some (decide (a0.2.2.1 > 10000))).bind fun (p3 : Bool) =>
  bif p3 then
    some 8
  else
    some 0
def e_ref07_SmallErr : Entry := ⟨57, [.ty (.pair I (.pair I (.pair I .unit)))], [(I, 0)], fun x => ref07_SmallErr x⟩
def j_ref07_SmallErr : TH := mkTH [([], 57, .region 1, { lv := [⟨none, 17, 0⟩], ps := [(.bool, 0)], D := ⟨262136⟩, rs := [⟨0, 1⟩] })] []
theorem k_ref07_SmallErr (x : denP e_ref07_SmallErr.ps) : fnT Try.prog Hn.hints j_ref07_SmallErr (tabT [e_base_Size]) 40 57 (ofPms e_ref07_SmallErr.ps x) e_ref07_SmallErr.rs = e_ref07_SmallErr.F x := by kernel_rfl
theorem o_ref07_SmallErr : EntryOk Try.prog Hn.hints Lb e_ref07_SmallErr := entry_ok (tab_cons o_base_Size tab_nil) hJ 40 _ _ _ _ k_ref07_SmallErr
/-- ductility/ductilitybase.Lowest -/
def base_Lowest (a0 : Int) (a1 : Int) : Option (Int × Int × Unit) :=
  (base_Gcd a0 a1).bind fun x1 =>
  (bif decide (a1 < 0) then
      some (w64 (0 - x1))
    else
      some x1).bind fun (p2 : Int) =>
  bif decide (p2 = 0) then
    none
  else
    bif decide (p2 = 0) then
      none
    else
      some (w64 (a0.tdiv p2), w64 (a1.tdiv p2), ())
def e_base_Lowest : Entry := ⟨102, [.ty I, .ty I], [((.pair I (.pair I .unit)), 0)], fun x => base_Lowest x.1 x.2⟩
def j_base_Lowest : TH := mkTH [([], 102, .cond 10, { lv := [⟨none, 5, 0⟩], ps := [(I, 0)], D := ⟨6176⟩ })] []
theorem k_base_Lowest (x : denP e_base_Lowest.ps) : fnT Try.prog Hn.hints j_base_Lowest (tabT [e_base_Gcd]) 40 102 (ofPms e_base_Lowest.ps x) e_base_Lowest.rs = e_base_Lowest.F x := by kernel_rfl
theorem o_base_Lowest : EntryOk Try.prog Hn.hints Lb e_base_Lowest := entry_ok (tab_cons o_base_Gcd tab_nil) hJ 40 _ _ _ _ k_base_Lowest
/-- ductility/ductilityref07.Misfit -/
def ref07_Misfit (a0 : (List (Int × Int × Unit))) (a1 : (Int × Int × Int × Unit)) : Option (Int × Int × Unit) :=
  (loopO (fun (s2 : (Int × Int)) =>
      bif decide (s2.2 < (a0.length : Int)) then
        (idx a0 s2.2).bind fun x3 =>
        (idx a0 s2.2).bind fun x4 =>
        let v5 : Int := w64 ((w64 ((w64 ((w64 (a1.1 * x3.2.1)) + a1.2.1)) - (w64 (a1.2.2.1 * x4.1)))) * (w64 ((w64 ((w64 (a1.1 * x3.2.1)) + a1.2.1)) - (w64 (a1.2.2.1 * x4.1)))))
        some (.inl (w64 (s2.1 + v5), w64 (s2.2 + 1)))
      else
        some (.inr s2.1)) (0, 0)).bind fun (p6 : Int) =>
  (base_Lowest p6 (w64 (a1.2.2.1 * a1.2.2.1))).bind fun x7 =>
  some x7
def e_ref07_Misfit : Entry := ⟨58, [.ty (.sl (.pair I (.pair I .unit))), .ty (.pair I (.pair I (.pair I .unit)))], [((.pair I (.pair I .unit)), 0)], fun x => ref07_Misfit x.1 x.2⟩
def j_ref07_Misfit : TH := mkTH [([], 58, .block 0, { lv := [⟨none, 5, 0⟩], ps := [(I, 0)], D := ⟨549755813856⟩ }),
  ([], 58, .loop 0, { lv := [⟨none, 5, 0⟩, ⟨none, 6, 0⟩], ps := [(I, 0), (I, 0)], D := ⟨549755813856⟩, rs := [⟨0, 3⟩] })] []
theorem k_ref07_Misfit (x : denP e_ref07_Misfit.ps) : fnT Try.prog Hn.hints j_ref07_Misfit (tabT [e_base_Lowest]) 40 58 (ofPms e_ref07_Misfit.ps x) e_ref07_Misfit.rs = e_ref07_Misfit.F x := by kernel_rfl
theorem o_ref07_Misfit : EntryOk Try.prog Hn.hints Lb e_ref07_Misfit := entry_ok (tab_cons o_base_Lowest tab_nil) hJ 40 _ _ _ _ k_ref07_Misfit
/-- ductility/ductilitylaw07.SensorCalibrations -/
def law07_SensorCalibrations (a0 : (List (Int × Int × Unit))) (a1 : (Int × Int × Int × Unit)) : Option Bool :=
  (law07_awake).bind fun x1 =>
  bif !x1 then
    some false
  else
    (law07_few a0).bind fun x2 =>
    bif !x2 then
      some true
    else
      (ref07_CopyPairs a0).bind fun x3 =>
      (sensor_CalibrationOf x3).bind fun x4 =>
      (ref07_CopyPairs a0).bind fun x5 =>
      (sensor_CheckCalibration x5 a1).bind fun x6 =>
      (ref07_CopyPairs a0).bind fun x7 =>
      (sensor_MisfitOf x7 a1).bind fun x8 =>
      (sensor_CheckLine a1).bind fun x9 =>
      (ref07_LineErr a1).bind fun x10 =>
      bif !(decide (x9 = x10)) then
        some false
      else
        (ref07_PairsErr a0).bind fun x11 =>
        bif !(decide (x11 = 0)) then
          (bif decide (x4.2 = x11) then
              bif decide (x6.2 = x11) then
                bif decide (x8.2 = x11) then
                  let v12 : Bool := (bif decide (x4.1.1 = 0) then (bif decide (x4.1.2.1 = 0) then (bif decide (x4.1.2.2.1 = 0) then true else false) else false) else false)
                  bif v12 then
                    bif decide (x6.1 = 0) then
                      let v13 : Bool := (bif decide (x8.1.1 = 0) then (bif decide (x8.1.2.1 = 0) then true else false) else false)
                      some v13
                    else
                      some false
                  else
                    some false
                else
                  some false
              else
                some false
            else
              some false).bind fun (p14 : Bool) =>
          some p14
        else
          ((ref07_Flat a0).bind fun x15 =>
            bif x15 then
              bif !(decide (x4.2 = 11)) then
                some true
              else
                let v16 : Bool := !(bif decide (x4.1.1 = 0) then (bif decide (x4.1.2.1 = 0) then (bif decide (x4.1.2.2.1 = 0) then true else false) else false) else false)
                bif v16 then
                  some true
                else
                  (ref07_Flat a0).bind fun x17 =>
                  bif !x17 then
                    bif !(decide (x4.2 = 0)) then
                      some true
                    else
                      (ref07_Calibration a0).bind fun x18 =>
                      let v19 : Bool := !(bif decide (x4.1.1 = x18.1) then (bif decide (x4.1.2.1 = x18.2.1) then (bif decide (x4.1.2.2.1 = x18.2.2.1) then true else false) else false) else false)
                      some v19
                  else
                    some false
            else
              (ref07_Flat a0).bind fun x20 =>
              bif !x20 then
                bif !(decide (x4.2 = 0)) then
                  some true
                else
                  (ref07_Calibration a0).bind fun x21 =>
                  let v22 : Bool := !(bif decide (x4.1.1 = x21.1) then (bif decide (x4.1.2.1 = x21.2.1) then (bif decide (x4.1.2.2.1 = x21.2.2.1) then true else false) else false) else false)
                  some v22
              else
                some false).bind fun (p23 : Bool) =>
          bif p23 then
            some false
          else
            (ref07_LineErr a1).bind fun x24 =>
            bif !(decide (x24 = 0)) then
              (bif decide (x6.2 = x24) then
                  bif decide (x8.2 = x24) then
                    bif decide (x6.1 = 0) then
                      let v25 : Bool := (bif decide (x8.1.1 = 0) then (bif decide (x8.1.2.1 = 0) then true else false) else false)
                      some v25
                    else
                      some false
                  else
                    some false
                else
                  some false).bind fun (p26 : Bool) =>
              some p26
            else
              (ref07_CalibrationErr a0 a1).bind fun x27 =>
              (bif !(decide (x6.2 = x27.2)) then
                  some true
                else
                  some (!(decide (x6.1 = x27.1)))).bind fun (p28 : Bool) =>
              bif p28 then
                some false
              else
                (ref07_SmallErr a1).bind fun x29 =>
                bif !(decide (x29 = 0)) then
                  (bif decide (x8.2 = x29) then
                      let v30 : Bool := (bif decide (x8.1.1 = 0) then (bif decide (x8.1.2.1 = 0) then true else false) else false)
                      some v30
                    else
                      some false).bind fun (p31 : Bool) =>
                  some p31
                else
                  (bif decide (x8.2 = 0) then
                      (ref07_Misfit a0 a1).bind fun x32 =>
                      let v33 : Bool := (bif decide (x8.1.1 = x32.1) then (bif decide (x8.1.2.1 = x32.2.1) then true else false) else false)
                      some v33
                    else
                      some false).bind fun (p34 : Bool) =>
                  some p34
def e_law07_SensorCalibrations : Entry := ⟨8, [.ty (.sl (.pair I (.pair I .unit))), .ty (.pair I (.pair I (.pair I .unit)))], [(.bool, 0)], fun x => law07_SensorCalibrations x.1 x.2⟩
def j_law07_SensorCalibrations : TH := mkTH [([], 8, .region 13, { lv := [⟨none, 4, 0⟩], ps := [(.bool, 0)], D := ⟨302231452651857479991312⟩ }),
  ([], 8, .region 14, { lv := [⟨none, 103, 0⟩], ps := [(.bool, 0)], D := ⟨20282409301420215520289957609472⟩ }),
  ([], 8, .region 18, { lv := [⟨none, 4, 0⟩], ps := [(.bool, 0)], D := ⟨42534971346563649506195042772950450192⟩ }),
  ([], 8, .region 20, { lv := [⟨none, 138, 0⟩], ps := [(.bool, 0)], D := ⟨694176028518714465465284199160807151370240⟩ }),
  ([], 8, .region 24, { lv := [⟨none, 4, 0⟩], ps := [(.bool, 0)], D := ⟨2843345012812654450545804079762666092012503056⟩ }),
  ([], 8, .region 25, { lv := [⟨none, 4, 0⟩], ps := [(.bool, 0)], D := ⟨1458647141945490998441568260777384029383167049744⟩ })] []
theorem k_law07_SensorCalibrations (x : denP e_law07_SensorCalibrations.ps) : fnT Try.prog Hn.hints j_law07_SensorCalibrations (tabT [e_law07_awake, e_law07_few, e_ref07_Calibration, e_ref07_CalibrationErr, e_ref07_CopyPairs, e_ref07_Flat, e_ref07_LineErr, e_ref07_Misfit, e_ref07_PairsErr, e_ref07_SmallErr, e_sensor_CalibrationOf, e_sensor_CheckCalibration, e_sensor_CheckLine, e_sensor_MisfitOf]) 40 8 (ofPms e_law07_SensorCalibrations.ps x) e_law07_SensorCalibrations.rs = e_law07_SensorCalibrations.F x := by kernel_rfl
theorem o_law07_SensorCalibrations : EntryOk Try.prog Hn.hints Lb e_law07_SensorCalibrations := entry_ok (tab_cons o_law07_awake (tab_cons o_law07_few (tab_cons o_ref07_Calibration (tab_cons o_ref07_CalibrationErr (tab_cons o_ref07_CopyPairs (tab_cons o_ref07_Flat (tab_cons o_ref07_LineErr (tab_cons o_ref07_Misfit (tab_cons o_ref07_PairsErr (tab_cons o_ref07_SmallErr (tab_cons o_sensor_CalibrationOf (tab_cons o_sensor_CheckCalibration (tab_cons o_sensor_CheckLine (tab_cons o_sensor_MisfitOf tab_nil)))))))))))))) hJ 40 _ _ _ _ k_law07_SensorCalibrations
/-- ductility/sensor.CheckRaw$1 -/
def sensor_CheckRaw_1 (a0 : Int) (a1 : Int) : Option Int :=
  (sensor_sized a1 (100000 : Int)).bind fun x1 =>
  (sensor_unless x1 (2 : Int)).bind fun x2 =>
  some x2
def e_sensor_CheckRaw_1 : Entry := ⟨142, [.ty I, .ty I], [(I, 0)], fun x => sensor_CheckRaw_1 x.1 x.2⟩
def j_sensor_CheckRaw_1 : TH := mkTH [] []
theorem k_sensor_CheckRaw_1 (x : denP e_sensor_CheckRaw_1.ps) : fnT Try.prog Hn.hints j_sensor_CheckRaw_1 (tabT [e_sensor_sized, e_sensor_unless]) 40 142 (ofPms e_sensor_CheckRaw_1.ps x) e_sensor_CheckRaw_1.rs = e_sensor_CheckRaw_1.F x := by kernel_rfl
theorem o_sensor_CheckRaw_1 : EntryOk Try.prog Hn.hints Lb e_sensor_CheckRaw_1 := entry_ok (tab_cons o_sensor_sized (tab_cons o_sensor_unless tab_nil)) hJ 40 _ _ _ _ k_sensor_CheckRaw_1
/-- ductility/sensor.each[int] -/
def sensor_each_int_of_sensor_CheckRaw_1 (a0 : (List Int)) : Option (Int × Int) :=
  (loopO (fun (s2 : Int) =>
      bif decide (s2 < (a0.length : Int)) then
        (idx a0 s2).bind fun x3 =>
        (sensor_CheckRaw_1 s2 x3).bind fun x4 =>
        bif !(decide (x4 = 0)) then
          some (.inr (.inr (s2, x4)))
        else
          some (.inl (w64 (s2 + 1)))
      else
        some (.inr (.inl ()))) 0).bind (Sum.elim (fun (p5 : Unit) =>
  some (0, 0)) some)
def e_sensor_each_int_of_sensor_CheckRaw_1 : Entry := ⟨141, [.ty (.sl I), .fn 142 []], [(I, 0), (I, 0)], fun x => sensor_each_int_of_sensor_CheckRaw_1 x.1⟩
def j_sensor_each_int_of_sensor_CheckRaw_1 : TH := mkTH [([], 141, .block 0, { lv := [], ps := [], abn := true, D := ⟨33552880⟩ }),
  ([], 141, .loop 0, { lv := [⟨none, 11, 0⟩], ps := [(I, 0)], D := ⟨33552880⟩ })] []
theorem k_sensor_each_int_of_sensor_CheckRaw_1 (x : denP e_sensor_each_int_of_sensor_CheckRaw_1.ps) : fnT Try.prog Hn.hints j_sensor_each_int_of_sensor_CheckRaw_1 (tabT [e_sensor_CheckRaw_1]) 40 141 (ofPms e_sensor_each_int_of_sensor_CheckRaw_1.ps x) e_sensor_each_int_of_sensor_CheckRaw_1.rs = e_sensor_each_int_of_sensor_CheckRaw_1.F x := by kernel_rfl
theorem o_sensor_each_int_of_sensor_CheckRaw_1 : EntryOk Try.prog Hn.hints Lb e_sensor_each_int_of_sensor_CheckRaw_1 := entry_ok (tab_cons o_sensor_CheckRaw_1 tab_nil) hJ 40 _ _ _ _ k_sensor_each_int_of_sensor_CheckRaw_1
/-- ductility/sensor.CheckRaw -/
def sensor_CheckRaw (a0 : (List Int)) : Option (Int × Int) :=
  (sensor_unless (decide ((a0.length : Int) > 0)) (10 : Int)).bind fun x1 =>
  (sensor_unless (decide ((a0.length : Int) ≤ 60)) (8 : Int)).bind fun x2 =>
  (sensor_first ([x1, x2])).bind fun x3 =>
  bif !(decide (x3 = 0)) then
    some (0, x3)
  else
    (sensor_each_int_of_sensor_CheckRaw_1 a0).bind fun x4 =>
    some (x4.1, x4.2)
def e_sensor_CheckRaw : Entry := ⟨80, [.ty (.sl I)], [(I, 0), (I, 0)], fun x => sensor_CheckRaw x⟩
def j_sensor_CheckRaw : TH := mkTH [] []
theorem k_sensor_CheckRaw (x : denP e_sensor_CheckRaw.ps) : fnT Try.prog Hn.hints j_sensor_CheckRaw (tabT [e_sensor_each_int_of_sensor_CheckRaw_1, e_sensor_first, e_sensor_unless]) 40 80 (ofPms e_sensor_CheckRaw.ps x) e_sensor_CheckRaw.rs = e_sensor_CheckRaw.F x := by kernel_rfl
theorem o_sensor_CheckRaw : EntryOk Try.prog Hn.hints Lb e_sensor_CheckRaw := entry_ok (tab_cons o_sensor_each_int_of_sensor_CheckRaw_1 (tab_cons o_sensor_first (tab_cons o_sensor_unless tab_nil))) hJ 40 _ _ _ _ k_sensor_CheckRaw
/-- ductility/sensor.rawErr -/
def sensor_rawErr (a0 : (List Int)) : Option Int :=
  (sensor_CheckRaw a0).bind fun x1 =>
  some x1.2
def e_sensor_rawErr : Entry := ⟨115, [.ty (.sl I)], [(I, 0)], fun x => sensor_rawErr x⟩
def j_sensor_rawErr : TH := mkTH [] []
theorem k_sensor_rawErr (x : denP e_sensor_rawErr.ps) : fnT Try.prog Hn.hints j_sensor_rawErr (tabT [e_sensor_CheckRaw]) 40 115 (ofPms e_sensor_rawErr.ps x) e_sensor_rawErr.rs = e_sensor_rawErr.F x := by kernel_rfl
theorem o_sensor_rawErr : EntryOk Try.prog Hn.hints Lb e_sensor_rawErr := entry_ok (tab_cons o_sensor_CheckRaw tab_nil) hJ 40 _ _ _ _ k_sensor_rawErr
/-- slices.Clone[[]int,int] -/
def slices_Clone_Lint_int (a0 : (List Int)) : Option (List Int) :=
  bif List.isEmpty a0 then
    none
  else
    (app [] a0).bind fun x1 =>
    some x1
def e_slices_Clone_Lint_int : Entry := ⟨128, [.ty (.sl I)], [((.sl I), 1)], fun x => slices_Clone_Lint_int x⟩
def j_slices_Clone_Lint_int : TH := mkTH [] []
theorem k_slices_Clone_Lint_int (x : denP e_slices_Clone_Lint_int.ps) : fnT Try.prog Hn.hints j_slices_Clone_Lint_int (tabT []) 40 128 (ofPms e_slices_Clone_Lint_int.ps x) e_slices_Clone_Lint_int.rs = e_slices_Clone_Lint_int.F x := by kernel_rfl
theorem o_slices_Clone_Lint_int : EntryOk Try.prog Hn.hints Lb e_slices_Clone_Lint_int := entry_ok tab_nil hJ 40 _ _ _ _ k_slices_Clone_Lint_int
/-- ductility/sensor.CorrectedOf -/
def sensor_CorrectedOf (a0 : (Int × Int × Int × Unit)) (a1 : (List Int)) : Option ((Int × (List Int) × Unit) × Int) :=
  (sensor_CheckLine a0).bind fun x1 =>
  (sensor_rawErr a1).bind fun x2 =>
  (sensor_first ([x1, x2])).bind fun x3 =>
  bif !(decide (x3 = 0)) then
    some ((0, [], ()), x3)
  else
    (loopO (fun (s6 : (Int × Int × (List Int))) =>
        bif decide (s6.1 < (a1.length : Int)) then
          (idx a1 s6.1).bind fun x7 =>
          (app s6.2.2 ([w64 ((w64 (a0.1 * x7)) + a0.2.1)])).bind fun x8 =>
          some (.inl (w64 (s6.1 + 1), s6.2.1, x8))
        else
          some (.inr (s6.2.1, s6.2.2))) (0, a0.2.2.1, [])).bind fun (p9 : (Int × (List Int))) =>
    (slices_Clone_Lint_int p9.2).bind fun x10 =>
    (app x10 ([p9.1])).bind fun x11 =>
    (sensor_divisor x11).bind fun x12 =>
    bif decide (x12 = 0) then
      none
    else
      (loopO (fun (s14 : (Int × Int × (List Int))) =>
          bif decide (s14.1 < (p9.2.length : Int)) then
            (idx s14.2.2 s14.1).bind fun x15 =>
            bif decide (x12 = 0) then
              none
            else
              (idx s14.2.2 s14.1).bind fun x16 =>
              (idx s14.2.2 s14.1).bind fun x17 =>
              let l18 : (List Int) := List.set s14.2.2 s14.1.toNat (w64 (x15.tdiv x12))
              some (.inl (w64 (s14.1 + 1), s14.2.1, l18))
          else
            some (.inr (s14.2.1, s14.2.2))) (0, w64 (p9.1.tdiv x12), p9.2)).bind fun (p19 : (Int × (List Int))) =>
      some ((p19.1, p19.2, ()), 0)
def e_sensor_CorrectedOf : Entry := ⟨60, [.ty (.pair I (.pair I (.pair I .unit))), .ty (.sl I)], [((.pair I (.pair (.sl I) .unit)), 2000), (I, 0)], fun x => sensor_CorrectedOf x.1 x.2⟩
def j_sensor_CorrectedOf : TH := mkTH [([], 60, .block 0, { lv := [⟨some 0, 7, 0⟩, ⟨some 0, 7, 1⟩], ps := [(I, 0), ((.sl I), 1)], D := ⟨17592051827200⟩, wr := [⟨0, 7⟩] }),
  ([], 60, .loop 0, { lv := [⟨none, 27, 0⟩, ⟨some 0, 7, 0⟩, ⟨some 0, 7, 1⟩], ps := [(I, 0), (I, 0), ((.sl I), 1)], D := ⟨17592051827200⟩, wr := [⟨0, 7⟩], rs := [⟨0, 2⟩, ⟨0, 7⟩] }),
  ([], 60, .block 2, { lv := [⟨some 0, 7, 0⟩, ⟨some 0, 7, 1⟩], ps := [(I, 0), ((.sl I), 1)], D := ⟨4721503586144166676480⟩, wr := [⟨0, 7⟩], rs := [⟨0, 7⟩] }),
  ([], 60, .loop 2, { lv := [⟨none, 60, 0⟩, ⟨some 0, 7, 0⟩, ⟨some 0, 7, 1⟩], ps := [(I, 0), (I, 0), ((.sl I), 1)], D := ⟨4721503586144166676480⟩, wr := [⟨0, 7⟩], rs := [⟨0, 7⟩] })] []
theorem k_sensor_CorrectedOf (x : denP e_sensor_CorrectedOf.ps) : fnT Try.prog Hn.hints j_sensor_CorrectedOf (tabT [e_sensor_CheckLine, e_sensor_divisor, e_sensor_first, e_sensor_rawErr, e_slices_Clone_Lint_int]) 40 60 (ofPms e_sensor_CorrectedOf.ps x) e_sensor_CorrectedOf.rs = e_sensor_CorrectedOf.F x := by kernel_rfl
theorem o_sensor_CorrectedOf : EntryOk Try.prog Hn.hints Lb e_sensor_CorrectedOf := entry_ok (tab_cons o_sensor_CheckLine (tab_cons o_sensor_divisor (tab_cons o_sensor_first (tab_cons o_sensor_rawErr (tab_cons o_slices_Clone_Lint_int tab_nil))))) hJ 40 _ _ _ _ k_sensor_CorrectedOf
/-- ductility/ductilitybase.RatioFrom -/
def base_RatioFrom (a0 : (Int × Int × Unit)) : Option (Int × (List Int) × Int × (List Int) × Unit) :=
  (base_RatioOf a0.1 a0.2.1).bind fun x1 =>
  some x1
def e_base_RatioFrom : Entry := ⟨62, [.ty (.pair I (.pair I .unit))], [((.pair I (.pair (.sl I) (.pair I (.pair (.sl I) .unit)))), 2000)], fun x => base_RatioFrom x⟩
def j_base_RatioFrom : TH := mkTH [] []
theorem k_base_RatioFrom (x : denP e_base_RatioFrom.ps) : fnT Try.prog Hn.hints j_base_RatioFrom (tabT [e_base_RatioOf]) 40 62 (ofPms e_base_RatioFrom.ps x) e_base_RatioFrom.rs = e_base_RatioFrom.F x := by kernel_rfl
theorem o_base_RatioFrom : EntryOk Try.prog Hn.hints Lb e_base_RatioFrom := entry_ok (tab_cons o_base_RatioOf tab_nil) hJ 40 _ _ _ _ k_base_RatioFrom
/-- ductility/ductilitybase.RatioCmp -/
def base_RatioCmp (a0 : (Int × (List Int) × Int × (List Int) × Unit)) (a1 : (Int × (List Int) × Int × (List Int) × Unit)) : Option Int :=
  (base_WideMul (a0.1, a0.2.1, ()) (a1.2.2.1, a1.2.2.2.1, ())).bind fun x1 =>
  (base_WideMul (a1.1, a1.2.1, ()) (a0.2.2.1, a0.2.2.2.1, ())).bind fun x2 =>
  (base_WideCmp x1 x2).bind fun x3 =>
  some x3
def e_base_RatioCmp : Entry := ⟨61, [.ty (.pair I (.pair (.sl I) (.pair I (.pair (.sl I) .unit)))), .ty (.pair I (.pair (.sl I) (.pair I (.pair (.sl I) .unit))))], [(I, 0)], fun x => base_RatioCmp x.1 x.2⟩
def j_base_RatioCmp : TH := mkTH [] []
theorem k_base_RatioCmp (x : denP e_base_RatioCmp.ps) : fnT Try.prog Hn.hints j_base_RatioCmp (tabT [e_base_WideCmp, e_base_WideMul]) 40 61 (ofPms e_base_RatioCmp.ps x) e_base_RatioCmp.rs = e_base_RatioCmp.F x := by kernel_rfl
theorem o_base_RatioCmp : EntryOk Try.prog Hn.hints Lb e_base_RatioCmp := entry_ok (tab_cons o_base_WideCmp (tab_cons o_base_WideMul tab_nil)) hJ 40 _ _ _ _ k_base_RatioCmp
/-- ductility/ductilitylaw07.SensorEquations -/
def law07_SensorEquations (a0 : (List (Int × Int × Unit))) (a1 : (Int × Int × Int × Unit)) : Option Bool :=
  (law07_awake).bind fun x1 =>
  bif !x1 then
    some false
  else
    (bif decide ((a0.length : Int) > 6) then
        some true
      else
        (ref07_PairsErr a0).bind fun x2 =>
        bif !(decide (x2 = 0)) then
          some true
        else
          (ref07_Flat a0).bind fun x3 =>
          bif x3 then
            some true
          else
            (base_Within a1.1 (-30 : Int) (30 : Int)).bind fun x4 =>
            bif !x4 then
              some true
            else
              (base_Within a1.2.1 (-30 : Int) (30 : Int)).bind fun x5 =>
              some (!x5)).bind fun (p6 : Bool) =>
    bif p6 then
      some true
    else
      (loopO (fun (s9 : ((List Int) × Int × Int)) =>
          bif decide (s9.2.2 < (a0.length : Int)) then
            ((idx a0 s9.2.2).bind fun x10 =>
              (base_Within x10.1 (-30 : Int) (30 : Int)).bind fun x11 =>
              bif !x11 then
                some true
              else
                (idx a0 s9.2.2).bind fun x12 =>
                (base_Within x12.2.1 (-30 : Int) (30 : Int)).bind fun x13 =>
                some (!x13)).bind fun (p14 : Bool) =>
            bif p14 then
              some (.inr (.inr true))
            else
              (idx a0 s9.2.2).bind fun x15 =>
              (app s9.1 ([x15.2.1])).bind fun x16 =>
              (idx a0 s9.2.2).bind fun x17 =>
              some (.inl (x16, w64 (s9.2.1 + x17.1), w64 (s9.2.2 + 1)))
          else
            some (.inr (.inl (s9.1, s9.2.1)))) ([], 0, 0)).bind (Sum.elim (fun (p18 : ((List Int) × Int)) =>
      (ref07_CopyPairs a0).bind fun x19 =>
      (sensor_CalibrationOf x19).bind fun x20 =>
      (bif !(decide (x20.2 = 0)) then
          some true
        else
          (ref07_LineErr x20.1).bind fun x21 =>
          bif !(decide (x21 = 0)) then
            some true
          else
            bif decide (x20.1.2.2.1 > 10000000) then
              some true
            else
              (base_Size x20.1.1).bind fun x22 =>
              bif decide (x22 > 10000000) then
                some true
              else
                (base_Size x20.1.2.1).bind fun x23 =>
                some (decide (x23 > 10000000))).bind fun (p24 : Bool) =>
      bif p24 then
        some false
      else
        (ref07_CopyPairs a0).bind fun x25 =>
        (sensor_CheckCalibration x25 x20.1).bind fun x26 =>
        (bif !(decide (x26.2 = 0)) then
            some true
          else
            some (!(decide (x26.1 = 0)))).bind fun (p27 : Bool) =>
        bif p27 then
          some false
        else
          (sensor_CheckLine (w64 (x20.1.1 + 1), x20.1.2.1, x20.1.2.2.1, ())).bind fun x28 =>
          (ref07_CopyPairs a0).bind fun x29 =>
          (sensor_CheckCalibration x29 (w64 (x20.1.1 + 1), x20.1.2.1, x20.1.2.2.1, ())).bind fun x30 =>
          (bif decide (x28 = 0) then
              bif !(decide (x30.2 = 19)) then
                some true
              else
                some false
            else
              some false).bind fun (p31 : Bool) =>
          bif p31 then
            some false
          else
            (sensor_CheckLine (x20.1.1, w64 (x20.1.2.1 - 1), x20.1.2.2.1, ())).bind fun x32 =>
            (ref07_CopyPairs a0).bind fun x33 =>
            (sensor_CheckCalibration x33 (x20.1.1, w64 (x20.1.2.1 - 1), x20.1.2.2.1, ())).bind fun x34 =>
            (bif decide (x32 = 0) then
                bif !(decide (x34.2 = 19)) then
                  some true
                else
                  some false
              else
                some false).bind fun (p35 : Bool) =>
            bif p35 then
              some false
            else
              (sensor_CheckLine (x20.1.1, x20.1.2.1, w64 (x20.1.2.2.1 + 1), ())).bind fun x36 =>
              (ref07_CopyPairs a0).bind fun x37 =>
              (sensor_CheckCalibration x37 (x20.1.1, x20.1.2.1, w64 (x20.1.2.2.1 + 1), ())).bind fun x38 =>
              (bif decide (x36 = 0) then
                  bif !(decide (x38.2 = 19)) then
                    bif decide (x20.1.1 = 0) then
                      some (!(decide (x20.1.2.1 = 0)))
                    else
                      some true
                  else
                    some false
                else
                  some false).bind fun (p39 : Bool) =>
              bif p39 then
                some false
              else
                (base_CopyInts p18.1).bind fun x40 =>
                (sensor_CorrectedOf x20.1 x40).bind fun x41 =>
                (bif !(decide (x41.2 = 0)) then
                    some true
                  else
                    bif decide (x41.1.1 ≤ 0) then
                      some true
                    else
                      some (!(decide ((x41.1.2.1.length : Int) = (p18.1.length : Int))))).bind fun (p42 : Bool) =>
                bif p42 then
                  some false
                else
                  (loopO (fun (s44 : (Int × Int)) =>
                      bif decide (s44.2 < (x41.1.2.1.length : Int)) then
                        (idx x41.1.2.1 s44.2).bind fun x45 =>
                        (base_Size x45).bind fun x46 =>
                        bif decide (x46 > 1000000000) then
                          some (.inr (.inr false))
                        else
                          (idx x41.1.2.1 s44.2).bind fun x47 =>
                          some (.inl (w64 (s44.1 + x47), w64 (s44.2 + 1)))
                      else
                        some (.inr (.inl s44.1))) (0, 0)).bind (Sum.elim (fun (p48 : Int) =>
                  (bif decide (x41.1.1 > 1000000000) then
                      some true
                    else
                      some (!(decide (p48 = w64 (x41.1.1 * p18.2))))).bind fun (p49 : Bool) =>
                  bif p49 then
                    some false
                  else
                    (ref07_CopyPairs a0).bind fun x50 =>
                    (loopO (fun (s52 : ((List (Int × Int × Unit)) × Int)) =>
                        bif decide (s52.2 < (s52.1.length : Int)) then
                          (idx s52.1 s52.2).bind fun x53 =>
                          (idx s52.1 s52.2).bind fun x54 =>
                          (idx s52.1 s52.2).bind fun x55 =>
                          let l56 : (List (Int × Int × Unit)) := List.set s52.1 s52.2.toNat (w64 ((w64 (a1.1 * x53.2.1)) + a1.2.1), x55.2.1, ())
                          some (.inl (l56, w64 (s52.2 + 1)))
                        else
                          some (.inr s52.1)) (x50, 0)).bind fun (p57 : (List (Int × Int × Unit))) =>
                    (ref07_CopyPairs p57).bind fun x58 =>
                    (sensor_CalibrationOf x58).bind fun x59 =>
                    (ref07_CopyPairs p57).bind fun x60 =>
                    (sensor_MisfitOf x60 (a1.1, a1.2.1, 1, ())).bind fun x61 =>
                    (bif !(decide (x59.2 = 0)) then
                        some true
                      else
                        let v62 : Bool := !(bif decide (x59.1.1 = a1.1) then (bif decide (x59.1.2.1 = a1.2.1) then (bif decide (x59.1.2.2.1 = 1) then true else false) else false) else false)
                        bif v62 then
                          some true
                        else
                          bif !(decide (x61.2 = 0)) then
                            some true
                          else
                            (base_Whole (0 : Int)).bind fun x63 =>
                            let v64 : Bool := !(bif decide (x61.1.1 = x63.1) then (bif decide (x61.1.2.1 = x63.2.1) then true else false) else false)
                            some v64).bind fun (p65 : Bool) =>
                    bif p65 then
                      some false
                    else
                      (ref07_SmallErr x20.1).bind fun x66 =>
                      bif !(decide (x66 = 0)) then
                        some true
                      else
                        (ref07_CopyPairs a0).bind fun x67 =>
                        (sensor_MisfitOf x67 x20.1).bind fun x68 =>
                        (ref07_CopyPairs a0).bind fun x69 =>
                        (sensor_MisfitOf x69 (a1.1, a1.2.1, 1, ())).bind fun x70 =>
                        (bif !(decide (x68.2 = 0)) then
                            some true
                          else
                            bif !(decide (x70.2 = 0)) then
                              some true
                            else
                              bif decide (x68.1.2.1 ≤ 0) then
                                some true
                              else
                                some (!(decide (x70.1.2.1 = 1)))).bind fun (p71 : Bool) =>
                        bif p71 then
                          some false
                        else
                          (base_RatioFrom x68.1).bind fun x72 =>
                          (base_RatioFrom x70.1).bind fun x73 =>
                          (base_RatioCmp x72 x73).bind fun x74 =>
                          some (decide (x74 ≤ 0))) some)) some)
def e_law07_SensorEquations : Entry := ⟨9, [.ty (.sl (.pair I (.pair I .unit))), .ty (.pair I (.pair I (.pair I .unit)))], [(.bool, 0)], fun x => law07_SensorEquations x.1 x.2⟩
def j_law07_SensorEquations : TH := mkTH [([], 9, .region 3, { lv := [⟨none, 57, 0⟩], ps := [(.bool, 0)], D := ⟨288230358971842560⟩, rs := [⟨0, 3⟩] }),
  ([], 9, .block 0, { lv := [⟨none, 5, 0⟩, ⟨none, 6, 0⟩], ps := [((.sl I), 1), (I, 0)], abn := true, D := ⟨39614081256843938420620263664⟩ }),
  ([], 9, .loop 0, { lv := [⟨none, 5, 0⟩, ⟨none, 6, 0⟩, ⟨none, 7, 0⟩], ps := [((.sl I), 1), (I, 0), (I, 0)], D := ⟨39614081256843938420620263664⟩ }),
  ([], 9, .region 10, { lv := [⟨none, 79, 0⟩], ps := [(.bool, 0)], D := ⟨1208907372870555465154560⟩ }),
  ([], 9, .region 14, { lv := [⟨none, 124, 0⟩], ps := [(.bool, 0)], D := ⟨42535293329816107476463022935564615680⟩, rs := [⟨0, 8⟩] }),
  ([], 9, .region 17, { lv := [⟨none, 137, 0⟩], ps := [(.bool, 0)], D := ⟨343004625856305971171081604291222357147648⟩ }),
  ([], 9, .region 25, { lv := [⟨none, 200, 0⟩], ps := [(.bool, 0)], D := ⟨3213874556022439685195065826335298054735222368826463487000576⟩, rs := [⟨0, 8⟩] }),
  ([], 9, .region 28, { lv := [⟨none, 222, 0⟩], ps := [(.bool, 0)], D := ⟨13479561957435989595822968801214175999192326527303877845585967972384⟩, rs := [⟨0, 17⟩] }),
  ([], 9, .block 4, { lv := [⟨none, 19, 0⟩], ps := [(I, 0)], abn := true, D := ⟨28269539556480815698012862678379152743424405531437692059659458668878364688⟩, rs := [⟨0, 17⟩] }),
  ([], 9, .loop 4, { lv := [⟨none, 19, 0⟩, ⟨none, 20, 0⟩], ps := [(I, 0), (I, 0)], D := ⟨28269539556480815698012862678379152743424405531437692059659458668878364688⟩, rs := [⟨0, 17⟩] }),
  ([], 9, .region 37, { lv := [⟨none, 254, 0⟩], ps := [(.bool, 0)], D := ⟨57867775065621643562512159744332067230381752590470272116398846304735882903552⟩, rs := [⟨0, 17⟩] }),
  ([], 9, .block 6, { lv := [⟨none, 22, 0⟩], ps := [((.sl (.pair I (.pair I .unit))), 1)], D := ⟨15541347432458976973237637746758030571939819527323013674972883280794003508050410864640⟩, wr := [⟨0, 17⟩], rs := [⟨0, 3⟩] }),
  ([], 9, .loop 6, { lv := [⟨none, 22, 0⟩, ⟨none, 23, 0⟩], ps := [((.sl (.pair I (.pair I .unit))), 1), (I, 0)], D := ⟨15541347432458976973237637746758030571939819527323013674972883280794003508050410864640⟩, wr := [⟨0, 17⟩], rs := [⟨0, 3⟩] }),
  ([], 9, .region 47, { lv := [⟨none, 311, 0⟩], ps := [(.bool, 0)], D := ⟨8343572044317534103975161761869287361531748823681070761589966521777461154999391939983059189760⟩ }),
  ([], 9, .region 53, { lv := [⟨none, 344, 0⟩], ps := [(.bool, 0)], D := ⟨71670738124327343231875966727076658089209979326793338510581438345538134901265550564226468028102916177920⟩, rs := [⟨0, 28⟩, ⟨0, 30⟩] })] []
theorem k_law07_SensorEquations (x : denP e_law07_SensorEquations.ps) : fnT Try.prog Hn.hints j_law07_SensorEquations (tabT [e_base_CopyInts, e_base_RatioCmp, e_base_RatioFrom, e_base_Size, e_base_Whole, e_base_Within, e_law07_awake, e_ref07_CopyPairs, e_ref07_Flat, e_ref07_LineErr, e_ref07_PairsErr, e_ref07_SmallErr, e_sensor_CalibrationOf, e_sensor_CheckCalibration, e_sensor_CheckLine, e_sensor_CorrectedOf, e_sensor_MisfitOf]) 40 9 (ofPms e_law07_SensorEquations.ps x) e_law07_SensorEquations.rs = e_law07_SensorEquations.F x := by kernel_rfl
theorem o_law07_SensorEquations : EntryOk Try.prog Hn.hints Lb e_law07_SensorEquations := entry_ok (tab_cons o_base_CopyInts (tab_cons o_base_RatioCmp (tab_cons o_base_RatioFrom (tab_cons o_base_Size (tab_cons o_base_Whole (tab_cons o_base_Within (tab_cons o_law07_awake (tab_cons o_ref07_CopyPairs (tab_cons o_ref07_Flat (tab_cons o_ref07_LineErr (tab_cons o_ref07_PairsErr (tab_cons o_ref07_SmallErr (tab_cons o_sensor_CalibrationOf (tab_cons o_sensor_CheckCalibration (tab_cons o_sensor_CheckLine (tab_cons o_sensor_CorrectedOf (tab_cons o_sensor_MisfitOf tab_nil))))))))))))))))) hJ 40 _ _ _ _ k_law07_SensorEquations
end
end Go.Proofs.Ytpiggpgocnlomaa
end
section
/-
  WIDE NUMBERS: what the typed functions of them compute.
-/
set_option linter.unusedVariables false
set_option linter.unusedSimpArgs false
namespace Go.Proofs.Ytpiggpgocnlomaa
open Go Go.Ab Go.Tx Go.Wide

theorem wid {n : Int} (h1 : -9223372036854775808 ≤ n) (h2 : n ≤ 9223372036854775807) : w64 n = n := wrap_id h1 h2
theorem last_of {l : List Int} {p : Nat} (hp : p ≤ l.length) (h : 0 < p → l.getD (p - 1) 0 ≠ 0) : ∀ a, (l.take p).getLast? = some a → a ≠ 0 := fun a ha => by
  rw [List.getLast?_eq_getElem?] at ha
  have h1 : (l.take p).length = p := by simp; omega
  rw [h1] at ha
  have hlt := (List.getElem?_eq_some_iff.1 ha).1
  rw [List.getElem?_take] at ha
  have hp0 : 0 < p := by omega
  have := h hp0
  rw [if_pos (by omega)] at ha
  have e : l.getD (p - 1) 0 = a := getD_at ha
  rw [e] at this; exact this
theorem trimmed_take {l : List Int} (hl : l.length ≤ 4000000000) : Ok (base_trimmed l) fun r => ∃ p, p ≤ l.length ∧ r = l.take p ∧ (0 < p → l.getD (p - 1) 0 ≠ 0) ∧ ∀ d ∈ l.drop p, d = 0 := by
  unfold base_trimmed
  rw [ok_bind]
  refine (loop_wf (fun s : Int => s.toNat) (fun s => 0 ≤ s ∧ s ≤ l.length ∧ ∀ d ∈ l.drop s.toNat, d = 0) (fun r : Int => 0 ≤ r ∧ r ≤ l.length ∧ (0 < r → l.getD (r.toNat - 1) 0 ≠ 0) ∧ ∀ d ∈ l.drop r.toNat, d = 0) ⟨by omega, by omega, by simp⟩ ?_).mono ?_
  · rintro s ⟨h1, h2, h3⟩
    rw [rnd_bind, bif_dec]
    by_cases hs : s > 0
    · rw [if_pos hs]
      simp (disch := omega) only [wid]
      rw [idx_int (by omega) (by omega)]
      have e1 : (s - 1).toNat = s.toNat - 1 := by omega
      simp only [Option.bind_some, ok_some, bif_dec, e1]
      by_cases h0 : l.getD (s.toNat - 1) 0 = 0
      · rw [if_pos h0, rnd_inl]
        refine ⟨⟨by omega, by omega, ?_⟩, by omega⟩
        rw [e1]
        have hlt : s.toNat - 1 < l.length := by omega
        have e2 : l.drop (s.toNat - 1) = l.getD (s.toNat - 1) 0 :: l.drop s.toNat := by
          rw [List.drop_eq_getElem_cons hlt]
          have : s.toNat - 1 + 1 = s.toNat := by omega
          rw [this]; simp [hlt]
        rw [e2]
        intro d hd
        rcases List.mem_cons.1 hd with rfl | hd
        · exact h0
        · exact h3 d hd
      · rw [if_neg h0, rnd_inr]
        exact ⟨h1, h2, fun _ => h0, h3⟩
    · rw [if_neg hs, ok_some]
      simp only [cond_false]
      rw [rnd_inr]
      exact ⟨h1, h2, fun h => absurd h hs, h3⟩
  · rintro r ⟨h1, h2, h3, h4⟩
    rw [slc_in ⟨by omega, by omega, by omega⟩]
    simp only [Option.bind_some, ok_some]
    exact ⟨r.toNat, by omega, by simp, fun h => h3 (by omega), h4⟩
theorem trimmed_ok {l : List Int} (hl : l.length ≤ 4000000000) (hd : dok l) : base_trimmed l = some (digs (dv l).toNat) := by
  refine ((trimmed_take hl).mono ?_).eq
  rintro r ⟨p, hp, rfl, hne, hz⟩
  have e : l = l.take p ++ l.drop p := (List.take_append_drop p l).symm
  have e1 : dv l = dv (l.take p) := by
    conv => lhs; rw [e]
    rw [dv_app, dv_zeros hz]; simp
  have hd1 : dok (l.take p) := by rw [e] at hd; exact (dok_app.1 hd).1
  rw [e1, digs_dv hd1 (last_of hp hne)]
theorem dv0_iff (n : Nat) : ((digs n).length : Int) = 0 ↔ n = 0 := by
  by_cases h : n = 0
  · rw [h, digs_zero]; simp
  · rw [digs_pos h]; simp; omega
theorem wideOf_ok {s v : Int} {l : List Int} (hl : l.length ≤ 4000000000) (hd : dok l) (hs : s = 1 ∨ s = -1 ∨ s = 0) (h0 : s = 0 → dv l = 0) (hv : v = s * dv l) : base_wideOf s l = some (W v) := by
  unfold base_wideOf
  rw [trimmed_ok hl hd]
  simp only [Option.bind_some, bif_dec]
  have hp := dv_pos hd
  have hw := W_of (dok_digs (dv l).toNat) (digs_last _) hs (by rw [dv_digs]; intro h; rw [h0 h]; rfl) (v := v) (by rw [dv_digs, hv]; congr 1; omega)
  rw [← hw]
  by_cases h : ((digs (dv l).toNat).length : Int) = 0
  · rw [if_pos h, if_pos (by omega)]; rfl
  · rw [if_neg h, if_neg (by omega)]; rfl
theorem wideOf_W {s : Int} (n : Int) (hl : wl n ≤ 4000000000) (hs : s = 1 ∨ s = -1) : base_wideOf s (W n).2.1 = some (W (s * n.natAbs)) :=
  wideOf_ok (by rw [W_len]; exact hl) (W_dok n) (hs.imp id .inl) (fun h => by omega) (by rw [W_dv])

theorem Size_eq {n : Int} (h : -9223372036854775807 ≤ n ∧ n ≤ 9223372036854775807) : base_Size n = some (n.natAbs : Int) := by
  unfold base_Size
  rw [wid (by omega) (by omega)]; congr 1; omega
theorem WideOf_ok {n : Int} (h : -9223372036854775807 ≤ n ∧ n ≤ 9223372036854775807) : base_WideOf n = some (W n) := by
  unfold base_WideOf
  have key : Ok (loopO (fun (s4 : (Int × (List Int))) =>
      bif !(decide (s4.1 = 0)) then
        (base_Size (s4.1.tmod 1000000000)).bind fun x5 =>
        (app s4.2 ([x5])).bind fun x6 =>
        some (.inl (w64 (s4.1.tdiv 1000000000), x6))
      else
        some (.inr s4.2)) (n, [])) fun r => dok r ∧ dv r = n.natAbs ∧ r.length ≤ 100 := by
    refine loop_wf (fun s => s.1.natAbs) (fun s => dok s.2 ∧ dv s.2 + pw s.2.length * s.1.natAbs = n.natAbs ∧ s.1.natAbs ≤ 9223372036854775807 ∧ (s.1 = 0 ∨ s.2.length ≤ 10) ∧ s.2.length ≤ 100) _ ⟨dok_nil, by simp [dv, pw], by simp only; omega, by simp, by simp⟩ ?_
    rintro ⟨m, l⟩ ⟨h1, h2, h3, h4, h5⟩
    simp only at h1 h2 h3 h4 h5
    simp only [bif_ndec]
    by_cases hm : m = 0
    · rw [if_pos hm, rnd_inr]
      subst hm
      simp at h2
      exact ⟨h1, h2, by omega⟩
    · rw [if_neg hm]
      have hb : (m.tmod 1000000000).natAbs = m.natAbs % 1000000000 := by rw [Int.natAbs_tmod]; rfl
      have hq : (m.tdiv 1000000000).natAbs = m.natAbs / 1000000000 := by rw [Int.natAbs_tdiv]; rfl
      rw [Size_eq (by omega)]
      simp only [Option.bind_some]
      rw [app_one (by omega)]
      simp only [Option.bind_some]
      rw [wid (by omega) (by omega), rnd_inl]
      refine ⟨⟨dok_app.2 ⟨h1, ?_⟩, ?_, by simp only; omega, ?_, by simp; omega⟩, by simp only; omega⟩
      · rw [hb]; simp [dok]; omega
      · simp only [List.length_append, List.length_cons, List.length_nil]
        rw [dv_app, pw_add, ← h2, hb, hq]
        have e : (m.natAbs : Int) = ((m.natAbs % 1000000000 : Nat) : Int) + 1000000000 * ((m.natAbs / 1000000000 : Nat) : Int) := by omega
        simp only [dv, pw]
        rw [show (pw l.length * (m.natAbs : Int)) = pw l.length * (((m.natAbs % 1000000000 : Nat) : Int) + 1000000000 * ((m.natAbs / 1000000000 : Nat) : Int)) by rw [← e]]
        grind
      · simp only [List.length_append, List.length_cons, List.length_nil]
        by_cases h6 : l.length + 1 ≤ 10
        · exact .inr h6
        · left
          have h7 := dv_pos h1
          have h8 : pw 10 ≤ pw l.length := pw_mono (by omega)
          have h9 : pw l.length * 1 ≤ pw l.length * (m.natAbs : Int) := Int.mul_le_mul_of_nonneg_left (by omega) (Int.le_of_lt (pw_pos _))
          have h10 : pw 10 = 1000000000000000000000000000000000000000000000000000000000000000000000000000000000000000000 := by simp [pw]
          omega
  by_cases hn : n < 0
  · simp only [bif_dec]
    rw [if_pos hn]
    simp only [Option.bind_some]
    obtain ⟨r, hr, h1, h2, h3⟩ := key
    rw [hr]
    simp only [Option.bind_some]
    rw [wideOf_ok (v := n) (by omega) h1 (.inr (.inl rfl)) (fun h => by omega) (by rw [h2]; omega)]
    rfl
  · simp only [bif_dec]
    rw [if_neg hn]
    simp only [Option.bind_some]
    obtain ⟨r, hr, h1, h2, h3⟩ := key
    rw [hr]
    simp only [Option.bind_some]
    rw [wideOf_ok (v := n) (by omega) h1 (.inl rfl) (fun h => by omega) (by rw [h2]; omega)]
    rfl
theorem WideSign_ok (n : Int) : base_WideSign (W n) = some n.sign := rfl
theorem sign_range (n : Int) : -1 ≤ n.sign ∧ n.sign ≤ 1 := by
  rcases Int.lt_trichotomy n 0 with h | h | h
  · rw [Int.sign_eq_neg_one_of_neg h]; omega
  · subst h; simp
  · rw [Int.sign_eq_one_of_pos h]; omega
theorem WideNeg_ok (n : Int) : base_WideNeg (W n) = some (W (-n)) := by
  unfold base_WideNeg W
  have := sign_range n
  simp only
  rw [wid (by omega) (by omega), Int.sign_neg, Int.natAbs_neg]
  congr 2; omega
theorem wideSize_ok (n : Int) : base_wideSize (W n) = some (W n.natAbs) := by
  unfold base_wideSize
  simp only [bif_dec]
  by_cases hn : n < 0
  · rw [if_pos (show (W n).1 < 0 by rw [W_sign, Int.sign_eq_neg_one_of_neg hn]; omega), WideNeg_ok]
    simp only [Option.bind_some]; congr 2; omega
  · rw [if_neg (show ¬ (W n).1 < 0 by
      rw [W_sign]
      rcases Int.lt_or_le 0 n with h | h
      · rw [Int.sign_eq_one_of_pos h]; omega
      · have : n = 0 := by omega
        subst this; simp)]
    congr 2; omega

/-! ### digits: comparing, adding, subtracting -/
theorem digit_ok {l : List Int} {i : Nat} (hl : l.length ≤ 4000000000) : base_digit l (i : Int) = some (l.getD i 0) := by
  unfold base_digit
  simp only [bif_dec]
  by_cases h : (i : Int) < (l.length : Int)
  · rw [if_pos h, idx_int (by omega) h]; simp
  · rw [if_neg h]; simp; rw [List.getElem?_eq_none (by omega)]; rfl
/-- the digits from one on -/
theorem dv_top {l : List Int} {i : Nat} (h : i < l.length) : dv (l.drop i) = l.getD i 0 + 1000000000 * dv (l.drop (i + 1)) := by
  rw [List.drop_eq_getElem_cons h, dv]; simp [h]
theorem dok_drop {l : List Int} (h : dok l) (i : Nat) : dok (l.drop i) := fun d hd => h d (List.mem_of_mem_drop hd)
theorem dok_take {l : List Int} (h : dok l) (i : Nat) : dok (l.take i) := fun d hd => h d (List.mem_of_mem_take hd)
theorem dv_split (l : List Int) (i : Nat) (h : i ≤ l.length) : dv l = dv (l.take i) + pw i * dv (l.drop i) := by
  conv => lhs; rw [← List.take_append_drop i l]
  rw [dv_app]; simp [Nat.min_eq_left h]
theorem cmp_same {a b : List Int} (ha : dok a) (hb : dok b) (hl : a.length = b.length) (hm : a.length ≤ 4000000000) :
    base_cmpDigits a b = some (if dv a < dv b then -1 else if dv a > dv b then 1 else 0) := by
  unfold base_cmpDigits
  simp only [bif_ndec, bif_dec]
  rw [if_pos (by omega)]
  refine (ok_elim.2 ?_).eq
  refine (loop_wf (fun s : Int => (s + 1).toNat) (fun s => -1 ≤ s ∧ s + 1 ≤ a.length ∧ dv (a.drop (s + 1).toNat) = dv (b.drop (s + 1).toNat))
    (fun r => r = .inl () ∧ dv a = dv b ∨ r = .inr (-1) ∧ dv a < dv b ∨ r = .inr 1 ∧ dv a > dv b) ⟨by rw [wid] <;> omega, by rw [wid] <;> omega, ?_⟩ ?_).mono ?_
  · rw [wid (by omega) (by omega)]
    have : ((a.length : Int) - 1 + 1).toNat = a.length := by omega
    rw [this, List.drop_eq_nil_of_le (Nat.le_refl _), List.drop_eq_nil_of_le (by omega)]
  · rintro s ⟨h1, h2, h3⟩
    by_cases hs : s ≥ 0
    · rw [if_pos hs]
      obtain ⟨i, rfl⟩ : ∃ i : Nat, s = (i : Int) := ⟨s.toNat, by omega⟩
      have hia : i < a.length := by omega
      have hib : i < b.length := by omega
      rw [idx_int (by omega) (by omega), idx_int (by omega) (by omega)]
      simp only [Option.bind_some, Int.toNat_natCast]
      have e1 : ((i : Int) + 1).toNat = i + 1 := by omega
      rw [e1] at h3
      have ta := dv_top hia
      have tb := dv_top hib
      have sa := dv_split a i (by omega)
      have sb := dv_split b i (by omega)
      have la := dv_lt (dok_take ha i)
      have lb := dv_lt (dok_take hb i)
      have pa := dv_pos (dok_take ha i)
      have pb := dv_pos (dok_take hb i)
      have l1 : (a.take i).length = i := by simp; omega
      have l2 : (b.take i).length = i := by simp; omega
      rw [l1] at la
      rw [l2] at lb
      have hp := pw_pos i
      by_cases c1 : a.getD i 0 < b.getD i 0
      · rw [if_pos c1, rnd_inr]
        refine .inr (.inl ⟨rfl, ?_⟩)
        have h5 : pw i * (dv (a.drop i) + 1) ≤ pw i * dv (b.drop i) := Int.mul_le_mul_of_nonneg_left (by omega) (Int.le_of_lt hp)
        rw [Int.mul_add] at h5; omega
      · rw [if_neg c1]
        by_cases c2 : a.getD i 0 > b.getD i 0
        · rw [if_pos c2, rnd_inr]
          refine .inr (.inr ⟨rfl, ?_⟩)
          have h5 : pw i * (dv (b.drop i) + 1) ≤ pw i * dv (a.drop i) := Int.mul_le_mul_of_nonneg_left (by omega) (Int.le_of_lt hp)
          rw [Int.mul_add] at h5; omega
        · rw [if_neg c2, wid (by omega) (by omega), rnd_inl]
          refine ⟨⟨by omega, by omega, ?_⟩, by omega⟩
          have e2 : ((i : Int) - 1 + 1).toNat = i := by omega
          rw [e2, ta, tb, h3]; omega
    · rw [if_neg hs, rnd_inr]
      have e2 : (s + 1).toNat = 0 := by omega
      rw [e2] at h3
      exact .inl ⟨rfl, by simpa using h3⟩
  · rintro r (⟨rfl, h⟩ | ⟨rfl, h⟩ | ⟨rfl, h⟩)
    · simp only; rw [ok_some, if_neg (by omega), if_neg (by omega)]
    · simp only; rw [if_pos h]
    · simp only; rw [if_neg (by omega), if_pos h]
theorem cmp_ok (a b : Nat) (hl : (digs a).length ≤ 4000000000) : base_cmpDigits (digs a) (digs b) = some (if a < b then -1 else if a > b then 1 else 0) := by
  by_cases h : (digs a).length = (digs b).length
  · rw [cmp_same (dok_digs a) (dok_digs b) h hl, dv_digs, dv_digs]
    simp only [Int.ofNat_lt, gt_iff_lt]
  · unfold base_cmpDigits
    simp only [bif_ndec, bif_dec]
    rw [if_neg (by omega)]
    by_cases c : (digs a).length < (digs b).length
    · have : a < b := by
        rcases Nat.lt_or_ge a b with h1 | h1
        · exact h1
        · have := digs_len_mono h1; omega
      rw [if_pos (by omega), if_pos this]
    · have : b < a := by
        rcases Nat.lt_or_ge b a with h1 | h1
        · exact h1
        · have := digs_len_mono h1; omega
      rw [if_neg (by omega), if_neg (by omega), if_pos this]
end Go.Proofs.Ytpiggpgocnlomaa
end
section
/-
  WIDE NUMBERS: sums, differences, products.
-/
set_option linter.unusedVariables false
set_option linter.unusedSimpArgs false
namespace Go.Proofs.Ytpiggpgocnlomaa
open Go Go.Ab Go.Tx Go.Wide

theorem getD_len {l : List Int} {i : Nat} (h : l.length ≤ i) : l.getD i 0 = 0 := by simp; rw [List.getElem?_eq_none h]; rfl
/-- one more digit -/
theorem dv_next (l : List Int) (i : Nat) (h : i < l.length) : dv (l.take (i + 1)) = dv (l.take i) + pw i * l.getD i 0 := by
  rw [take_next 0 h, dv_app]
  simp [dv, Nat.min_eq_left (Nat.le_of_lt h)]
theorem dv_next' (l : List Int) (i : Nat) : dv (l.take (i + 1)) = dv (l.take i) + pw i * l.getD i 0 := by
  by_cases h : i < l.length
  · exact dv_next l i h
  · rw [getD_len (by omega), List.take_of_length_le (by omega), List.take_of_length_le (by omega)]; simp
theorem dv_snoc (l : List Int) (d : Int) : dv (l ++ [d]) = dv l + pw l.length * d := by rw [dv_app]; simp [dv]
theorem dok_snoc {l : List Int} {d : Int} (h : dok l) (h0 : 0 ≤ d) (h1 : d < 1000000000) : dok (l ++ [d]) := dok_app.2 ⟨h, by simp [dok]; omega⟩

theorem addDigits_ok {a b : List Int} (ha : dok a) (hb : dok b) (la : a.length ≤ 100000) (lb : b.length ≤ 100000) :
    Ok (base_addDigits a b) fun r => dok r ∧ dv r = dv a + dv b ∧ r.length ≤ 100001 := by
  obtain ⟨M, hM, la', lb'⟩ : ∃ M : Nat, M ≤ 100000 ∧ a.length ≤ M ∧ b.length ≤ M := ⟨100000, Nat.le_refl _, la, lb⟩
  unfold base_addDigits
  rw [ok_bind]
  refine (loop_wf (fun s : List Int × Int × Int => ((M : Int) + 3 - s.2.2).toNat)
    (fun s => 0 ≤ s.2.2 ∧ s.1.length = s.2.2.toNat ∧ dok s.1 ∧ (s.2.1 = 0 ∨ s.2.1 = 1) ∧ (s.2.2 ≤ M ∨ (s.2.2 = (M : Int) + 1 ∧ s.2.1 = 0)) ∧ dv s.1 + pw s.2.2.toNat * s.2.1 = dv (a.take s.2.2.toNat) + dv (b.take s.2.2.toNat))
    (fun r => dok r ∧ dv r = dv a + dv b ∧ r.length ≤ 100001) ⟨by simp, by simp, dok_nil, .inl rfl, .inl (by simp), by simp [dv, pw]⟩ ?_).mono ?_
  · rintro ⟨out, c, i⟩ ⟨h0, h1, h2, h3, h4, h5⟩
    simp only at h0 h1 h2 h3 h4 h5
    obtain ⟨i, rfl⟩ : ∃ n : Nat, i = (n : Int) := ⟨i.toNat, by omega⟩
    simp only [Int.toNat_natCast] at h1 h5
    rw [rnd_bind]
    have htest : (bif decide ((i : Int) < (a.length : Int)) then some true else bif decide ((i : Int) < (b.length : Int)) then some true else some (decide (c > 0))) = some (decide ((i : Int) < (a.length : Int) ∨ (i : Int) < (b.length : Int) ∨ c > 0)) := by
      by_cases c1 : (i : Int) < (a.length : Int)
      · simp [c1]
      · by_cases c2 : (i : Int) < (b.length : Int)
        · simp [c1, c2]
        · simp [c1, c2]
    rw [htest, ok_some, bif_dec]
    by_cases hgo : (i : Int) < (a.length : Int) ∨ (i : Int) < (b.length : Int) ∨ c > 0
    · rw [if_pos hgo, digit_ok (by omega), digit_ok (by omega)]
      simp only [Option.bind_some]
      have ga := dok_get ha i
      have gb := dok_get hb i
      have hi : i ≤ M := by omega
      simp (disch := omega) only [wid]
      rw [app_one (by omega)]
      simp only [Option.bind_some, rnd_inl]
      have na := dv_next' a i
      have nb := dv_next' b i
      have hs0 : 0 ≤ a.getD i 0 + b.getD i 0 + c := by omega
      have hm : (a.getD i 0 + b.getD i 0 + c).tmod 1000000000 = (a.getD i 0 + b.getD i 0 + c) % 1000000000 := Int.tmod_eq_emod_of_nonneg hs0
      have hd : (a.getD i 0 + b.getD i 0 + c).tdiv 1000000000 = (a.getD i 0 + b.getD i 0 + c) / 1000000000 := Int.tdiv_eq_ediv_of_nonneg hs0
      rw [hm, hd, wid (by omega) (by omega)]
      have e1 : ((i : Int) + 1).toNat = i + 1 := by omega
      have za : a.length ≤ i → a.getD i 0 = 0 := getD_len
      have zb : b.length ≤ i → b.getD i 0 = 0 := getD_len
      refine ⟨⟨by omega, by simp; omega, dok_snoc h2 (by omega) (by omega), by omega, by omega, ?_⟩, by omega⟩
      simp only [e1]
      rw [na, nb, dv_snoc, h1]
      simp only [pw]
      have e2 := Int.emod_add_mul_ediv (a.getD i 0 + b.getD i 0 + c) 1000000000
      have e3 : pw i * ((a.getD i 0 + b.getD i 0 + c) % 1000000000 + 1000000000 * ((a.getD i 0 + b.getD i 0 + c) / 1000000000)) = pw i * (a.getD i 0 + b.getD i 0 + c) := by rw [e2]
      grind
    · rw [if_neg hgo, rnd_inr]
      rw [List.take_of_length_le (by omega), List.take_of_length_le (by omega)] at h5
      have : c = 0 := by omega
      subst this
      dsimp only
      exact ⟨h2, by omega, by omega⟩
  · rintro r h
    rw [ok_some]; exact h

theorem subDigits_ok {a b : List Int} (ha : dok a) (hb : dok b) (la : a.length ≤ 100000) (lb : b.length ≤ a.length) (hle : dv b ≤ dv a) :
    base_subDigits a b = some (digs (dv a - dv b).toNat) := by
  unfold base_subDigits
  refine Ok.eq ?_
  rw [ok_bind]
  refine (loop_wf (fun s : List Int × Int × Int => (a.length - s.2.2).toNat)
    (fun s => 0 ≤ s.2.2 ∧ s.2.2 ≤ a.length ∧ s.1.length = s.2.2.toNat ∧ dok s.1 ∧ (s.2.1 = 0 ∨ s.2.1 = 1) ∧ dv s.1 = dv (a.take s.2.2.toNat) - dv (b.take s.2.2.toNat) + pw s.2.2.toNat * s.2.1)
    (fun r => dok r ∧ dv r = dv a - dv b ∧ r.length = a.length) ⟨by simp, by simp, by simp, dok_nil, .inl rfl, by simp [dv, pw]⟩ ?_).mono ?_
  · rintro ⟨out, c, i⟩ ⟨h0, h00, h1, h2, h3, h5⟩
    simp only at h0 h00 h1 h2 h3 h5
    obtain ⟨i, rfl⟩ : ∃ n : Nat, i = (n : Int) := ⟨i.toNat, by omega⟩
    simp only [Int.toNat_natCast] at h1 h5
    rw [bif_dec]
    by_cases hgo : (i : Int) < (a.length : Int)
    · rw [if_pos hgo, idx_int (by omega) hgo, digit_ok (by omega)]
      simp only [Option.bind_some, Int.toNat_natCast]
      have ga := dok_get ha i
      have gb := dok_get hb i
      simp (disch := omega) only [wid]
      have na := dv_next' a i
      have nb := dv_next' b i
      have e1 : ((i : Int) + 1).toNat = i + 1 := by omega
      rw [bif_dec]
      by_cases hs : a.getD i 0 - b.getD i 0 - c < 0
      · rw [if_pos hs]
        simp only [Option.bind_some]
        rw [app_one (by omega)]
        simp only [Option.bind_some, rnd_inl]
        refine ⟨⟨by omega, by omega, by simp; omega, dok_snoc h2 (by omega) (by omega), by simp, ?_⟩, by omega⟩
        simp only [e1]
        rw [na, nb, dv_snoc, h1, h5]
        simp only [pw]
        grind
      · rw [if_neg hs]
        simp only [Option.bind_some]
        rw [app_one (by omega)]
        simp only [Option.bind_some, rnd_inl]
        refine ⟨⟨by omega, by omega, by simp; omega, dok_snoc h2 (by omega) (by omega), by simp, ?_⟩, by omega⟩
        simp only [e1]
        rw [na, nb, dv_snoc, h1, h5]
        grind
    · rw [if_neg hgo, rnd_inr]
      have hi : i = a.length := by omega
      subst hi
      rw [List.take_of_length_le (by omega), List.take_of_length_le (by omega)] at h5
      have hlt := dv_lt h2
      rw [h1] at hlt
      dsimp only
      rcases h3 with rfl | rfl
      · exact ⟨h2, by omega, h1⟩
      · exfalso
        rw [Int.mul_one] at h5; omega
  · rintro r ⟨h1, h2, h3⟩
    rw [trimmed_ok (by omega) h1, h2]
    simp [ok_some]

theorem WideAdd_ok (a b : Int) (la : wl a ≤ 100000) (lb : wl b ≤ 100000) : base_WideAdd (W a) (W b) = some (W (a + b)) := by
  unfold base_WideAdd
  simp only [bif_dec]
  by_cases ha : a = 0
  · subst ha; rw [if_pos (show (W 0).1 = 0 by simp [W_sign])]; simp
  rw [if_neg (show ¬ (W a).1 = 0 by rw [W_sign]; simpa using ha)]
  by_cases hb : b = 0
  · subst hb; rw [if_pos (show (W 0).1 = 0 by simp [W_sign])]; simp
  rw [if_neg (show ¬ (W b).1 = 0 by rw [W_sign]; simpa using hb)]
  have sa : a.sign = 1 ∧ 0 < a ∨ a.sign = -1 ∧ a < 0 := by
    rcases Int.lt_or_le 0 a with h | h
    · exact .inl ⟨Int.sign_eq_one_of_pos h, h⟩
    · exact .inr ⟨Int.sign_eq_neg_one_of_neg (by omega), by omega⟩
  have sb : b.sign = 1 ∧ 0 < b ∨ b.sign = -1 ∧ b < 0 := by
    rcases Int.lt_or_le 0 b with h | h
    · exact .inl ⟨Int.sign_eq_one_of_pos h, h⟩
    · exact .inr ⟨Int.sign_eq_neg_one_of_neg (by omega), by omega⟩
  have da := W_dv a
  have db := W_dv b
  by_cases hs : a.sign = b.sign
  · rw [if_pos (show (W a).1 = (W b).1 from hs)]
    obtain ⟨r, hr, h1, h2, h3⟩ := addDigits_ok (W_dok a) (W_dok b) (by rw [W_len]; exact la) (by rw [W_len]; exact lb)
    rw [hr]
    simp only [Option.bind_some]
    rw [W_sign, wideOf_ok (v := a + b) (by omega) h1 (by omega) (by omega) (by rw [h2, da, db]; rcases sa with ⟨h, _⟩ | ⟨h, _⟩ <;> rw [h] at hs ⊢ <;> omega)]
    rfl
  · rw [if_neg (show ¬ (W a).1 = (W b).1 from hs)]
    have hc : base_cmpDigits (W a).2.1 (W b).2.1 = some (if a.natAbs < b.natAbs then -1 else if a.natAbs > b.natAbs then 1 else 0) := cmp_ok a.natAbs b.natAbs (by have := la; unfold wl at this; omega)
    rw [hc]
    simp only [Option.bind_some]
    by_cases c1 : a.natAbs < b.natAbs
    · rw [if_pos c1, if_neg (by omega), if_neg (by omega), subDigits_ok (W_dok b) (W_dok a) (by rw [W_len]; exact lb) (by rw [W_len, W_len]; exact wl_mono (by omega)) (by rw [da, db]; omega), da, db]
      simp only [Option.bind_some]
      rw [W_sign, wideOf_ok (v := a + b) (by have h1 := digs_len_mono (m := ((b.natAbs : Int) - a.natAbs).toNat) (n := b.natAbs) (by omega); have h2 := lb; unfold wl at h2; omega) (dok_digs _) (by omega) (by omega) (by rw [dv_digs]; rcases sb with ⟨h, _⟩ | ⟨h, _⟩ <;> rw [h] at hs ⊢ <;> omega)]
      rfl
    · rw [if_neg c1]
      by_cases c2 : a.natAbs > b.natAbs
      · rw [if_pos c2, if_neg (by omega), if_pos (by omega), subDigits_ok (W_dok a) (W_dok b) (by rw [W_len]; exact la) (by rw [W_len, W_len]; exact wl_mono (by omega)) (by rw [da, db]; omega), da, db]
        simp only [Option.bind_some]
        rw [W_sign, wideOf_ok (v := a + b) (by have h1 := digs_len_mono (m := ((a.natAbs : Int) - b.natAbs).toNat) (n := a.natAbs) (by omega); have h2 := la; unfold wl at h2; omega) (dok_digs _) (by omega) (by omega) (by rw [dv_digs]; rcases sa with ⟨h, _⟩ | ⟨h, _⟩ <;> rw [h] at hs ⊢ <;> omega)]
        rfl
      · rw [if_neg c2, if_pos rfl]
        have : a + b = 0 := by omega
        rw [this, W_zero]
theorem WideSub_ok (a b : Int) (la : wl a ≤ 100000) (lb : wl b ≤ 100000) : base_WideSub (W a) (W b) = some (W (a - b)) := by
  unfold base_WideSub
  rw [WideNeg_ok]
  simp only [Option.bind_some]
  rw [WideAdd_ok a (-b) la (by rw [wl_neg]; exact lb)]
  rfl
theorem WideCmp_ok (a b : Int) (la : wl a ≤ 100000) (lb : wl b ≤ 100000) : base_WideCmp (W a) (W b) = some (a - b).sign := by
  unfold base_WideCmp
  rw [WideSub_ok a b la lb]
  rfl

/-! ### products -/
theorem dv_set : ∀ {l : List Int} {j : Nat} (v : Int), j < l.length → dv (l.set j v) = dv l + pw j * (v - l.getD j 0)
  | [], j, v, h => by simp at h
  | d :: l, 0, v, h => by simp [dv, pw]; omega
  | d :: l, j + 1, v, h => by
    have ih := dv_set (l := l) (j := j) v (by simpa using h)
    simp only [List.set_cons_succ, dv, pw, List.getD_cons_succ]
    rw [ih]; grind
theorem dok_set {l : List Int} {j : Nat} {v : Int} (h : dok l) (h0 : 0 ≤ v) (h1 : v < 1000000000) : dok (l.set j v) := fun d hd => by
  rcases List.mem_or_eq_of_mem_set hd with hd | rfl
  · exact h d hd
  · exact ⟨h0, h1⟩
theorem dok_zeros (n : Nat) : dok (List.replicate n 0) := fun d hd => by rw [List.eq_of_mem_replicate hd]; omega
theorem getD_set_ne {l : List Int} {i j : Nat} {v : Int} (h : i ≠ j) : (l.set i v).getD j 0 = l.getD j 0 := by
  simp [List.getElem?_set_ne h]
theorem getD_set_eq {l : List Int} {i : Nat} {v : Int} (h : i < l.length) : (l.set i v).getD i 0 = v := by
  simp [List.getElem?_set_self h]
end Go.Proofs.Ytpiggpgocnlomaa
end
section
/-
  WIDE NUMBERS: products, quotients rounded down.
-/
set_option linter.unusedVariables false
set_option linter.unusedSimpArgs false
namespace Go.Proofs.Ytpiggpgocnlomaa
open Go Go.Ab Go.Tx Go.Wide

theorem mul_range {a b A B : Int} (h1 : 0 ≤ a) (h2 : a ≤ A) (h3 : 0 ≤ b) (h4 : b ≤ B) : 0 ≤ a * b ∧ a * b ≤ A * B :=
  ⟨Int.mul_nonneg h1 h3, Int.mul_le_mul h2 h4 h3 (Int.le_trans h1 h2)⟩
theorem sign_mul_range (a b : Int) : -1 ≤ a.sign * b.sign ∧ a.sign * b.sign ≤ 1 := by
  rw [← Int.sign_mul]; exact sign_range _

theorem WideMul_ok (a b : Int) (la : wl a ≤ 10000) (lb : wl b ≤ 10000) : base_WideMul (W a) (W b) = some (W (a * b)) := by
  unfold base_WideMul
  refine Ok.eq ?_
  rw [ok_bind]
  have hn : w64 ((w64 (((W a).2.1.length : Int) + ((W b).2.1.length : Int))) + 1) = ((wl a + wl b + 1 : Nat) : Int) := by
    rw [W_len, W_len, wid (n := (wl a : Int) + (wl b : Int)) (by omega) (by omega), wid (by omega) (by omega)]; omega
  rw [hn, mkS_in ⟨by omega, by omega⟩, ok_some]
  simp only [decide_true, cond_true, Int.toNat_natCast]
  rw [ok_bind]
  refine (loop_wf (fun s : List Int × Int => ((wl a : Int) - s.2).toNat)
    (fun s => 0 ≤ s.2 ∧ s.2 ≤ wl a ∧ s.1.length = wl a + wl b + 1 ∧ dok s.1 ∧ (∀ j, s.2.toNat + wl b ≤ j → s.1.getD j 0 = 0) ∧ dv s.1 = dv ((W a).2.1.take s.2.toNat) * dv (W b).2.1)
    (fun r => dok r ∧ r.length = wl a + wl b + 1 ∧ dv r = dv (W a).2.1 * dv (W b).2.1) ⟨by simp, by simp, by simp, dok_zeros _, ?_, ?_⟩ ?_).mono ?_
  · intro j _
    by_cases hj : j < wl a + wl b + 1
    · simp [List.getElem?_replicate, hj]
    · exact getD_len (by simp; omega)
  · simp only [Int.toNat_zero, List.take_zero, dv, Int.zero_mul]
    exact dv_zeros fun d hd => List.eq_of_mem_replicate hd
  · rintro ⟨out, i⟩ ⟨h0, h1, h2, h3, h4, h5⟩
    simp only at h0 h1 h2 h3 h4 h5
    obtain ⟨i, rfl⟩ : ∃ n : Nat, i = (n : Int) := ⟨i.toNat, by omega⟩
    simp only [Int.toNat_natCast] at h4 h5
    rw [bif_dec]
    by_cases hgo : (i : Int) < ((W a).2.1.length : Int)
    · rw [if_pos hgo, rnd_bind]
      rw [W_len] at hgo
      have ga := dok_get (W_dok a) i
      refine (loop_wf (fun s : List Int × Int × Int => ((wl b : Int) - s.2.2).toNat)
        (fun s => 0 ≤ s.2.2 ∧ s.2.2 ≤ wl b ∧ s.1.length = wl a + wl b + 1 ∧ dok s.1 ∧ (0 ≤ s.2.1 ∧ s.2.1 < 1000000000) ∧ (∀ j, i + wl b ≤ j → s.1.getD j 0 = 0) ∧
          dv s.1 + pw (i + s.2.2.toNat) * s.2.1 = dv ((W a).2.1.take i) * dv (W b).2.1 + pw i * ((W a).2.1.getD i 0 * dv ((W b).2.1.take s.2.2.toNat)))
        (fun r => r.1.length = wl a + wl b + 1 ∧ dok r.1 ∧ (0 ≤ r.2 ∧ r.2 < 1000000000) ∧ (∀ j, i + wl b ≤ j → r.1.getD j 0 = 0) ∧
          dv r.1 + pw (i + wl b) * r.2 = dv ((W a).2.1.take i) * dv (W b).2.1 + pw i * ((W a).2.1.getD i 0 * dv (W b).2.1)) ⟨by simp, by simp, h2, h3, ⟨by simp, by simp⟩, h4, by simp [h5, dv]⟩ ?_).mono ?_
      · rintro ⟨o, c, k⟩ ⟨k0, k1, k2, k3, k4, k5, k6⟩
        simp only at k0 k1 k2 k3 k4 k5 k6
        obtain ⟨k, rfl⟩ : ∃ n : Nat, k = (n : Int) := ⟨k.toNat, by omega⟩
        simp only [Int.toNat_natCast] at k6
        rw [bif_dec]
        by_cases hk : (k : Int) < ((W b).2.1.length : Int)
        · rw [if_pos hk]
          rw [W_len] at hk
          have e1 : w64 ((i : Int) + (k : Int)) = ((i + k : Nat) : Int) := by rw [wid (by omega) (by omega)]; omega
          have gb := dok_get (W_dok b) k
          have go := dok_get k3 (i + k)
          have hp := mul_range ga.1 (show _ ≤ 999999999 by omega) gb.1 (show _ ≤ 999999999 by omega)
          simp only
          rw [e1, idx_int (l := o) (by omega) (by omega), idx_int (l := (W a).2.1) (by omega) (by rw [W_len]; omega), idx_int (l := (W b).2.1) (by omega) (by rw [W_len]; omega)]
          simp only [Option.bind_some, Int.toNat_natCast]
          have nb := dv_next' (W b).2.1 k
          generalize (W a).2.1.getD i 0 = x at *
          generalize (W b).2.1.getD k 0 = y at *
          generalize hz : o.getD (i + k) 0 = z at *
          generalize hxy : x * y = p at *
          rw [wid (n := p) (by omega) (by omega), wid (n := z + p) (by omega) (by omega), wid (n := z + p + c) (by omega) (by omega), wid (n := (k : Int) + 1) (by omega) (by omega)]
          have hs0 : 0 ≤ z + p + c := by omega
          rw [Int.tmod_eq_emod_of_nonneg hs0, Int.tdiv_eq_ediv_of_nonneg hs0, wid (by omega) (by omega), rnd_inl]
          have e2 : ((k : Int) + 1).toNat = k + 1 := by omega
          have e3 := Int.emod_add_mul_ediv (z + p + c) 1000000000
          dsimp only
          refine ⟨⟨by omega, by omega, by rw [List.length_set]; exact k2, dok_set k3 (by omega) (by omega), ⟨by omega, by omega⟩, ?_, ?_⟩, by omega⟩
          · intro j hj
            rw [getD_set_ne (by omega)]; exact k5 j hj
          · rw [e2, dv_set _ (by omega), hz, nb]
            have e4 : pw (i + (k + 1)) = 1000000000 * pw (i + k) := rfl
            rw [e4]
            have e5 := pw_add i k
            generalize (z + p + c) % 1000000000 = r at *
            generalize (z + p + c) / 1000000000 = q at *
            have e6 : pw (i + k) * (r + 1000000000 * q) = pw (i + k) * (z + p + c) := by rw [e3]
            have e7 : pw i * (x * (pw k * y)) = pw (i + k) * p := by rw [e5, ← hxy]; grind
            rw [Int.mul_add] at e6
            have e8 : pw i * (x * (dv ((W b).2.1.take k) + pw k * y)) = pw i * (x * dv ((W b).2.1.take k)) + pw i * (x * (pw k * y)) := by grind
            rw [e8, e7]
            grind
        · rw [if_neg hk, rnd_inr]
          rw [W_len] at hk
          have hk' : k = wl b := by omega
          subst hk'
          rw [List.take_of_length_le (l := (W b).2.1) (by rw [W_len]; exact Nat.le_refl _)] at k6
          exact ⟨k2, k3, k4, k5, k6⟩
      · rintro ⟨o, c⟩ ⟨k2, k3, k4, k5, k6⟩
        simp only at k2 k3 k4 k5 k6
        have e1 : w64 ((i : Int) + ((W b).2.1.length : Int)) = ((i + wl b : Nat) : Int) := by rw [W_len, wid (by omega) (by omega)]; omega
        simp only
        rw [e1, idx_int (l := o) (by omega) (by omega)]
        simp only [Option.bind_some, Int.toNat_natCast]
        have hz := k5 (i + wl b) (Nat.le_refl _)
        rw [hz, wid (n := 0 + c) (by omega) (by omega), wid (n := (i : Int) + 1) (by omega) (by omega), rnd_inl]
        have e2 : ((i : Int) + 1).toNat = i + 1 := by omega
        dsimp only
        refine ⟨⟨by omega, by omega, by rw [List.length_set]; exact k2, dok_set k3 (by omega) (by omega), ?_, ?_⟩, by omega⟩
        · intro j hj
          rw [e2] at hj
          rw [getD_set_ne (by omega)]; exact k5 j (by omega)
        · rw [e2, dv_set _ (by omega), hz, dv_next']
          grind
    · rw [if_neg hgo, rnd_inr]
      rw [W_len] at hgo
      have hi : i = wl a := by omega
      subst hi
      rw [List.take_of_length_le (by rw [W_len]; omega)] at h5
      exact ⟨h3, h2, h5⟩
  · rintro r ⟨h1, h2, h3⟩
    rw [W_dv, W_dv] at h3
    have hs := sign_mul_range a b
    rw [W_sign, W_sign, wid (by omega) (by omega)]
    have e1 := Int.sign_mul_natAbs a
    have e2 := Int.sign_mul_natAbs b
    rw [wideOf_ok (v := a * b) (by omega) h1 (by omega) ?_ ?_]
    · simp [ok_some]
    · intro h
      rw [h3]
      rcases Int.mul_eq_zero.1 h with h | h
      · rw [Int.sign_eq_zero_iff_zero.1 h]; simp
      · rw [Int.sign_eq_zero_iff_zero.1 h]; simp
    · rw [h3]
      conv => lhs; rw [← e1, ← e2]
      grind

theorem drop_set {l : List Int} {i : Nat} {v : Int} (h : i < l.length) : dv ((l.set i v).drop i) = v + 1000000000 * dv (l.drop (i + 1)) := by
  rw [dv_top (by rw [List.length_set]; exact h), getD_set_eq h, List.drop_set_of_lt (by omega)]

theorem floor_of {a b q L : Int} (hb : 0 < b) (h0 : 0 ≤ L) (h1 : L < b) (h : a = q * b + L) : a / b = q :=
  ((Int.ediv_emod_unique hb).2 ⟨by rw [h, Int.mul_comm q b]; omega, h0, h1⟩).1

theorem WideFloor_ok (a b : Int) (hb : 0 < b) (la : wl a ≤ 5000) (lb : wl b ≤ 5000) : base_WideFloor (W a) (W b) = some (W (a / b)) := by
  unfold base_WideFloor
  simp only [bif_dec]
  by_cases ha : a = 0
  · subst ha; rw [if_pos (show (W 0).1 = 0 by simp [W_sign])]; rw [Int.zero_ediv, W_zero]
  rw [if_neg (show ¬ (W a).1 = 0 by rw [W_sign]; simpa using ha)]
  refine Ok.eq ?_
  rw [ok_bind, mkS_in ⟨by omega, by rw [W_len]; omega⟩, ok_some]
  simp only [if_true, Int.toNat_natCast]
  rw [ok_bind]
  have hone : base_wideOf 1 (W b).2.1 = some (W b) := by
    rw [wideOf_W b (by omega) (.inl rfl)]; congr 2; omega
  refine (loop_wf (fun s : List Int × List Int × Int => (s.2.2 + 1).toNat)
    (fun s => -1 ≤ s.2.2 ∧ s.2.2 < wl a ∧ s.1.length = wl a ∧ dok s.1 ∧ ∃ L : Nat, s.2.1 = digs L ∧ (L : Int) < b ∧ dv ((W a).2.1.drop (s.2.2 + 1).toNat) = dv (s.1.drop (s.2.2 + 1).toNat) * b + L)
    (fun r => r.1.length = wl a ∧ dok r.1 ∧ ∃ L : Nat, r.2 = digs L ∧ (L : Int) < b ∧ dv (W a).2.1 = dv r.1 * b + L) ?_ ?_).mono ?_
  · rw [W_len, wid (by omega) (by omega)]
    have e1 : ((wl a : Int) - 1 + 1).toNat = wl a := by omega
    dsimp only
    refine ⟨by omega, by omega, by simp, dok_zeros _, 0, by simp [digs_zero], by omega, ?_⟩
    rw [e1, List.drop_eq_nil_of_le (by rw [W_len]; omega), List.drop_eq_nil_of_le (by simp)]
    simp [dv]
  · rintro ⟨q, left, i⟩ ⟨h0, h1, h2, h3, L, h4, h5, h6⟩
    simp only at h0 h1 h2 h3 h4 h5 h6
    subst h4
    by_cases hgo : i ≥ 0
    · rw [if_pos hgo]
      obtain ⟨i, rfl⟩ : ∃ n : Nat, i = (n : Int) := ⟨i.toNat, by omega⟩
      have e1 : ((i : Int) + 1).toNat = i + 1 := by omega
      rw [e1] at h6
      have ga := dok_get (W_dok a) i
      have hL : (digs L).length ≤ wl b := by unfold wl; exact digs_len_mono (by omega)
      rw [idx_int (by omega) (by rw [W_len]; omega)]
      simp only [Option.bind_some, Int.toNat_natCast]
      rw [app_in (by simp; omega)]
      simp only [Option.bind_some, List.singleton_append]
      have ht := dv_top (l := (W a).2.1) (i := i) (by rw [W_len]; omega)
      generalize (W a).2.1.getD i 0 = x at *
      have hdv : dv (x :: digs L) = x + 1000000000 * L := by simp only [dv, dv_digs]
      rw [trimmed_ok (by simp; omega) (dok_cons.2 ⟨ga, dok_digs L⟩), hdv]
      simp only [Option.bind_some]
      obtain ⟨M, hM⟩ : ∃ M : Nat, x + 1000000000 * (L : Int) = (M : Int) := ⟨(x + 1000000000 * (L : Int)).toNat, by omega⟩
      rw [hM, Int.toNat_natCast]
      have hMb : (M : Int) < b * 1000000000 := by omega
      have hMl : (digs M).length ≤ wl b + 1 := digs_len (by
        have := wl_lt (n := b)
        simp only [pw]; omega)
      rw [rnd_bind]
      refine (loop_wf (fun s : Int × Int => (s.2 - s.1).toNat)
        (fun s => 0 ≤ s.1 ∧ s.1 ≤ s.2 ∧ s.2 ≤ 999999999 ∧ b * s.1 ≤ M ∧ (M : Int) < b * (s.2 + 1))
        (fun r => 0 ≤ r ∧ r ≤ 999999999 ∧ b * r ≤ M ∧ (M : Int) < b * (r + 1)) ⟨by simp, by simp, by simp, by simp, by simpa using hMb⟩ ?_).mono ?_
      · rintro ⟨lo, hi⟩ ⟨k0, k1, k2, k3, k4⟩
        simp only at k0 k1 k2 k3 k4
        by_cases hlh : lo < hi
        · rw [if_pos hlh, hone]
          simp only [Option.bind_some]
          rw [wid (n := lo + hi) (by omega) (by omega), wid (n := lo + hi + 1) (by omega) (by omega), Int.tdiv_eq_ediv_of_nonneg (by omega), wid (n := (lo + hi + 1) / 2) (by omega) (by omega)]
          generalize hm : (lo + hi + 1) / 2 = m
          have hm1 : lo < m ∧ m ≤ hi := by omega
          rw [WideOf_ok (by omega)]
          simp only [Option.bind_some]
          rw [WideMul_ok b m (by omega) (Nat.le_trans (wl_int (by omega)) (by omega))]
          simp only [Option.bind_some]
          have hbm : 0 ≤ b * m := Int.mul_nonneg (by omega) (by omega)
          have hbl : wl (b * m) ≤ 10000 := by have := wl_mul b m; have := wl_int (n := m) (by omega); omega
          have hc : base_cmpDigits (W (b * m)).2.1 (digs M) = some (if (b * m).natAbs < M then -1 else if (b * m).natAbs > M then 1 else 0) := cmp_ok (b * m).natAbs M (by unfold wl at hbl; omega)
          rw [hc]
          simp only [Option.bind_some]
          by_cases hle : b * m ≤ M
          · rw [if_pos (by omega)]
            simp only [Option.bind_some, rnd_inl]
            exact ⟨⟨by omega, by omega, by omega, hle, k4⟩, by omega⟩
          · rw [if_neg (by omega), wid (by omega) (by omega)]
            simp only [Option.bind_some, rnd_inl]
            have e9 : m - 1 + 1 = m := by omega
            rw [e9]
            exact ⟨⟨by omega, by omega, by omega, k3, by omega⟩, by omega⟩
        · rw [if_neg hlh, rnd_inr]
          have : lo = hi := by omega
          subst this
          exact ⟨k0, k2, k3, k4⟩
      · rintro r ⟨k0, k1, k2, k3⟩
        rw [idx_int (by omega) (by omega)]
        simp only [Option.bind_some, Int.toNat_natCast]
        rw [hone]
        simp only [Option.bind_some]
        rw [WideOf_ok (by omega)]
        simp only [Option.bind_some]
        rw [WideMul_ok b r (by omega) (Nat.le_trans (wl_int (by omega)) (by omega))]
        simp only [Option.bind_some]
        have hbr : 0 ≤ b * r := Int.mul_nonneg (by omega) (by omega)
        rw [subDigits_ok (dok_digs M) (W_dok _) (by omega) (by
          rw [W_len]; unfold wl; exact digs_len_mono (by omega)) (by rw [W_dv, dv_digs]; omega), W_dv, dv_digs]
        simp only [Option.bind_some]
        rw [wid (by omega) (by omega), rnd_inl]
        have e2 : ((i : Int) - 1 + 1).toNat = i := by omega
        dsimp only
        have hbr' : ((b * r).natAbs : Int) = b * r := by omega
        rw [Int.mul_add] at k3
        refine ⟨⟨by omega, by omega, by rw [List.length_set]; exact h2, dok_set h3 (by omega) (by omega), ((M : Int) - (b * r).natAbs).toNat, rfl, by omega, ?_⟩, by omega⟩
        rw [e2, ht, h6, drop_set (by omega)]
        have e3 : (((M : Int) - ((b * r).natAbs : Int)).toNat : Int) = M - b * r := by omega
        rw [e3, ← hM]
        grind
    · rw [if_neg hgo, rnd_inr]
      have e1 : (i + 1).toNat = 0 := by omega
      rw [e1] at h6
      exact ⟨h2, h3, L, rfl, h5, h6⟩
  · rintro ⟨q, left⟩ ⟨h1, h2, L, h3, h4, h5⟩
    simp only at h1 h2 h3 h5
    subst h3
    have hq := dv_pos h2
    rw [W_dv] at h5
    have hwq : wl (dv q) ≤ 5000 := Nat.le_trans (wl_le (by have := dv_lt h2; rw [h1] at this; omega)) la
    rcases Int.lt_or_le 0 a with h | h
    · have hs : a.sign = 1 := Int.sign_eq_one_of_pos h
      have e0 : ¬ (W a).1 < 0 := by rw [W_sign, hs]; omega
      simp only
      rw [W_sign, hs, wideOf_ok (v := dv q) (by omega) h2 (.inl rfl) (by omega) (by omega)]
      simp only [Option.bind_some]
      rw [if_neg (by omega)]
      simp only [Option.bind_some, cond_false]
      rw [ok_some, floor_of (q := dv q) (L := L) hb (by omega) h4 (by omega)]
    · have hs : a.sign = -1 := Int.sign_eq_neg_one_of_neg (by omega)
      simp only
      rw [W_sign, hs, wideOf_ok (v := -dv q) (by omega) h2 (.inr (.inl rfl)) (by omega) (by omega)]
      simp only [Option.bind_some]
      rw [if_pos (by omega)]
      simp only [Option.bind_some]
      by_cases h0 : L = 0
      · have e1 : decide (((digs L).length : Int) > 0) = false := by subst h0; simp [digs_zero]
        rw [e1]
        simp only [cond_false, Option.bind_some]
        rw [ok_some, floor_of (q := -dv q) (L := 0) hb (by omega) hb (by rw [Int.neg_mul]; omega)]
      · have e1 : decide (((digs L).length : Int) > 0) = true := by rw [digs_pos h0]; simp
        rw [e1]
        simp only [cond_true]
        rw [WideOf_ok (by omega)]
        simp only [Option.bind_some]
        rw [WideSub_ok _ _ (by rw [wl_neg]; omega) (by rw [wl_one]; omega)]
        simp only [Option.bind_some]
        rw [ok_some, floor_of (q := -dv q - 1) (L := b - L) hb (by omega) (by omega) (by rw [Int.sub_mul, Int.neg_mul]; omega)]
end Go.Proofs.Ytpiggpgocnlomaa
end
section
/-
  RATIOS: quotients of wide numbers in lowest terms.
-/
set_option linter.unusedVariables false
set_option linter.unusedSimpArgs false
namespace Go.Proofs.Ytpiggpgocnlomaa
open Go Go.Ab Go.Tx Go.Wide

theorem sign_zero (n : Int) : n.sign = 0 ↔ n = 0 := Int.sign_eq_zero_iff_zero
theorem gcd_step {u v : Nat} (h : v ≠ 0) : Nat.gcd v (u % v) = Nat.gcd u v := by rw [Nat.gcd_comm v, ← Nat.gcd_rec, Nat.gcd_comm]
theorem wideGcd_ok (a b : Int) (la : wl a ≤ 4000) (lb : wl b ≤ 4000) : base_wideGcd (W a) (W b) = some (W (Int.gcd a b)) := by
  unfold base_wideGcd
  refine Ok.eq ?_
  rw [wideSize_ok, wideSize_ok]
  simp only [Option.bind_some]
  rw [ok_bind]
  refine (loop_wf (fun s : Int × List Int × Int × List Int => (dv s.2.2.2).toNat)
    (fun s => ∃ u v : Nat, s = ((W u).1, (W u).2.1, (W v).1, (W v).2.1) ∧ Nat.gcd u v = Int.gcd a b ∧ wl u ≤ 4000 ∧ wl v ≤ 4000)
    (fun r => r = ((W (Int.gcd a b)).1, (W (Int.gcd a b)).2.1)) ⟨a.natAbs, b.natAbs, rfl, rfl, by unfold wl at *; exact la, by unfold wl at *; exact lb⟩ ?_).mono ?_
  · rintro _ ⟨u, v, rfl, hg, hu, hv⟩
    have hs : base_WideSign ((W v).1, (W v).2.1, ()) = some (v : Int).sign := rfl
    simp only
    rw [hs]
    simp only [Option.bind_some]
    by_cases h : v = 0
    · subst h
      simp only [Int.natCast_zero, Int.sign_zero, decide_true, Bool.not_true, cond_false]
      rw [rnd_inr]
      rw [Nat.gcd_zero_right] at hg
      rw [hg]
    · have hv0 : ¬ (v : Int).sign = 0 := by rw [sign_zero]; omega
      simp only [hv0, decide_false, Bool.not_false, cond_true]
      have e1 : base_WideFloor ((W u).1, (W u).2.1, ()) ((W v).1, (W v).2.1, ()) = some (W ((u : Int) / v)) := WideFloor_ok u v (by omega) (by omega) (by omega)
      rw [e1]
      simp only [Option.bind_some]
      have hd := wl_div (u : Int) (b := v) (by omega)
      have e2 : base_WideMul (W ((u : Int) / v)) ((W v).1, (W v).2.1, ()) = some (W ((u : Int) / v * v)) := WideMul_ok _ _ (by omega) (by omega)
      rw [e2]
      simp only [Option.bind_some]
      have e3 : base_WideSub ((W u).1, (W u).2.1, ()) (W ((u : Int) / v * v)) = some (W ((u : Int) - (u : Int) / v * v)) := WideSub_ok _ _ (by omega) (by have := wl_mul ((u : Int) / v) v; omega)
      rw [e3]
      simp only [Option.bind_some]
      have e4 : (u : Int) - (u : Int) / v * v = ((u % v : Nat) : Int) := by
        have := Int.emod_add_mul_ediv (u : Int) v
        have e5 : ((u % v : Nat) : Int) = (u : Int) % v := by simp
        rw [e5, Int.mul_comm]; omega
      rw [e4, rnd_inl]
      have hlt := Nat.mod_lt u (show 0 < v by omega)
      refine ⟨⟨v, u % v, rfl, by rw [gcd_step h]; exact hg, hv, Nat.le_trans (wl_mono (by omega)) hv⟩, ?_⟩
      dsimp only
      rw [W_dv, W_dv]; omega
  · rintro _ rfl
    rw [ok_some]

/-- a quotient's parts as wide numbers -/
def RW (n d : Int) : Int × List Int × Int × List Int × Unit := ((W n).1, (W n).2.1, (W d).1, (W d).2.1, ())
def rn (n d : Int) : Int := n / (Int.gcd n d : Int)
def rd_ (n d : Int) : Int := d / (Int.gcd n d : Int)
/-- in lowest terms -/
def RQ (n d : Int) : Int × List Int × Int × List Int × Unit := RW (rn n d) (rd_ n d)
theorem gcd_posd {n d : Int} (h : 0 < d) : (0 : Int) < Int.gcd n d := by
  have := Int.gcd_pos_of_ne_zero_right n (show d ≠ 0 by omega)
  omega
theorem rn_eq (n d : Int) : rn n d * (Int.gcd n d : Int) = n := Int.ediv_mul_cancel (Int.gcd_dvd_left ..)
theorem rd_eq (n d : Int) : rd_ n d * (Int.gcd n d : Int) = d := Int.ediv_mul_cancel (Int.gcd_dvd_right ..)
theorem rd_pos {n d : Int} (h : 0 < d) : 0 < rd_ n d := by
  have h1 := rd_eq n d
  have h2 := gcd_posd (n := n) h
  rcases Int.lt_or_le 0 (rd_ n d) with h3 | h3
  · exact h3
  · have := Int.mul_le_mul_of_nonneg_right h3 (Int.le_of_lt h2)
    omega
theorem natAbs_ediv_le (n : Int) {g : Int} (hg : 0 < g) (hd : g ∣ n) : (n / g).natAbs ≤ n.natAbs := by
  obtain ⟨q, rfl⟩ := hd
  rw [Int.mul_ediv_cancel_left _ (by omega), Int.natAbs_mul]
  have : 1 ≤ g.natAbs := by omega
  have := Nat.mul_le_mul_right q.natAbs this
  omega
theorem rn_le {n d : Int} (h : 0 < d) : (rn n d).natAbs ≤ n.natAbs := natAbs_ediv_le n (gcd_posd h) (Int.gcd_dvd_left ..)
theorem rd_le {n d : Int} (h : 0 < d) : (rd_ n d).natAbs ≤ d.natAbs := natAbs_ediv_le d (gcd_posd h) (Int.gcd_dvd_right ..)
theorem RQ_mul {n d c : Int} (hd : 0 < d) (hc : 0 < c) : RQ (n * c) (d * c) = RQ n d := by
  unfold RQ rn rd_
  have hg : (Int.gcd (n * c) (d * c) : Int) = Int.gcd n d * c := by rw [Int.gcd_mul_right]; have : (c.natAbs : Int) = c := by omega
                                                                    rw [Int.natCast_mul, this]
  rw [hg, Int.mul_ediv_mul_of_pos_left _ _ hc, Int.mul_ediv_mul_of_pos_left _ _ hc]
theorem RQ_congr {n d m k : Int} (hd : 0 < d) (hk : 0 < k) (h : n * k = m * d) : RQ n d = RQ m k := by
  rw [← RQ_mul (n := n) hd hk, ← RQ_mul (n := m) hk hd, h, Int.mul_comm d k]
theorem RatioMake_ok {n d : Int} (hd : 0 < d) (ln : wl n ≤ 2000) (ld : wl d ≤ 2000) : base_RatioMake (W n) (W d) = some (RQ n d) := by
  unfold base_RatioMake
  rw [WideSign_ok]
  have hs : d.sign = 1 := Int.sign_eq_one_of_pos hd
  simp only [Option.bind_some, hs]
  have e0 : decide ((1 : Int) < 0) = false := by decide
  simp only [e0, cond_false, Option.bind_some]
  have e1 : base_wideGcd ((W n).1, (W n).2.1, ()) ((W d).1, (W d).2.1, ()) = some (W (Int.gcd n d)) := wideGcd_ok n d (by omega) (by omega)
  rw [e1]
  simp only [Option.bind_some]
  have hg := gcd_posd (n := n) hd
  have hgd : ((Int.gcd n d : Nat) : Int).natAbs ≤ d.natAbs := by
    have := Nat.le_of_dvd (show 0 < d.natAbs by omega) (Nat.gcd_dvd_right n.natAbs d.natAbs)
    simpa [Int.gcd] using this
  have hgl : wl (Int.gcd n d : Int) ≤ 2000 := Nat.le_trans (wl_mono hgd) ld
  rw [WideOf_ok (by omega)]
  simp only [Option.bind_some]
  rw [WideCmp_ok _ _ (by omega) (by rw [wl_one]; omega)]
  simp only [Option.bind_some, bif_dec]
  by_cases h1 : (Int.gcd n d : Int) = 1
  · rw [if_pos (by rw [h1]; rfl)]
    unfold RQ rn rd_ RW
    rw [h1]; simp
  · rw [if_neg (by rw [sign_zero]; omega)]
    have e2 : base_WideFloor ((W n).1, (W n).2.1, ()) (W (Int.gcd n d)) = some (W (rn n d)) := WideFloor_ok n _ hg (by omega) (by omega)
    have e3 : base_WideFloor ((W d).1, (W d).2.1, ()) (W (Int.gcd n d)) = some (W (rd_ n d)) := WideFloor_ok d _ hg (by omega) (by omega)
    rw [e2]
    simp only [Option.bind_some]
    rw [e3]
    rfl
theorem RatioOf_ok {n d : Int} (hd : 0 < d) (hn : -9223372036854775807 ≤ n ∧ n ≤ 9223372036854775807) (hd2 : d ≤ 9223372036854775807) : base_RatioOf n d = some (RQ n d) := by
  unfold base_RatioOf
  rw [WideOf_ok hn]
  simp only [Option.bind_some]
  rw [WideOf_ok (by omega)]
  simp only [Option.bind_some]
  rw [RatioMake_ok hd (Nat.le_trans (wl_int (by omega)) (by omega)) (Nat.le_trans (wl_int (by omega)) (by omega))]
  rfl
theorem RatioNeg_ok {n d : Int} : base_RatioNeg (RQ n d) = some (RQ (-n) d) := by
  unfold base_RatioNeg
  have e : base_WideNeg ((RQ n d).1, (RQ n d).2.1, ()) = some (W (-(rn n d))) := WideNeg_ok (rn n d)
  rw [e]
  have e1 : rn (-n) d = -(rn n d) := by unfold rn; rw [Int.neg_gcd, Int.neg_ediv_of_dvd (Int.gcd_dvd_left ..)]
  have e2 : rd_ (-n) d = rd_ n d := by unfold rd_; rw [Int.neg_gcd]
  unfold RQ
  rw [e1, e2]
  rfl
theorem wl_rn {n d : Int} (h : 0 < d) : wl (rn n d) ≤ wl n := wl_mono (rn_le h)
theorem wl_rd {n d : Int} (h : 0 < d) : wl (rd_ n d) ≤ wl d := wl_mono (rd_le h)
theorem RatioAdd_ok {n d m k : Int} (hd : 0 < d) (hk : 0 < k) (l1 : wl n ≤ 400) (l2 : wl d ≤ 400) (l3 : wl m ≤ 400) (l4 : wl k ≤ 400) :
    base_RatioAdd (RQ n d) (RQ m k) = some (RQ (n * k + m * d) (d * k)) := by
  unfold base_RatioAdd
  have b1 := wl_rn (n := n) hd
  have b2 := wl_rd (n := n) hd
  have b3 := wl_rn (n := m) hk
  have b4 := wl_rd (n := m) hk
  have e1 : base_WideMul ((RQ n d).1, (RQ n d).2.1, ()) ((RQ m k).2.2.1, (RQ m k).2.2.2.1, ()) = some (W (rn n d * rd_ m k)) := WideMul_ok _ _ (by omega) (by omega)
  have e2 : base_WideMul ((RQ m k).1, (RQ m k).2.1, ()) ((RQ n d).2.2.1, (RQ n d).2.2.2.1, ()) = some (W (rn m k * rd_ n d)) := WideMul_ok _ _ (by omega) (by omega)
  have e3 : base_WideMul ((RQ n d).2.2.1, (RQ n d).2.2.2.1, ()) ((RQ m k).2.2.1, (RQ m k).2.2.2.1, ()) = some (W (rd_ n d * rd_ m k)) := WideMul_ok _ _ (by omega) (by omega)
  have c1 := wl_mul (rn n d) (rd_ m k)
  have c2 := wl_mul (rn m k) (rd_ n d)
  have c3 := wl_mul (rd_ n d) (rd_ m k)
  have c4 := wl_add (rn n d * rd_ m k) (rn m k * rd_ n d)
  rw [e1, e2, e3]
  simp only [Option.bind_some]
  rw [WideAdd_ok _ _ (by omega) (by omega)]
  simp only [Option.bind_some]
  have p1 := rd_pos (n := n) hd
  have p2 := rd_pos (n := m) hk
  rw [RatioMake_ok (Int.mul_pos p1 p2) (by omega) (by omega)]
  simp only [Option.bind_some]
  rw [RQ_congr (Int.mul_pos p1 p2) (Int.mul_pos hd hk)]
  have f1 := rn_eq n d
  have f2 := rd_eq n d
  have f3 := rn_eq m k
  have f4 := rd_eq m k
  generalize (Int.gcd n d : Int) = g at *
  generalize (Int.gcd m k : Int) = h at *
  generalize rn n d = n1 at *
  generalize rd_ n d = d1 at *
  generalize rn m k = m1 at *
  generalize rd_ m k = k1 at *
  subst f1 f2 f3 f4
  grind
theorem RatioSub_ok {n d m k : Int} (hd : 0 < d) (hk : 0 < k) (l1 : wl n ≤ 400) (l2 : wl d ≤ 400) (l3 : wl m ≤ 400) (l4 : wl k ≤ 400) :
    base_RatioSub (RQ n d) (RQ m k) = some (RQ (n * k - m * d) (d * k)) := by
  unfold base_RatioSub
  rw [RatioNeg_ok]
  simp only [Option.bind_some]
  rw [RatioAdd_ok hd hk l1 l2 (by rw [wl_neg]; exact l3) l4]
  have : n * k + -m * d = n * k - m * d := by rw [Int.neg_mul]; omega
  rw [this]; rfl
theorem digs_val {n : Nat} (h : n < 1000000000) : ∀ i, (digs n).getD i 0 = if i = 0 then (n : Int) else 0 := by
  intro i
  by_cases h0 : n = 0
  · subst h0; rw [digs_zero]; simp
  · rw [digs_pos h0]
    have e : n / 1000000000 = 0 := by omega
    rw [e, digs_zero]
    cases i with
    | zero => simp; omega
    | succ i => simp
/-- AS AN INT -/
theorem WideInt_ok {n : Int} (h : n.natAbs < 1000000000000000000) : base_WideInt (W n) = some (n, true) := by
  unfold base_WideInt
  have hl : wl n ≤ 2 := wl_le (by simp only [pw]; omega)
  rw [W_len]
  simp only [bif_dec]
  rw [if_neg (by omega)]
  refine Ok.eq ?_
  rw [ok_bind]
  have hd := W_dok n
  have hv := W_dv n
  refine (loop_wf (fun s : Int × Int => (s.2 + 1).toNat)
    (fun s => -1 ≤ s.2 ∧ s.2 < wl n ∧ 0 ≤ s.1 ∧ dv ((W n).2.1.drop (s.2 + 1).toNat) = s.1)
    (fun r : Int => r = (n.natAbs : Int)) ?_ ?_).mono ?_
  · rw [wid (by omega) (by omega)]
    have e1 : ((wl n : Int) - 1 + 1).toNat = wl n := by omega
    dsimp only
    refine ⟨by omega, by omega, by omega, ?_⟩
    rw [e1, List.drop_eq_nil_of_le (by rw [W_len]; omega)]; rfl
  · rintro ⟨v, i⟩ ⟨h0, h1, h2, h3⟩
    simp only at h0 h1 h2 h3
    by_cases hi : i ≥ 0
    · rw [if_pos hi]
      obtain ⟨i, rfl⟩ : ∃ k : Nat, i = (k : Int) := ⟨i.toNat, by omega⟩
      have e1 : ((i : Int) + 1).toNat = i + 1 := by omega
      rw [e1] at h3
      rw [idx_int (by omega) (by rw [W_len]; omega)]
      simp only [Option.bind_some, Int.toNat_natCast]
      have ht := dv_top (l := (W n).2.1) (i := i) (by rw [W_len]; omega)
      have hg := dok_get hd i
      have hlt : v < 1000000000000000000 := by
        have := dv_lt (dok_drop hd (i + 1))
        rw [h3] at this
        have hm := pw_mono (a := ((W n).2.1.drop (i + 1)).length) (b := 1) (by rw [List.length_drop, W_len]; omega)
        simp only [pw] at hm
        omega
      have hlt' : v < 1000000000 := by
        have := dv_lt (dok_drop hd (i + 1))
        rw [h3] at this
        have hm := pw_mono (a := ((W n).2.1.drop (i + 1)).length) (b := 1) (by rw [List.length_drop, W_len]; omega)
        simp only [pw] at hm
        omega
      rw [wid (n := v * 1000000000) (by omega) (by omega), wid (n := v * 1000000000 + _) (by omega) (by omega), wid (n := (i : Int) - 1) (by omega) (by omega), rnd_inl]
      have e2 : ((i : Int) - 1 + 1).toNat = i := by omega
      dsimp only
      refine ⟨⟨by omega, by omega, by omega, ?_⟩, by omega⟩
      rw [e2, ht, h3]; omega
    · rw [if_neg hi, rnd_inr]
      have e1 : (i + 1).toNat = 0 := by omega
      rw [e1] at h3
      rw [← h3]
      exact hv
  · rintro r rfl
    have := Int.sign_mul_natAbs n
    rw [W_sign, this, wid (by omega) (by omega), ok_some]
theorem within_ok (a b c : Int) : base_Within a b c = some (decide (b ≤ a ∧ a ≤ c)) := by
  unfold base_Within
  by_cases h1 : b ≤ a <;> by_cases h2 : a ≤ c <;> simp [h1, h2]
theorem RatioFrac_ok {n d : Int} (hd : 0 < d) (h1 : (rn n d).natAbs ≤ 1000000000) (h2 : rd_ n d ≤ 1000000000) : base_RatioFrac (RQ n d) = some ((rn n d, rd_ n d, ()), true) := by
  unfold base_RatioFrac
  have hp := rd_pos (n := n) hd
  have e1 : base_WideInt ((RQ n d).1, (RQ n d).2.1, ()) = some (rn n d, true) := WideInt_ok (by omega)
  have e2 : base_WideInt ((RQ n d).2.2.1, (RQ n d).2.2.2.1, ()) = some (rd_ n d, true) := WideInt_ok (by omega)
  rw [e1, e2]
  simp only [Option.bind_some, Bool.not_true, cond_false]
  have e3 : base_IsSmall (rn n d, rd_ n d, ()) = some true := by
    unfold base_IsSmall
    rw [within_ok, within_ok]
    simp only [Option.bind_some]
    have f1 : decide (-1000000000 ≤ rn n d ∧ rn n d ≤ 1000000000) = true := by simp; omega
    have f2 : decide (1 ≤ rd_ n d ∧ rd_ n d ≤ 1000000000) = true := by simp; omega
    rw [f1, f2]; rfl
  rw [e3]; rfl
theorem RatioCmp_ok {n d m k : Int} (hd : 0 < d) (hk : 0 < k) (l1 : wl n ≤ 400) (l2 : wl d ≤ 400) (l3 : wl m ≤ 400) (l4 : wl k ≤ 400) :
    base_RatioCmp (RQ n d) (RQ m k) = some (n * k - m * d).sign := by
  unfold base_RatioCmp
  have b1 := wl_rn (n := n) hd
  have b2 := wl_rd (n := n) hd
  have b3 := wl_rn (n := m) hk
  have b4 := wl_rd (n := m) hk
  have e1 : base_WideMul ((RQ n d).1, (RQ n d).2.1, ()) ((RQ m k).2.2.1, (RQ m k).2.2.2.1, ()) = some (W (rn n d * rd_ m k)) := WideMul_ok _ _ (by omega) (by omega)
  have e2 : base_WideMul ((RQ m k).1, (RQ m k).2.1, ()) ((RQ n d).2.2.1, (RQ n d).2.2.2.1, ()) = some (W (rn m k * rd_ n d)) := WideMul_ok _ _ (by omega) (by omega)
  have c1 := wl_mul (rn n d) (rd_ m k)
  have c2 := wl_mul (rn m k) (rd_ n d)
  rw [e1, e2]
  simp only [Option.bind_some]
  rw [WideCmp_ok _ _ (by omega) (by omega)]
  simp only [Option.bind_some]
  have f1 := rn_eq n d
  have f2 := rd_eq n d
  have f3 := rn_eq m k
  have f4 := rd_eq m k
  have g1 := gcd_posd (n := n) hd
  have g2 := gcd_posd (n := m) hk
  have key : n * k - m * d = (rn n d * rd_ m k - rn m k * rd_ n d) * (Int.gcd n d * Int.gcd m k) := by
    have h : ∀ g h n1 d1 m1 k1 : Int, (n1 * g) * (k1 * h) - (m1 * h) * (d1 * g) = (n1 * k1 - m1 * d1) * (g * h) := by intros; grind
    have := h (Int.gcd n d) (Int.gcd m k) (rn n d) (rd_ n d) (rn m k) (rd_ m k)
    rw [f1, f2, f3, f4] at this
    exact this
  rw [key, Int.sign_mul, Int.sign_eq_one_of_pos (Int.mul_pos g1 g2), Int.mul_one]
end Go.Proofs.Ytpiggpgocnlomaa
end
section
/-
  IMAGES: plain lemmas about the typed functions of centers.
-/
set_option linter.unusedVariables false
set_option linter.unusedSimpArgs false
namespace Go.Proofs.Ytpiggpgocnlomaa
open Go Go.Ab Go.Tx

theorem loop_bind {σ ρ τ : Type} {f : σ → Option (σ ⊕ ρ)} {s : σ} {k : ρ → Option τ} {P : Option τ → Prop} (n : Nat) (I : Nat → σ → Prop) (Q : ρ → Prop)
    (h0 : I 0 s) (hs : ∀ i s, i ≤ n → I i s → (∃ s', f s = some (.inl s') ∧ i < n ∧ I (i + 1) s') ∨ (∃ r, f s = some (.inr r) ∧ Q r)) (hk : ∀ r, Q r → P (k r)) : P ((loopO f s).bind k) := by
  obtain ⟨r, hr, hq⟩ := loop_inv n I Q hs h0
  rw [hr]; exact hk r hq
theorem w64_id {n : Int} (h1 : -9223372036854775808 ≤ n) (h2 : n ≤ 9223372036854775807) : w64 n = n := wrap_id h1 h2
theorem idx_at {α : Type} {l : List α} {n : Int} {i : Nat} {a : α} (hn : n = i) (h : l[i]? = some a) : idx l n = some a := by subst hn; exact idx_of h

theorem Within_eq (a b c : Int) : base_Within a b c = some (decide (b ≤ a ∧ a ≤ c)) := by
  unfold base_Within
  by_cases h1 : b ≤ a <;> by_cases h2 : a ≤ c <;> simp [h1, h2]
theorem within_eq (a b c : Int) : sensor_within a b c = some (decide (b ≤ a ∧ a ≤ c)) := by
  unfold sensor_within
  by_cases h1 : b ≤ a <;> by_cases h2 : a ≤ c <;> simp [h1, h2]

/-! ### sums over rows -/
def pM (r : List Int) : Nat → Int
  | 0 => 0
  | j + 1 => pM r j + r.getD j 0
def pX (r : List Int) : Nat → Int
  | 0 => 0
  | j + 1 => pX r j + j * r.getD j 0
def FM (R : Nat → List Int) : Nat → Int
  | 0 => 0
  | i + 1 => FM R i + pM (R i) (R i).length
def FX (R : Nat → List Int) : Nat → Int
  | 0 => 0
  | i + 1 => FX R i + pX (R i) (R i).length
def FY (R : Nat → List Int) : Nat → Int
  | 0 => 0
  | i + 1 => FY R i + i * pM (R i) (R i).length
def ok255 (r : List Int) : Prop := ∀ j, 0 ≤ r.getD j 0 ∧ r.getD j 0 ≤ 255
def rw_ (a : List (List Int)) (y : Nat) : List Int := a.getD y []
structure ImgOk (a : List (List Int)) (w : Nat) : Prop where
  len1 : 1 ≤ a.length
  len2 : a.length ≤ 10
  w1 : 1 ≤ w
  w2 : w ≤ 10
  rows : ∀ y, y < a.length → (rw_ a y).length = w
  px : ∀ y, y < a.length → ok255 (rw_ a y)
  sum : FM (rw_ a) a.length ≠ 0

theorem pM_bd {r : List Int} (h : ok255 r) : ∀ j, 0 ≤ pM r j ∧ pM r j ≤ 255 * j
  | 0 => by simp [pM]
  | j + 1 => by
    have h1 := pM_bd h j
    have h2 := h j
    simp only [pM]; omega
theorem mul_bd {a b A B : Int} (h1 : 0 ≤ a) (h2 : a ≤ A) (h3 : 0 ≤ b) (h4 : b ≤ B) : 0 ≤ a * b ∧ a * b ≤ A * B :=
  ⟨Int.mul_nonneg h1 h3, Int.mul_le_mul h2 h4 h3 (by omega)⟩
theorem pX_bd {r : List Int} (h : ok255 r) : ∀ j, j ≤ 10 → 0 ≤ pX r j ∧ pX r j ≤ 2550 * j
  | 0, _ => by simp [pX]
  | j + 1, hj => by
    have h1 := pX_bd h j (by omega)
    have h2 := h j
    have h3 := mul_bd (a := (j : Int)) (A := 10) (by omega) (by omega) h2.1 h2.2
    simp only [pX]; omega
theorem pX_le {r : List Int} (h : ok255 r) {w : Nat} (hw : 1 ≤ w) : ∀ j, j ≤ w → pX r j ≤ ((w : Int) - 1) * pM r j
  | 0, _ => by simp [pX, pM]
  | j + 1, hj => by
    have h1 := pX_le h hw j (by omega)
    have h2 := h j
    have h3 : (j : Int) * r.getD j 0 ≤ ((w : Int) - 1) * r.getD j 0 := Int.mul_le_mul_of_nonneg_right (by omega) h2.1
    simp only [pX, pM, Int.mul_add]; omega

theorem FM_bd {R : Nat → List Int} : ∀ i, i ≤ 10 → (∀ y, y < i → ok255 (R y) ∧ (R y).length ≤ 10) → 0 ≤ FM R i ∧ FM R i ≤ 2550 * i
  | 0, _, _ => by simp [FM]
  | i + 1, hi, h => by
    have h1 := FM_bd i (by omega) fun y hy => h y (by omega)
    have h2 := pM_bd (h i (by omega)).1 (R i).length
    have h3 := (h i (by omega)).2
    simp only [FM]; omega
theorem FX_bd {R : Nat → List Int} : ∀ i, i ≤ 10 → (∀ y, y < i → ok255 (R y) ∧ (R y).length ≤ 10) → 0 ≤ FX R i ∧ FX R i ≤ 25500 * i
  | 0, _, _ => by simp [FX]
  | i + 1, hi, h => by
    have h1 := FX_bd i (by omega) fun y hy => h y (by omega)
    have h3 := (h i (by omega)).2
    have h2 := pX_bd (h i (by omega)).1 (R i).length h3
    simp only [FX]; omega
theorem FY_bd {R : Nat → List Int} : ∀ i, i ≤ 10 → (∀ y, y < i → ok255 (R y) ∧ (R y).length ≤ 10) → 0 ≤ FY R i ∧ FY R i ≤ 25500 * i
  | 0, _, _ => by simp [FY]
  | i + 1, hi, h => by
    have h1 := FY_bd i (by omega) fun y hy => h y (by omega)
    have h3 := (h i (by omega)).2
    have h2 := pM_bd (h i (by omega)).1 (R i).length
    have h4 := mul_bd (a := (i : Int)) (A := 10) (b := pM (R i) (R i).length) (B := 2550) (by omega) (by omega) h2.1 (by omega)
    simp only [FY]; omega
theorem FX_le {R : Nat → List Int} {w : Nat} (hw : 1 ≤ w) : ∀ i, (∀ y, y < i → ok255 (R y) ∧ (R y).length ≤ w) → FX R i ≤ ((w : Int) - 1) * FM R i
  | 0, _ => by simp [FX, FM]
  | i + 1, h => by
    have h1 := FX_le hw i fun y hy => h y (by omega)
    have h2 := pX_le (h i (by omega)).1 hw (R i).length (h i (by omega)).2
    simp only [FX, FM, Int.mul_add]; omega
theorem FY_le {R : Nat → List Int} {n : Nat} (hn : 1 ≤ n) : ∀ i, i ≤ n → (∀ y, y < i → ok255 (R y)) → FY R i ≤ ((n : Int) - 1) * FM R i
  | 0, _, _ => by simp [FY, FM]
  | i + 1, hi, h => by
    have h1 := FY_le hn i (by omega) fun y hy => h y (by omega)
    have h2 := pM_bd (h i (by omega)) (R i).length
    have h3 : (i : Int) * pM (R i) (R i).length ≤ ((n : Int) - 1) * pM (R i) (R i).length := Int.mul_le_mul_of_nonneg_right (by omega) h2.1
    simp only [FY, FM, Int.mul_add]; omega

theorem getD_of {α : Type} {l : List α} {i : Nat} {a d : α} (h : l[i]? = some a) : l.getD i d = a := by simp [h]
theorem rw_at {a : List (List Int)} {y : Nat} (h : y < a.length) : a[y]? = some (rw_ a y) := by simp [rw_, h]
theorem px_at {r : List Int} {j : Nat} (h : j < r.length) : r[j]? = some (r.getD j 0) := by simp [h]

/-! ### copies -/
theorem CopyInts_eq {l : List Int} (h : l.length ≤ 1000) : base_CopyInts l = some l := by
  unfold base_CopyInts
  rw [app_of (by simp; omega)]; rfl
theorem CopyLists_eq {a : List (List Int)} (h : a.length ≤ 1000) (hr : ∀ y, y < a.length → (rw_ a y).length ≤ 1000) : base_CopyLists a = some a := by
  unfold base_CopyLists
  refine loop_bind (P := fun o => o = some a) a.length (fun i s => s = (a.take i, (i : Int))) (fun r => r = a) (by simp) ?_ (fun r hr => by rw [hr])
  rintro i s hi rfl
  by_cases hlt : i < a.length
  · left
    refine ⟨(a.take (i + 1), ((i + 1 : Nat) : Int)), ?_, hlt, rfl⟩
    simp only [show (i : Int) < (a.length : Int) by omega, decide_true, cond_true]
    rw [idx_of (rw_at hlt)]
    simp only [Option.bind_some]
    rw [CopyInts_eq (hr i hlt)]
    simp only [Option.bind_some]
    rw [app_of (by simp; omega)]
    simp only [Option.bind_some]
    rw [w64_id (by omega) (by omega)]
    have : a.take i ++ [rw_ a i] = a.take (i + 1) := by rw [List.take_add_one, rw_at hlt]; rfl
    rw [this]; simp
  · right
    have : i = a.length := by omega
    subst this
    exact ⟨a, by simp, rfl⟩

/-! ### the sums of an image -/
theorem weigh_eq {a : List (List Int)} (hl : a.length ≤ 10) (hr : ∀ y, y < a.length → ok255 (rw_ a y) ∧ (rw_ a y).length ≤ 10) :
    sensor_weigh a = some (FX (rw_ a) a.length, FY (rw_ a) a.length, FM (rw_ a) a.length, ()) := by
  unfold sensor_weigh
  refine loop_bind (P := fun o => o = some (FX (rw_ a) a.length, FY (rw_ a) a.length, FM (rw_ a) a.length, ())) a.length (fun i s => s = ((i : Int), FX (rw_ a) i, FY (rw_ a) i, FM (rw_ a) i))
    (fun r => r = (FX (rw_ a) a.length, FY (rw_ a) a.length, FM (rw_ a) a.length)) rfl ?_ (fun r hr => by rw [hr])
  rintro i s hi rfl
  have hX := FX_bd (R := rw_ a) i (by omega) fun y hy => hr y (by omega)
  have hY := FY_bd (R := rw_ a) i (by omega) fun y hy => hr y (by omega)
  have hM := FM_bd (R := rw_ a) i (by omega) fun y hy => hr y (by omega)
  by_cases hlt : i < a.length
  · left
    refine ⟨(((i + 1 : Nat) : Int), FX (rw_ a) (i + 1), FY (rw_ a) (i + 1), FM (rw_ a) (i + 1)), ?_, hlt, rfl⟩
    simp only [show (i : Int) < (a.length : Int) by omega, decide_true, cond_true]
    rw [idx_of (rw_at hlt)]
    simp only [Option.bind_some]
    obtain ⟨h255, h10⟩ := hr i hlt
    generalize hrr : rw_ a i = r at h255 h10
    refine loop_bind (P := fun o => o = some (Sum.inl (((i + 1 : Nat) : Int), FX (rw_ a) (i + 1), FY (rw_ a) (i + 1), FM (rw_ a) (i + 1)))) r.length (fun j s => s = ((j : Int), FX (rw_ a) i + pX r j, FY (rw_ a) i + i * pM r j, FM (rw_ a) i + pM r j))
      (fun q => q = (FX (rw_ a) i + pX r r.length, FY (rw_ a) i + i * pM r r.length, FM (rw_ a) i + pM r r.length)) (by simp [pX, pM]) ?_ (fun q hq => ?_)
    · rintro j s hj rfl
      have b1 := pX_bd h255 j (by omega)
      have b2 := pM_bd h255 j
      have b3 := mul_bd (a := (i : Int)) (A := 10) (b := pM r j) (B := 2550) (by omega) (by omega) b2.1 (by omega)
      by_cases hjl : j < r.length
      · left
        refine ⟨(((j + 1 : Nat) : Int), FX (rw_ a) i + pX r (j + 1), FY (rw_ a) i + i * pM r (j + 1), FM (rw_ a) i + pM r (j + 1)), ?_, hjl, rfl⟩
        have b4 := h255 j
        have b5 := mul_bd (a := (i : Int)) (A := 10) (by omega) (by omega) b4.1 b4.2
        have b6 := mul_bd (a := (j : Int)) (A := 10) (by omega) (by omega) b4.1 b4.2
        simp only [show (j : Int) < (r.length : Int) by omega, decide_true, cond_true]
        rw [idx_of (px_at hjl)]
        simp only [Option.bind_some]
        rw [w64_id (n := (j : Int) + 1) (by omega) (by omega), w64_id (n := (j : Int) * r.getD j 0) (by omega) (by omega), w64_id (n := (i : Int) * r.getD j 0) (by omega) (by omega),
          w64_id (n := FX (rw_ a) i + pX r j + (j : Int) * r.getD j 0) (by omega) (by omega), w64_id (n := FY (rw_ a) i + i * pM r j + (i : Int) * r.getD j 0) (by omega) (by omega), w64_id (n := FM (rw_ a) i + pM r j + r.getD j 0) (by omega) (by omega)]
        simp only [pX, pM, Int.mul_add, Int.add_assoc]
        rfl
      · right
        have : j = r.length := by omega
        subst this
        exact ⟨_, by simp, rfl⟩
    · subst hq
      simp only
      rw [w64_id (by omega) (by omega)]
      simp only [FX, FY, FM, hrr]
      rfl
  · right
    have : i = a.length := by omega
    subst this
    exact ⟨_, by simp, rfl⟩

/-! ### the greatest common divisor -/
theorem euclid {f : Int × Int → Option ((Int × Int) ⊕ Int)} (hf : ∀ s, f s = if s.2 = 0 then some (.inr s.1) else some (.inl (s.2, s.1.tmod s.2))) : ∀ (n : Nat) (a b : Int), b.natAbs ≤ n → ∃ r, loopO f (a, b) = some r ∧ r.natAbs = Int.gcd a b := by
  intro n
  induction n with
  | zero =>
    intro a b hb
    have : b = 0 := by omega
    subst this
    exact ⟨a, loopO_inr (by rw [hf]; simp), by simp⟩
  | succ n ih =>
    intro a b hb
    by_cases h0 : b = 0
    · subst h0
      exact ⟨a, loopO_inr (by rw [hf]; simp), by simp⟩
    · have hlt : (a.tmod b).natAbs < b.natAbs := by
        rw [Int.natAbs_tmod]; exact Nat.mod_lt _ (by omega)
      obtain ⟨r, h1, h2⟩ := ih b (a.tmod b) (by omega)
      refine ⟨r, by rw [loopO_inl (s' := (b, a.tmod b)) (by rw [hf]; simp [h0])]; exact h1, ?_⟩
      rw [h2]
      unfold Int.gcd
      rw [Int.natAbs_tmod, Nat.gcd_comm, ← Nat.gcd_rec, Nat.gcd_comm]
theorem divisor_eq {n d : Int} (hn : n.natAbs ≤ 4611686018427387904) (hd : d.natAbs ≤ 4611686018427387904) (h0 : d ≠ 0) : sensor_divisor [n, d] = some (Int.gcd n d : Int) := by
  unfold sensor_divisor
  have hg0 : Int.gcd n d ≤ d.natAbs := Nat.le_of_dvd (by omega) (Int.gcd_dvd_natAbs_right n d)
  refine loop_bind (P := fun o => o = some (Int.gcd n d : Int)) 2 (fun i s => s.2 = (i : Int) ∧ s.1.natAbs = (if i = 0 then 0 else if i = 1 then n.natAbs else Int.gcd n d)) (fun r => r.natAbs = Int.gcd n d) ⟨rfl, rfl⟩ ?_ (fun r hr => ?_)
  · rintro i ⟨g, s⟩ hi ⟨h1, h2⟩
    simp only at h1 h2
    subst h1
    have step : ∀ (x : Int) (i' : Nat), [n, d][i]? = some x → i < 2 → (∃ s', ((bif decide ((i : Int) < ([n, d].length : Int)) then
        (idx [n, d] (i : Int)).bind fun x3 => (loopO (fun (s5 : (Int × Int)) => bif !(decide (s5.2 = 0)) then bif decide (s5.2 = 0) then none else some (.inl (s5.2, s5.1.tmod s5.2)) else some (.inr s5.1)) (g, x3)).bind fun (p6 : Int) => some (.inl (p6, w64 ((i : Int) + 1)))
        else some (.inr g)) : Option ((Int × Int) ⊕ Int)) = some (.inl s') ∧ s'.2 = ((i + 1 : Nat) : Int) ∧ s'.1.natAbs = Int.gcd g x) := fun x i' hx hi2 => by
      obtain ⟨r, h3, h4⟩ := euclid (f := fun (s5 : (Int × Int)) => bif !(decide (s5.2 = 0)) then bif decide (s5.2 = 0) then none else some (.inl (s5.2, s5.1.tmod s5.2)) else some (.inr s5.1)) (fun s => by
        by_cases h : s.2 = 0 <;> simp [h]) x.natAbs g x (Nat.le_refl _)
      refine ⟨(r, ((i + 1 : Nat) : Int)), ?_, rfl, h4⟩
      have hl : (i : Int) < ([n, d].length : Int) := by simp; omega
      simp only [hl, decide_true, cond_true]
      rw [idx_of hx]
      simp only [Option.bind_some]
      rw [h3, w64_id (by omega) (by omega)]
      rfl
    match i, hi, h2 with
    | 0, _, h2 =>
      left
      obtain ⟨s', h5, h6, h7⟩ := step n 0 rfl (by omega)
      refine ⟨s', h5, by omega, h6, ?_⟩
      have : g = 0 := by simpa using h2
      rw [h7, this]; simp
    | 1, _, h2 =>
      left
      obtain ⟨s', h5, h6, h7⟩ := step d 0 rfl (by omega)
      refine ⟨s', h5, by omega, h6, ?_⟩
      simp at h2
      rw [h7]; unfold Int.gcd; rw [h2]; simp
    | 2, _, h2 =>
      right
      exact ⟨g, by simp, by simpa using h2⟩
  · rw [w64_id (by omega) (by omega)]
    congr 1
    omega
theorem fraction_eq {n d : Int} (hn : n.natAbs ≤ 4611686018427387904) (hd : d ≤ 4611686018427387904) (h0 : 0 < d) :
    sensor_fraction n d = some (n.tdiv (Int.gcd n d : Int), d.tdiv (Int.gcd n d : Int), ()) := by
  unfold sensor_fraction
  rw [divisor_eq hn (by omega) (by omega)]
  have hg : 0 < Int.gcd n d := Nat.pos_of_ne_zero fun h => by rw [Int.gcd_eq_zero_iff] at h; omega
  have hg' : ((Int.gcd n d : Nat) : Int) ≠ 0 := by omega
  simp only [Option.bind_some, hg', decide_false, cond_false]
  have b : ∀ x : Int, x.natAbs ≤ 4611686018427387904 → (x.tdiv (Int.gcd n d : Int)).natAbs ≤ 4611686018427387904 := fun x hx => by
    rw [Int.natAbs_tdiv]; exact Nat.le_trans (Nat.div_le_self _ _) hx
  have b1 := b n hn
  have b2 := b d (by omega)
  rw [w64_id (by omega) (by omega), w64_id (by omega) (by omega)]
end Go.Proofs.Ytpiggpgocnlomaa
end
section
/-
  CALIBRATIONS: pairs, lines, sums.
-/
set_option linter.unusedVariables false
set_option linter.unusedSimpArgs false
namespace Go.Proofs.Ytpiggpgocnlomaa
open Go Go.Ab Go.Tx Go.Wide

abbrev Pr := Int × Int × Unit
abbrev Ln := Int × Int × Int × Unit
theorem sized_ok (a k : Int) (h0 : 0 ≤ k) (h1 : k ≤ 4611686018427387904) : sensor_sized a k = some (decide (-k ≤ a ∧ a ≤ k)) := by
  unfold sensor_sized
  rw [wid (by omega) (by omega), within_eq]
  simp only [Option.bind_some]
  congr 2
  simp
theorem unless_ok (b : Bool) (e : Int) : sensor_unless b e = some (if b then 0 else e) := by cases b <;> rfl
theorem first_ok (l : List Int) (h : l.length ≤ 1000000000) : sensor_first l = some (fst0 l) := by
  unfold sensor_first; exact for_first l h
theorem divisor_ok (l : List Int) (hl : l.length ≤ 1000000000) (hb : ∀ x ∈ l, x.natAbs ≤ 4611686018427387904) : sensor_divisor l = some (gcdL l : Int) := by
  unfold sensor_divisor; exact divisor_loop l hl hb
theorem Gcd_ok {a b : Int} (ha : a.natAbs ≤ 4611686018427387904) (hb : b.natAbs ≤ 4611686018427387904) : base_Gcd a b = some (Int.gcd a b : Int) := by
  unfold base_Gcd
  refine Ok.eq ?_
  rw [ok_bind]
  refine (Gcd_loop a b ha hb).mono fun r hr => ?_
  have := gcd_le ha hb
  rw [Size_eq (by omega)]
  simp only [Option.bind_some, ok_some]
  omega
theorem CopyPairs_ok {l : List Pr} (h : l.length ≤ 1000000000) : ref07_CopyPairs l = some l := by
  unfold ref07_CopyPairs
  rw [app_nil (by omega)]; rfl

/-! ### pairs -/
def okP (p : Pr) : Bool := decide (-1000 ≤ p.1 ∧ p.1 ≤ 1000) && decide (-1000 ≤ p.2.1 ∧ p.2.1 ≤ 1000)
def pairE (l : List Pr) : Int := if l.length = 0 then 10 else if 10 < l.length then 8 else if l.any (fun p => !okP p) then 2 else 0
theorem pairsErr_ok {l : List Pr} (h : l.length ≤ 1000000000) : sensor_pairsErr l = some (pairE l) := by
  unfold sensor_pairsErr
  have hc : slices_ContainsFunc_Lapi_SensorPair_api_SensorPair_of_sensor_pairsErr_1 l = some (l.any fun p => !okP p) := by
    unfold slices_ContainsFunc_Lapi_SensorPair_api_SensorPair_of_sensor_pairsErr_1 slices_IndexFunc_Lapi_SensorPair_api_SensorPair_of_sensor_pairsErr_1
    refine for_any l sensor_pairsErr_1 _ (fun p _ => ?_) h
    unfold sensor_pairsErr_1
    rw [sized_ok _ _ (by omega) (by omega), sized_ok _ _ (by omega) (by omega)]
    unfold okP
    simp only [Option.bind_some]
    cases decide (-1000 ≤ p.1 ∧ p.1 ≤ 1000) <;> cases decide (-1000 ≤ p.2.1 ∧ p.2.1 ≤ 1000) <;> rfl
  rw [hc]
  simp only [unless_ok, Option.bind_some]
  rw [first_ok _ (by simp)]
  simp only [Option.bind_some]
  unfold pairE
  by_cases h0 : l.length = 0
  · have h0' : ¬ ((l.length : Int) > 0) := by omega
    simp [h0, fst0]
  · have h0' : (l.length : Int) > 0 := by omega
    by_cases h4 : 10 < l.length
    · have h4' : ¬ ((l.length : Int) ≤ 10) := by omega
      simp [h0, h0', h4, h4', fst0]
    · have h4' : (l.length : Int) ≤ 10 := by omega
      cases hb : l.any (fun p => !okP p) <;> simp [h0, h0', h4, h4', fst0]
def in64 (n : Int) : Prop := -9223372036854775808 ≤ n ∧ n ≤ 9223372036854775807
theorem Size_gt {n : Int} (h : in64 n) : ∃ v, base_Size n = some v ∧ ((v > 1000 ∨ n < -1000) ↔ ¬ (-1000 ≤ n ∧ n ≤ 1000)) := by
  unfold base_Size
  refine ⟨_, rfl, ?_⟩
  obtain ⟨h1, h2⟩ := h
  by_cases c : n = -9223372036854775808
  · subst c
    constructor
    · intro _; omega
    · intro _; exact .inr (by omega)
  · rw [wid (by omega) (by omega)]; omega
theorem refPairsErr_ok {l : List Pr} (h : l.length ≤ 1000000000) (hr : ∀ p ∈ l, in64 p.1 ∧ in64 p.2.1) : ref07_PairsErr l = some (pairE l) := by
  unfold ref07_PairsErr pairE
  by_cases h0 : l.length = 0
  · simp [h0]
  have h0' : ¬ ((l.length : Int) = 0) := by omega
  by_cases h4 : 10 < l.length
  · have h4' : (l.length : Int) > 10 := by omega
    simp [h0, h0', h4, h4']
  have h4' : ¬ ((l.length : Int) > 10) := by omega
  simp only [h0, h0', h4, h4', decide_false, cond_false, if_false]
  rw [for_find l _ (fun _ p => if !okP p then some (2 : Int) else none) (fun i p hi => by
    have := len_lt hi
    obtain ⟨r1, r2⟩ := hr p (List.mem_of_getElem? hi)
    obtain ⟨v, hv, f1⟩ := Size_gt r1
    obtain ⟨u, hu, f2⟩ := Size_gt r2
    rw [idx_of hi]
    simp only [Option.bind_some]
    rw [hv, hu]
    simp only [Option.bind_some]
    have key : (bif decide (v > 1000) then some true else bif decide (u > 1000) then some true else bif decide (p.1 < -1000) then some true else some (decide (p.2.1 < -1000))) = some (!okP p) := by
      unfold okP
      by_cases c1 : v > 1000
      · have : ¬ (-1000 ≤ p.1 ∧ p.1 ≤ 1000) := f1.1 (.inl c1)
        simp only [c1, this, decide_true, decide_false, cond_true, Bool.false_and, Bool.not_false]
      · by_cases c2 : u > 1000
        · have : ¬ (-1000 ≤ p.2.1 ∧ p.2.1 ≤ 1000) := f2.1 (.inl c2)
          simp only [c1, c2, this, decide_true, decide_false, cond_true, cond_false, Bool.and_false, Bool.not_false]
        · by_cases c3 : p.1 < -1000
          · have : ¬ (-1000 ≤ p.1 ∧ p.1 ≤ 1000) := f1.1 (.inr c3)
            simp only [c1, c2, c3, this, decide_true, decide_false, cond_true, cond_false, Bool.false_and, Bool.not_false]
          · have a1 : (-1000 ≤ p.1 ∧ p.1 ≤ 1000) := Classical.byContradiction fun hn => (f1.2 hn).elim c1 c3
            by_cases c4 : p.2.1 < -1000
            · have : ¬ (-1000 ≤ p.2.1 ∧ p.2.1 ≤ 1000) := f2.1 (.inr c4)
              simp only [c1, c2, c3, c4, this, decide_true, decide_false, cond_false, Bool.and_false, Bool.not_false]
            · have a2 : (-1000 ≤ p.2.1 ∧ p.2.1 ≤ 1000) := Classical.byContradiction fun hn => (f2.2 hn).elim c2 c4
              simp only [c1, c2, c3, c4, a1, a2, and_self, decide_true, decide_false, cond_false, Bool.and_true, Bool.not_true]
    rw [key]
    simp only [Option.bind_some]
    cases hp : okP p
    · simp [stp]
    · simp only [Bool.not_true, cond_false, Bool.false_eq_true, if_false, stp]; rw [wid (by omega) (by omega)]), elim_toSum]
  cases hf : findI (fun _ p => if !okP p then some (2 : Int) else none) 0 l with
  | none =>
    rw [findI_none] at hf
    have hb : l.any (fun p => !okP p) = false := by
      rw [List.any_eq_false]
      intro x hx
      obtain ⟨i, hi⟩ := List.mem_iff_getElem?.1 hx
      have := hf i x hi
      simpa using this
    simp [hb]
  | some r =>
    obtain ⟨i, a, h1, h2, _⟩ := findI_some hf
    have hp : okP a = false := by
      cases hp : okP a
      · rfl
      · simp [hp] at h2
    have hb : l.any (fun p => !okP p) = true := List.any_eq_true.2 ⟨a, List.mem_of_getElem? h1, by simp [hp]⟩
    simp [hp] at h2
    simp [hb, ← h2]
structure PrOk (l : List Pr) : Prop where
  len1 : 1 ≤ l.length
  len2 : l.length ≤ 10
  kn : ∀ p ∈ l, -1000 ≤ p.1 ∧ p.1 ≤ 1000
  rw : ∀ p ∈ l, -1000 ≤ p.2.1 ∧ p.2.1 ≤ 1000
theorem pair_ok {l : List Pr} (h : pairE l = 0) : PrOk l := by
  unfold pairE at h
  by_cases h0 : l.length = 0
  · rw [if_pos h0] at h; omega
  rw [if_neg h0] at h
  by_cases h4 : 10 < l.length
  · rw [if_pos h4] at h; omega
  rw [if_neg h4] at h
  cases hb : l.any (fun p => !okP p)
  · rw [List.any_eq_false] at hb
    have h1 : ∀ p ∈ l, okP p = true := fun p hp => by simpa using hb p hp
    refine ⟨by omega, by omega, fun p hp => ?_, fun p hp => ?_⟩
    · have := h1 p hp; simp [okP] at this; omega
    · have := h1 p hp; simp [okP] at this; omega
  · rw [hb] at h; simp at h

/-! ### lines -/
def gcd3 (g o d : Int) : Nat := Nat.gcd (Int.gcd g o) d.natAbs
theorem gcd3_eq (g o d : Int) : gcdL [g, o, d] = gcd3 g o d := gcdL_three g o d
def mst (x : Ln) : Prop := (1 ≤ x.2.2.1 ∧ x.2.2.1 ≤ 300000000000) ∧ (-300000000000 ≤ x.1 ∧ x.1 ≤ 300000000000) ∧ (-300000000000 ≤ x.2.1 ∧ x.2.1 ≤ 300000000000)
instance (x : Ln) : Decidable (mst x) := inferInstanceAs (Decidable (_ ∧ _))
def lineE (x : Ln) : Int := if mst x then (if gcd3 x.1 x.2.1 x.2.2.1 = 1 then 0 else 3) else 2
theorem CheckLine_ok (x : Ln) : sensor_CheckLine x = some (lineE x) := by
  unfold sensor_CheckLine
  rw [within_eq, sized_ok _ _ (by omega) (by omega), sized_ok _ _ (by omega) (by omega)]
  simp only [Option.bind_some]
  have e : (bif decide (1 ≤ x.2.2.1 ∧ x.2.2.1 ≤ 300000000000) then bif decide (-300000000000 ≤ x.1 ∧ x.1 ≤ 300000000000) then some (decide (-300000000000 ≤ x.2.1 ∧ x.2.1 ≤ 300000000000)) else some false else some false) = some (decide (mst x)) := by
    unfold mst
    by_cases c1 : 1 ≤ x.2.2.1 ∧ x.2.2.1 ≤ 300000000000 <;> by_cases c2 : -300000000000 ≤ x.1 ∧ x.1 ≤ 300000000000 <;> simp only [c1, c2, decide_true, decide_false, cond_true, cond_false, and_true, true_and, false_and, and_false, and_self] <;> rfl
  rw [e]
  simp only [Option.bind_some]
  unfold lineE
  by_cases c : mst x
  · obtain ⟨c1, c2, c3⟩ := c
    have c : mst x := ⟨c1, c2, c3⟩
    rw [if_pos c]
    simp only [c, decide_true, Bool.not_true, cond_false]
    rw [divisor_ok _ (by simp) (by simp; omega), gcd3_eq]
    simp only [Option.bind_some, unless_ok]
    by_cases c4 : gcd3 x.1 x.2.1 x.2.2.1 = 1
    · simp [c4]
    · have : ¬ ((gcd3 x.1 x.2.1 x.2.2.1 : Int) = 1) := by omega
      simp [c4, this]
  · rw [if_neg c]
    simp only [c, decide_false, Bool.not_false, cond_true]
theorem gcd3_bd {g o d : Int} {B : Nat} (h1 : g.natAbs ≤ B) (h2 : o.natAbs ≤ B) (h3 : d.natAbs ≤ B) : gcd3 g o d ≤ B := by
  rw [← gcd3_eq]
  exact gcdF_le (by omega) (by simp [h1, h2, h3])
theorem Gcd3_ok {g o d : Int} {B : Nat} (hB : B ≤ 4611686018427387904) (h1 : g.natAbs ≤ B) (h2 : o.natAbs ≤ B) (h3 : d.natAbs ≤ B) :
    (base_Gcd g o).bind (fun x1 => base_Gcd x1 d) = some (gcd3 g o d : Int) := by
  rw [Gcd_ok (by omega) (by omega)]
  simp only [Option.bind_some]
  have := gcd_le h1 h2
  rw [Gcd_ok (by omega) (by omega)]
  rfl
theorem LineErr_ok (x : Ln) : ref07_LineErr x = some (lineE x) := by
  unfold ref07_LineErr
  rw [Within_eq, Within_eq, Within_eq]
  simp only [Option.bind_some]
  have e : (bif !(decide (1 ≤ x.2.2.1 ∧ x.2.2.1 ≤ 300000000000)) then some true else bif !(decide (-300000000000 ≤ x.1 ∧ x.1 ≤ 300000000000)) then some true else some (!(decide (-300000000000 ≤ x.2.1 ∧ x.2.1 ≤ 300000000000)))) = some (!(decide (mst x))) := by
    unfold mst
    by_cases c1 : 1 ≤ x.2.2.1 ∧ x.2.2.1 ≤ 300000000000 <;> by_cases c2 : -300000000000 ≤ x.1 ∧ x.1 ≤ 300000000000 <;> simp only [c1, c2, decide_true, decide_false, cond_true, cond_false, and_true, true_and, false_and, and_false, and_self, Bool.not_true, Bool.not_false] <;> rfl
  rw [e]
  simp only [Option.bind_some]
  unfold lineE
  by_cases c : mst x
  · obtain ⟨c1, c2, c3⟩ := c
    have c : mst x := ⟨c1, c2, c3⟩
    rw [if_pos c]
    simp only [c, decide_true, Bool.not_true, cond_false]
    rw [← Option.bind_assoc, Gcd3_ok (B := 300000000000) (by omega) (by omega) (by omega) (by omega)]
    simp only [Option.bind_some]
    by_cases c4 : gcd3 x.1 x.2.1 x.2.2.1 = 1
    · simp [c4]
    · have : ¬ ((gcd3 x.1 x.2.1 x.2.2.1 : Int) = 1) := by omega
      simp [c4, this]
  · rw [if_neg c]
    simp only [c, decide_false, Bool.not_false, cond_true]

/-! ### sums -/
def S1 (l : List Pr) : Int := sumF (fun p => p.2.1) l
def SK (l : List Pr) : Int := sumF (fun p => p.1) l
def SQ (l : List Pr) : Int := sumF (fun p => p.2.1 * p.2.1) l
def SP (l : List Pr) : Int := sumF (fun p => p.2.1 * p.1) l
structure Sums (a b c d : Int) : Prop where
  s1 : -10000 ≤ a ∧ a ≤ 10000
  sk : -10000 ≤ b ∧ b ≤ 10000
  sq : -10000000 ≤ c ∧ c ≤ 10000000
  sp : -10000000 ≤ d ∧ d ≤ 10000000
theorem PrOk.sq {l : List Pr} (h : PrOk l) : ∀ p ∈ l, -1000000 ≤ p.2.1 * p.2.1 ∧ p.2.1 * p.2.1 ≤ 1000000 := fun p hp => by
  have := abs_mul_le (h.rw p hp) (h.rw p hp); omega
theorem PrOk.sp {l : List Pr} (h : PrOk l) : ∀ p ∈ l, -1000000 ≤ p.2.1 * p.1 ∧ p.2.1 * p.1 ≤ 1000000 := fun p hp => by
  have := abs_mul_le (h.rw p hp) (h.kn p hp); omega
theorem PrOk.sums {l : List Pr} (h : PrOk l) (i : Nat) : Sums (S1 (l.take i)) (SK (l.take i)) (SQ (l.take i)) (SP (l.take i)) := by
  have h1 := sumF_take_bd (f := fun p : Pr => p.2.1) i (show (0 : Int) ≤ 1000 by omega) h.len2 h.rw
  have h2 := sumF_take_bd (f := fun p : Pr => p.1) i (show (0 : Int) ≤ 1000 by omega) h.len2 h.kn
  have h3 := sumF_take_bd (f := fun p : Pr => p.2.1 * p.2.1) i (show (0 : Int) ≤ 1000000 by omega) h.len2 h.sq
  have h4 := sumF_take_bd (f := fun p : Pr => p.2.1 * p.1) i (show (0 : Int) ≤ 1000000 by omega) h.len2 h.sp
  unfold S1 SK SQ SP
  exact ⟨by omega, by omega, by omega, by omega⟩
theorem PrOk.all {l : List Pr} (h : PrOk l) : Sums (S1 l) (SK l) (SQ l) (SP l) := by
  have := h.sums l.length
  rwa [List.take_length] at this
theorem of_ok {l : List Pr} (h : PrOk l) : sensor_of l = some ((l.length : Int), S1 l, SK l, SQ l, SP l, ()) := by
  unfold sensor_of
  have hl := h.len2
  refine Ok.eq ?_
  rw [ok_bind]
  refine (loop_up l.length (fun i (s : Int × Int × Int × Int × Int × Int) => s = ((i : Int), (l.length : Int), S1 (l.take i), SK (l.take i), SQ (l.take i), SP (l.take i)))
    (fun r => r = ((l.length : Int), S1 l, SK l, SQ l, SP l)) rfl ?_).mono ?_
  · rintro i s hi rfl
    by_cases hlt : i < l.length
    · have e0 : decide ((i : Int) < (l.length : Int)) = true := by simp; omega
      have hp : l[i]? = some l[i] := by simp [hlt]
      have hm := List.mem_of_getElem? hp
      have b := h.sums i
      have b1 := h.kn _ hm
      have b2 := h.rw _ hm
      have b3 := h.sq _ hm
      have b4 := h.sp _ hm
      obtain ⟨c1, c2, c3, c4⟩ := b
      simp only [e0, cond_true]
      rw [idx_of hp]
      simp only [Option.bind_some]
      have n1 := sumF_next (fun p : Pr => p.2.1) hp
      have n2 := sumF_next (fun p : Pr => p.1) hp
      have n3 := sumF_next (fun p : Pr => p.2.1 * p.2.1) hp
      have n4 := sumF_next (fun p : Pr => p.2.1 * p.1) hp
      unfold S1 SK SQ SP at *
      generalize l[i] = p at *
      rw [wid (n := p.2.1 * p.2.1) (by omega) (by omega), wid (n := p.2.1 * p.1) (by omega) (by omega), wid (n := (i : Int) + 1) (by omega) (by omega), wid (n := _ + p.2.1) (by omega) (by omega), wid (n := _ + p.1) (by omega) (by omega), wid (n := _ + p.2.1 * p.2.1) (by omega) (by omega), wid (n := _ + p.2.1 * p.1) (by omega) (by omega), rnd_inl, n1, n2, n3, n4]
      exact ⟨hlt, rfl⟩
    · have : i = l.length := by omega
      subst this
      have e0 : decide ((l.length : Int) < (l.length : Int)) = false := by simp
      simp only [e0, cond_false]
      rw [rnd_inr, List.take_length]
  · rintro _ rfl
    rw [ok_some]
def spread_ (l : List Pr) : Int := l.length * SQ l - S1 l * S1 l
def gain_ (l : List Pr) : Int := l.length * SP l - S1 l * SK l
def offs_ (l : List Pr) : Int := SQ l * SK l - S1 l * SP l
structure Big (a b c : Int) : Prop where
  a : a.natAbs ≤ 1000000000000
  b : b.natAbs ≤ 1000000000000
  c : c.natAbs ≤ 1000000000000
theorem PrOk.prods {l : List Pr} (h : PrOk l) : (-100000000 ≤ l.length * SQ l ∧ l.length * SQ l ≤ 100000000) ∧ (-100000000 ≤ S1 l * S1 l ∧ S1 l * S1 l ≤ 100000000) ∧ (-100000000 ≤ l.length * SP l ∧ l.length * SP l ≤ 100000000) ∧ (-100000000 ≤ S1 l * SK l ∧ S1 l * SK l ≤ 100000000)
    ∧ (-100000000000 ≤ SQ l * SK l ∧ SQ l * SK l ≤ 100000000000) ∧ (-100000000000 ≤ S1 l * SP l ∧ S1 l * SP l ≤ 100000000000) := by
  obtain ⟨c1, c2, c3, c4⟩ := h.all
  have hl : -10 ≤ (l.length : Int) ∧ (l.length : Int) ≤ 10 := by have := h.len2; omega
  have a1 := abs_mul_le hl c3
  have a2 := abs_mul_le c1 c1
  have a3 := abs_mul_le hl c4
  have a4 := abs_mul_le c1 c2
  have a5 := abs_mul_le c3 c2
  have a6 := abs_mul_le c1 c4
  omega
theorem PrOk.big {l : List Pr} (h : PrOk l) : Big (gain_ l) (offs_ l) (spread_ l) := by
  obtain ⟨a1, a2, a3, a4, a5, a6⟩ := h.prods
  unfold gain_ offs_ spread_
  exact ⟨by omega, by omega, by omega⟩
theorem spread_ok {l : List Pr} (h : PrOk l) : sensor_sums_spread ((l.length : Int), S1 l, SK l, SQ l, SP l, ()) = some (spread_ l) := by
  obtain ⟨a1, a2, a3, a4, a5, a6⟩ := h.prods
  unfold sensor_sums_spread spread_
  rw [wid (n := (l.length : Int) * SQ l) (by omega) (by omega), wid (n := S1 l * S1 l) (by omega) (by omega), wid (by omega) (by omega)]
def cal (l : List Pr) : Ln := ((gain_ l).tdiv (gcd3 (gain_ l) (offs_ l) (spread_ l)), (offs_ l).tdiv (gcd3 (gain_ l) (offs_ l) (spread_ l)), (spread_ l).tdiv (gcd3 (gain_ l) (offs_ l) (spread_ l)), ())
theorem gcd3_pos {g o d : Int} (h : d ≠ 0) : 0 < gcd3 g o d := Nat.pos_of_ne_zero fun h0 => by
  unfold gcd3 at h0
  rw [Nat.gcd_eq_zero_iff] at h0
  omega
theorem tdiv_abs (x g : Int) : (x.tdiv g).natAbs ≤ x.natAbs := by rw [Int.natAbs_tdiv]; exact Nat.div_le_self _ _
theorem CalibrationOf_ok {l : List Pr} (hl : l.length ≤ 1000000000) : sensor_CalibrationOf l = some (if pairE l ≠ 0 then ((0, 0, 0, ()), pairE l) else if spread_ l = 0 then ((0, 0, 0, ()), 11) else (cal l, 0)) := by
  unfold sensor_CalibrationOf
  rw [pairsErr_ok hl]
  simp only [Option.bind_some]
  by_cases h : pairE l = 0
  · have hp := pair_ok h
    rw [if_neg (by simp [h]), of_ok hp]
    simp only [h, decide_true, Bool.not_true, cond_false, Option.bind_some]
    rw [spread_ok hp]
    simp only [Option.bind_some]
    by_cases hs : spread_ l = 0
    · simp [hs]
    · rw [if_neg hs]
      obtain ⟨a1, a2, a3, a4, a5, a6⟩ := hp.prods
      obtain ⟨g1, g2, g3⟩ := hp.big
      simp only [hs, decide_false, cond_false]
      rw [Int.mul_comm (SK l) (SQ l)]
      rw [wid (n := (l.length : Int) * SP l) (by omega) (by omega), wid (n := S1 l * SK l) (by omega) (by omega), wid (n := SQ l * SK l) (by omega) (by omega), wid (n := S1 l * SP l) (by omega) (by omega), wid (n := (l.length : Int) * SP l - S1 l * SK l) (by omega) (by omega), wid (n := SQ l * SK l - S1 l * SP l) (by omega) (by omega)]
      show (sensor_divisor [gain_ l, offs_ l, spread_ l]).bind _ = _
      rw [divisor_ok _ (by simp) (by simp; omega), gcd3_eq]
      have hg := gcd3_pos (g := gain_ l) (o := offs_ l) hs
      have hg' : ¬ ((gcd3 (gain_ l) (offs_ l) (spread_ l) : Int) = 0) := by omega
      simp only [Option.bind_some, hg', decide_false, cond_false]
      have t1 := tdiv_abs (gain_ l) (gcd3 (gain_ l) (offs_ l) (spread_ l))
      have t2 := tdiv_abs (offs_ l) (gcd3 (gain_ l) (offs_ l) (spread_ l))
      have t3 := tdiv_abs (spread_ l) (gcd3 (gain_ l) (offs_ l) (spread_ l))
      unfold cal
      rw [wid (n := (spread_ l).tdiv _) (by omega) (by omega)]
      have w1 : w64 (((l.length : Int) * SP l - S1 l * SK l).tdiv (gcd3 (gain_ l) (offs_ l) (spread_ l))) = (gain_ l).tdiv (gcd3 (gain_ l) (offs_ l) (spread_ l)) := wid (by unfold gain_ at t1 ⊢; omega) (by unfold gain_ at t1 ⊢; omega)
      have w2 : w64 ((SQ l * SK l - S1 l * SP l).tdiv (gcd3 (gain_ l) (offs_ l) (spread_ l))) = (offs_ l).tdiv (gcd3 (gain_ l) (offs_ l) (spread_ l)) := wid (by unfold offs_ at t2 ⊢; omega) (by unfold offs_ at t2 ⊢; omega)
      rw [w1, w2]
  · rw [if_pos h]
    simp [h]
end Go.Proofs.Ytpiggpgocnlomaa
end
