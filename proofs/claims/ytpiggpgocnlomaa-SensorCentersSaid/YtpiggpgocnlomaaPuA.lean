/-
  PLAIN LAWS of the primitives of typed functions: loops, lists, numbers.
-/
import Derived.Test.YtpiggpgocnlomaaTxO
set_option linter.unusedVariables false
namespace Go.Tx
open Go
theorem wrap_id {n : Int} (h1 : -9223372036854775808 ≤ n) (h2 : n ≤ 9223372036854775807) : IntKind.wrap .i64 n = n := by
  rw [IntKind.wrap_i64]; omega
theorem idx_nat {α : Type} (l : List α) (i : Nat) : idx l (i : Int) = l[i]? := by simp [idx]
theorem idx_zero {α : Type} (l : List α) : idx l 0 = l[0]? := by simp [idx]
theorem idx_of {α : Type} {l : List α} {i : Nat} {a : α} (h : l[i]? = some a) : idx l (i : Int) = some a := by simp [idx, h]
theorem app_of {α : Type} {l l2 : List α} (h : l.length + l2.length ≤ 4294967296) : app l l2 = some (l ++ l2) := by simp [app, h]

section
variable {σ ρ : Type} {f : σ → Option (σ ⊕ ρ)}
theorem loopN_mono : ∀ {n m : Nat} {s : σ} {r : ρ}, loopN f n s = some r → n ≤ m → loopN f m s = some r
  | 0, m, s, r, h, _ => by simp [loopN] at h
  | n + 1, 0, s, r, h, hm => by omega
  | n + 1, m + 1, s, r, h, hm => by
    simp only [loopN] at h ⊢
    cases hf : f s with
    | none => rw [hf] at h; cases h
    | some x =>
      rw [hf] at h
      cases x with
      | inl s' => exact loopN_mono h (by omega)
      | inr r' => exact h
theorem loopO_of {n : Nat} {s : σ} {r : ρ} (h : loopN f n s = some r) : loopO f s = some r := by
  have hex : ∃ n r, loopN f n s = some r := ⟨n, r, h⟩
  cases hl : loopO f s with
  | none => exfalso; unfold loopO at hl; rw [dif_pos hex] at hl; cases hl
  | some r' =>
    obtain ⟨m, hm⟩ := loopO_some hl
    have h1 := loopN_mono h (Nat.le_max_left n m)
    have h2 := loopN_mono hm (Nat.le_max_right n m)
    rw [← h1, ← h2]
theorem loopO_inl {s s' : σ} (h : f s = some (.inl s')) : loopO f s = loopO f s' := by
  cases hl : loopO f s' with
  | some r =>
    obtain ⟨n, hn⟩ := loopO_some hl
    exact loopO_of (n := n + 1) (by simp [loopN, h, hn])
  | none =>
    cases hl2 : loopO f s with
    | none => rfl
    | some r =>
      obtain ⟨n, hn⟩ := loopO_some hl2
      cases n with
      | zero => simp [loopN] at hn
      | succ n =>
        simp only [loopN, h] at hn
        rw [loopO_of hn] at hl
        cases hl
theorem loopO_inr {s : σ} {r : ρ} (h : f s = some (.inr r)) : loopO f s = some r := loopO_of (n := 1) (by simp [loopN, h])
/-- A LOOP with an invariant that counts up to n -/
theorem loop_inv (n : Nat) (I : Nat → σ → Prop) (Q : ρ → Prop)
    (hs : ∀ i s, i ≤ n → I i s → (∃ s', f s = some (.inl s') ∧ i < n ∧ I (i + 1) s') ∨ (∃ r, f s = some (.inr r) ∧ Q r)) {s : σ} (h0 : I 0 s) : ∃ r, loopO f s = some r ∧ Q r := by
  have h : ∀ k i s, n - i = k → i ≤ n → I i s → ∃ r, loopO f s = some r ∧ Q r := by
    intro k
    induction k with
    | zero =>
      intro i s hk hi hI
      rcases hs i s hi hI with ⟨s', _, h, _⟩ | ⟨r, h, hq⟩
      · omega
      · exact ⟨r, loopO_inr h, hq⟩
    | succ k ih =>
      intro i s hk hi hI
      rcases hs i s hi hI with ⟨s', h, hlt, hI'⟩ | ⟨r, h, hq⟩
      · obtain ⟨r, hr, hq⟩ := ih (i + 1) s' (by omega) (by omega) hI'
        exact ⟨r, by rw [loopO_inl h, hr], hq⟩
      · exact ⟨r, loopO_inr h, hq⟩
  exact h n 0 s (by omega) (by omega) h0
end
/-- the first element at which g answers -/
def findI {α ρ : Type} (g : Nat → α → Option ρ) : Nat → List α → Option ρ
  | _, [] => none
  | k, a :: l => match g k a with
    | some r => some r
    | none => findI g (k + 1) l
theorem findI_const {α ρ : Type} (g : α → Option ρ) : ∀ (l : List α) (k : Nat), findI (fun _ a => g a) k l = l.findSome? g
  | [], k => rfl
  | a :: l, k => by simp only [findI, List.findSome?_cons]; cases g a <;> simp [findI_const g l]
def toSum {ρ : Type} : Option ρ → Unit ⊕ ρ
  | some r => .inr r
  | none => .inl ()
def stp {ρ : Type} (i : Nat) : Option ρ → Int ⊕ (Unit ⊕ ρ)
  | some r => .inr (.inr r)
  | none => .inl ((i : Int) + 1)
/-- A LOOP over a list that goes until g answers -/
theorem loop_list {α ρ : Type} (l : List α) {f : Int → Option (Int ⊕ (Unit ⊕ ρ))} (g : Nat → α → Option ρ)
    (h : ∀ (i : Nat) (a : α), l[i]? = some a → f i = some (stp i (g i a)))
    (he : f l.length = some (.inr (.inl ()))) : loopO f 0 = some (toSum (findI g 0 l)) := by
  have key : ∀ (l2 l1 : List α), l1 ++ l2 = l → loopO f (l1.length : Nat) = some (toSum (findI g l1.length l2)) := by
    intro l2
    induction l2 with
    | nil =>
      intro l1 e
      have : l1 = l := by simpa using e
      subst this
      rw [loopO_inr he]; rfl
    | cons a l2 ih =>
      intro l1 e
      have hi : l[l1.length]? = some a := by rw [← e]; simp
      have hf := h _ _ hi
      simp only [findI]
      cases hg : g l1.length a with
      | some r => rw [hg] at hf; rw [loopO_inr hf]; rfl
      | none =>
        rw [hg] at hf
        rw [loopO_inl hf]
        have := ih (l1 ++ [a]) (by simp [e])
        simpa using this
  simpa using key l [] rfl
/-- folding with the index -/
def foldI {α β : Type} (g : Nat → β → α → β) : Nat → β → List α → β
  | _, b, [] => b
  | k, b, a :: l => foldI g (k + 1) (g k b a) l
theorem loop_fold {α β ρ : Type} (l : List α) {f : β × Int → Option ((β × Int) ⊕ ρ)} (g : Nat → β → α → β) (fin : β → ρ) (I : Nat → β → Prop) {b0 : β} (h0 : I 0 b0)
    (h : ∀ (i : Nat) (a : α) (b : β), l[i]? = some a → I i b → f (b, (i : Int)) = some (.inl (g i b a, (i : Int) + 1)) ∧ I (i + 1) (g i b a))
    (he : ∀ b, I l.length b → f (b, (l.length : Int)) = some (.inr (fin b))) : loopO f (b0, 0) = some (fin (foldI g 0 b0 l)) := by
  have key : ∀ (l2 l1 : List α) (b : β), l1 ++ l2 = l → I l1.length b → loopO f (b, ((l1.length : Nat) : Int)) = some (fin (foldI g l1.length b l2)) := by
    intro l2
    induction l2 with
    | nil =>
      intro l1 b e hI
      have : l1 = l := by simpa using e
      subst this
      rw [loopO_inr (he b hI)]; rfl
    | cons a l2 ih =>
      intro l1 b e hI
      have hi : l[l1.length]? = some a := by rw [← e]; simp
      obtain ⟨hf, hI'⟩ := h _ _ _ hi hI
      rw [loopO_inl hf]
      have := ih (l1 ++ [a]) (g l1.length b a) (by simp [e]) (by simpa using hI')
      simpa [foldI] using this
  simpa using key l [] b0 rfl (by simpa using h0)
end Go.Tx
