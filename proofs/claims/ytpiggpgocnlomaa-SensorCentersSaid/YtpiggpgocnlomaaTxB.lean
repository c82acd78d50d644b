/-
  WHAT A TYPED VALUE SAYS OF AN ABSTRACT ONE.
-/
import Derived.Test.YtpiggpgocnlomaaTxA
set_option linter.unusedVariables false
namespace Go.Tx
open Go Go.Ab

inductive All2 {α β : Type} (R : α → β → Prop) : List α → List β → Prop
  | nil : All2 R [] []
  | cons {a b l l'} : R a b → All2 R l l' → All2 R (a :: l) (b :: l')

section
variable {α β : Type} {R S : α → β → Prop}
theorem All2.length {l : List α} {l' : List β} (h : All2 R l l') : l'.length = l.length := by
  induction h with
  | nil => rfl
  | cons _ _ ih => simp [ih]
theorem All2.mono (hrs : ∀ a b, R a b → S a b) {l : List α} {l' : List β} (h : All2 R l l') : All2 S l l' := by
  induction h with
  | nil => exact .nil
  | cons h1 _ ih => exact .cons (hrs _ _ h1) ih
theorem All2.append {l m : List α} {l' m' : List β} (h : All2 R l l') (h' : All2 R m m') : All2 R (l ++ m) (l' ++ m') := by
  induction h with
  | nil => exact h'
  | cons h1 _ ih => exact .cons h1 ih
theorem All2.take {l : List α} {l' : List β} (h : All2 R l l') : ∀ n, All2 R (l.take n) (l'.take n) := by
  induction h with
  | nil => intro n; simp; exact .nil
  | cons h1 _ ih => intro n; cases n with
    | zero => exact .nil
    | succ n => exact .cons h1 (ih n)
theorem All2.drop {l : List α} {l' : List β} (h : All2 R l l') : ∀ n, All2 R (l.drop n) (l'.drop n) := by
  induction h with
  | nil => intro n; simp; exact .nil
  | cons h1 h2 ih => intro n; cases n with
    | zero => exact .cons h1 h2
    | succ n => exact ih n
theorem All2.get {l : List α} {l' : List β} (h : All2 R l l') : ∀ {i : Nat} {a : α}, l[i]? = some a → ∃ b, l'[i]? = some b ∧ R a b := by
  induction h with
  | nil => intro i a h; simp at h
  | cons h1 h2 ih => intro i a h; cases i with
    | zero => simp at h; subst h; exact ⟨_, rfl, h1⟩
    | succ n => exact ih (by simpa using h)
theorem All2.replicate {a : α} {b : β} (h : R a b) : ∀ n, All2 R (List.replicate n a) (List.replicate n b)
  | 0 => .nil
  | n + 1 => .cons h (All2.replicate h n)
theorem All2.map {γ : Type} {g : β → γ} {S : α → γ → Prop} (hrs : ∀ a b, R a b → S a (g b)) {l : List α} {l' : List β} (h : All2 R l l') : All2 S l (l'.map g) := by
  induction h with
  | nil => exact .nil
  | cons h1 _ ih => exact .cons (hrs _ _ h1) ih
theorem All2.all {p : β → Prop} (hp : ∀ a b, R a b → p b) {l : List α} {l' : List β} (h : All2 R l l') : ∀ b ∈ l', p b := by
  induction h with
  | nil => simp
  | cons h1 _ ih => intro b hb; rcases List.mem_cons.1 hb with rfl | hb
                    · exact hp _ _ h1
                    · exact ih b hb
end

/-- what a level says of a flag -/
def FlR (o : Nat) (f : Fl) : Prop := (o ≠ 2000 → (f = .own ↔ isOwn o = true)) ∧ (o = 1000 → f = .shared)
def RTy : (τ : Ty) → Nat → τ.den → V → Prop
  | .int k, _, n, v => v = .val (.int k n)
  | .bool, _, b, v => v = .val (.bool b)
  | .str, _, s, v => v = .val (.string ⟨s.toArray⟩)
  | .sl t, o, l, v => ∃ f c l', v = .sl f c l' ∧ FlR o f ∧ All2 (RTy t (nx o)) l l'
  | .unit, _, _, v => v = .agg []
  | .pair a b, o, x, v => ∃ v1 l, v = .agg (v1 :: l) ∧ RTy a o x.1 v1 ∧ RTy b o x.2 (.agg l)

mutual
def RV : TV → V → Prop
  | .any rs, v => (∀ r ∈ v.ptrs, r ∈ rs) ∧ isLp [v] = false
  | .t τ o x, v => RTy τ o x v
  | .clp τ x, v => ∃ f l', v = .sl f true l' ∧ f ≠ .own ∧ All2 (RTy τ 0) x l'
  | .empty o, v => ∃ f c, v = .sl f c [] ∧ FlR o f
  | .val u, v => v = .val u
  | .agg l, v => ∃ l', v = .agg l' ∧ RVL l l'
  | .tuple l, v => ∃ l', v = .tuple l' ∧ RVL l l'
  | .fn g a b, v => ∃ a' b', v = .fn g a' b' ∧ RVL a a' ∧ RVL b b'
  | .ptr r o, v => v = .ptr r o
  | .cptr l, v => ∃ l', v = .cptr l' ∧ RVL l l'
  | .iface t x, v => ∃ y, v = .iface t y ∧ RV x y
def RVL : List TV → List V → Prop
  | [], l => l = []
  | x :: l, l' => ∃ v m, l' = v :: m ∧ RV x v ∧ RVL l m
end

theorem rvl_cons {x : TV} {l : List TV} {v : V} {m : List V} : RVL (x :: l) (v :: m) ↔ RV x v ∧ RVL l m := by
  simp only [RVL, List.cons.injEq]
  exact ⟨fun ⟨_, _, ⟨rfl, rfl⟩, h1, h2⟩ => ⟨h1, h2⟩, fun ⟨h1, h2⟩ => ⟨_, _, ⟨rfl, rfl⟩, h1, h2⟩⟩
theorem rvl_nil : RVL [] [] := by simp [RVL]
theorem RVL.length : ∀ {l : List TV} {l' : List V}, RVL l l' → l'.length = l.length
  | [], l', h => by simp only [RVL] at h; simp [h]
  | x :: l, l', h => by simp only [RVL] at h; obtain ⟨v, m, rfl, _, h2⟩ := h; simp [RVL.length h2]
theorem RVL.append : ∀ {l m : List TV} {l' m' : List V}, RVL l l' → RVL m m' → RVL (l ++ m) (l' ++ m')
  | [], m, l', m', h, h' => by simp only [RVL] at h; simpa [h] using h'
  | x :: l, m, l', m', h, h' => by
    simp only [RVL] at h; obtain ⟨v, n, rfl, h1, h2⟩ := h
    exact rvl_cons.2 ⟨h1, RVL.append h2 h'⟩
theorem RVL.take : ∀ {l : List TV} {l' : List V} (n : Nat), RVL l l' → RVL (l.take n) (l'.take n)
  | _, _, 0, h => by simp [RVL]
  | [], l', n + 1, h => by simp only [RVL] at h; simp [h, RVL]
  | x :: l, l', n + 1, h => by
    simp only [RVL] at h; obtain ⟨v, m, rfl, h1, h2⟩ := h
    exact rvl_cons.2 ⟨h1, RVL.take n h2⟩
theorem RVL.drop : ∀ {l : List TV} {l' : List V} (n : Nat), RVL l l' → RVL (l.drop n) (l'.drop n)
  | _, _, 0, h => by simpa using h
  | [], l', n + 1, h => by simp only [RVL] at h; simp [h, RVL]
  | x :: l, l', n + 1, h => by
    simp only [RVL] at h; obtain ⟨v, m, rfl, h1, h2⟩ := h
    exact RVL.drop n h2
theorem RVL.get : ∀ {l : List TV} {l' : List V} {i : Nat} {x : TV}, RVL l l' → l[i]? = some x → ∃ v, l'[i]? = some v ∧ RV x v
  | [], l', i, x, h, hi => by simp at hi
  | y :: l, l', 0, x, h, hi => by
    simp only [RVL] at h; obtain ⟨v, m, rfl, h1, h2⟩ := h
    simp at hi; subst hi; exact ⟨v, rfl, h1⟩
  | y :: l, l', i + 1, x, h, hi => by
    simp only [RVL] at h; obtain ⟨v, m, rfl, h1, h2⟩ := h
    have hi' : l[i]? = some x := by simpa using hi
    obtain ⟨u, hu, hr⟩ := RVL.get h2 hi'
    exact ⟨u, by simpa using hu, hr⟩
theorem RVL.set : ∀ {l : List TV} {l' : List V} (i : Nat) {x : TV} {v : V}, RVL l l' → RV x v → RVL (l.set i x) (l'.set i v)
  | [], l', i, x, v, h, hx => by simp only [RVL] at h; simp [h, RVL]
  | y :: l, l', 0, x, v, h, hx => by
    simp only [RVL] at h; obtain ⟨u, m, rfl, h1, h2⟩ := h
    exact rvl_cons.2 ⟨hx, h2⟩
  | y :: l, l', i + 1, x, v, h, hx => by
    simp only [RVL] at h; obtain ⟨u, m, rfl, h1, h2⟩ := h
    exact rvl_cons.2 ⟨h1, RVL.set i h2 hx⟩
theorem rv_undef (rs : List Root) : RV (.any rs) .undef := by simp [RV, V.ptrs, isLp]
theorem RVL.getD {l : List TV} {l' : List V} (h : RVL l l') (i : Nat) : RV (l.getD i (.any [])) (l'.getD i .undef) := by
  cases hi : l[i]? with
  | some x => obtain ⟨v, hv, hr⟩ := h.get hi; simpa [hi, hv] using hr
  | none =>
    have : l'[i]? = none := by rw [List.getElem?_eq_none_iff] at hi ⊢; rw [h.length]; exact hi
    simp only [List.getD_eq_getElem?_getD, hi, this, Option.getD_none]; exact rv_undef []
theorem RVL.replicate {x : TV} {v : V} (h : RV x v) : ∀ n, RVL (List.replicate n x) (List.replicate n v)
  | 0 => by simp [RVL]
  | n + 1 => rvl_cons.2 ⟨h, RVL.replicate h n⟩
theorem RVL.flatten : ∀ {n : Nat} {l : List TV} {l' : List V}, RVL l l' → RVL (List.replicate n l).flatten (List.replicate n l').flatten
  | 0, _, _, _ => by simp [RVL]
  | n + 1, l, l', h => by simp only [List.replicate_succ, List.flatten_cons]; exact h.append (RVL.flatten h)
theorem RVL.head {l : List TV} {l' : List V} {x : TV} (h : RVL l l') (hx : l.head? = some x) : ∃ v, l'.head? = some v ∧ RV x v := by
  cases l with
  | nil => simp at hx
  | cons y l =>
    simp only [RVL] at h; obtain ⟨u, m, rfl, h1, h2⟩ := h
    simp at hx; subst hx; exact ⟨u, rfl, h1⟩

/-! ### pointers -/
theorem ptrsL_agg (l : List V) : (V.agg l).ptrs = ptrsL l := by simp [V.ptrs]
theorem isOwn_iff {o : Nat} : isOwn o = true ↔ o ≠ 0 ∧ o ≠ 1000 ∧ o ≠ 2000 := by unfold isOwn; simp
theorem isOwn_not {o : Nat} : isOwn o = false ↔ o = 0 ∨ o = 1000 ∨ o = 2000 := by
  have := @isOwn_iff o
  cases h : isOwn o with
  | true => rw [h] at this; simp at this; simp; omega
  | false => rw [h] at this; simp at this; simp; omega
theorem FlR.own {o : Nat} {f : Fl} (h : FlR o f) (ho : isOwn o = true) : f = .own := (h.1 (isOwn_iff.1 ho).2.2).2 ho
theorem FlR.not {o : Nat} {f : Fl} (h : FlR o f) (ho : isOwn o = false) (h2 : o ≠ 2000) : f ≠ .own := fun e => by have := (h.1 h2).1 e; rw [ho] at this; cases this
theorem flr_own {o : Nat} (h : isOwn o = true) : FlR o .own := ⟨fun _ => by simp [h], fun e => absurd e (isOwn_iff.1 h).2.1⟩
theorem flr_of {o : Nat} {f : Fl} (ho : isOwn o = false) (hf : f ≠ .own) (h1 : o = 1000 → f = .shared) : FlR o f := ⟨fun _ => by simp [hf, ho], h1⟩
theorem dl_not (o : Nat) : isOwn (dl o) = false ∧ dl o ≠ 2000 ∧ nx (dl o) = dl o := by
  have h1 : isOwn (dl o) = false := by rw [isOwn_not]; unfold dl; split <;> simp
  refine ⟨h1, by unfold dl; split <;> simp, by unfold nx; rw [h1]; rfl⟩
theorem rty_ptrs : ∀ (τ : Ty) (o : Nat) (x : τ.den) (v : V), RTy τ o x v → v.ptrs = []
  | .int _, _, _, v, h => by simp only [RTy] at h; simp [h, V.ptrs]
  | .bool, _, _, v, h => by simp only [RTy] at h; simp [h, V.ptrs]
  | .str, _, _, v, h => by simp only [RTy] at h; simp [h, V.ptrs]
  | .sl t, o, l, v, h => by simp only [RTy] at h; obtain ⟨f, c, l', rfl, _⟩ := h; simp [V.ptrs]
  | .unit, _, _, v, h => by simp only [RTy] at h; simp [h, V.ptrs, ptrsL]
  | .pair a b, o, x, v, h => by
    simp only [RTy] at h; obtain ⟨v1, l, rfl, h1, h2⟩ := h
    have e1 := rty_ptrs a o _ _ h1
    have e2 := rty_ptrs b o _ _ h2
    simp only [V.ptrs] at e2
    simp [V.ptrs, ptrsL, e1, e2]
theorem ptrsL_mem {l : List V} {r : Root} : r ∈ ptrsL l ↔ ∃ v ∈ l, r ∈ v.ptrs := by
  induction l with
  | nil => simp [ptrsL]
  | cons v l ih => simp [ptrsL, ih]
mutual
theorem RV.ptrs : ∀ (x : TV) (v : V), RV x v → ∀ r ∈ v.ptrs, r ∈ x.ptrs
  | .any rs, v, h, r, hr => by simp only [RV] at h; exact h.1 r hr
  | .t τ o x, v, h, r, hr => by simp only [RV] at h; rw [rty_ptrs τ o x v h] at hr; cases hr
  | .clp τ x, v, h, r, hr => by simp only [RV] at h; obtain ⟨f, l', rfl, _⟩ := h; simp [V.ptrs] at hr
  | .empty own, v, h, r, hr => by simp only [RV] at h; obtain ⟨f, c, rfl, _⟩ := h; simp [V.ptrs] at hr
  | .val u, v, h, r, hr => by simp only [RV] at h; simp [h, V.ptrs] at hr
  | .agg l, v, h, r, hr => by simp only [RV] at h; obtain ⟨l', rfl, h⟩ := h; simp only [V.ptrs] at hr; exact RVL.ptrs l l' h r hr
  | .tuple l, v, h, r, hr => by simp only [RV] at h; obtain ⟨l', rfl, h⟩ := h; simp only [V.ptrs] at hr; exact RVL.ptrs l l' h r hr
  | .fn g a b, v, h, r, hr => by
    simp only [RV] at h; obtain ⟨a', b', rfl, h1, h2⟩ := h
    simp only [V.ptrs, List.mem_append] at hr
    simp only [TV.ptrs, List.mem_append]
    exact hr.imp (RVL.ptrs a a' h1 r) (RVL.ptrs b b' h2 r)
  | .ptr q o, v, h, r, hr => by simp only [RV] at h; rw [h] at hr; simpa [V.ptrs, TV.ptrs] using hr
  | .cptr l, v, h, r, hr => by simp only [RV] at h; obtain ⟨l', rfl, h⟩ := h; simp only [V.ptrs] at hr; exact RVL.ptrs l l' h r hr
  | .iface t x, v, h, r, hr => by simp only [RV] at h; obtain ⟨y, rfl, h⟩ := h; simp only [V.ptrs] at hr; exact RV.ptrs x y h r hr
theorem RVL.ptrs : ∀ (l : List TV) (l' : List V), RVL l l' → ∀ r ∈ ptrsL l', r ∈ ptrsTL l
  | [], l', h, r, hr => by simp only [RVL] at h; simp [h, ptrsL] at hr
  | x :: l, l', h, r, hr => by
    simp only [RVL] at h; obtain ⟨v, m, rfl, h1, h2⟩ := h
    simp only [ptrsL, List.mem_append] at hr
    simp only [ptrsTL, List.mem_append]
    exact hr.imp (RV.ptrs x v h1 r) (RVL.ptrs l m h2 r)
end
mutual
theorem RV.ptrs_eq : ∀ (x : TV) (v : V), x.known = true → RV x v → v.ptrs = x.ptrs
  | .any rs, v, hk, h => by simp [TV.known] at hk
  | .t τ o x, v, _, h => by simp only [RV] at h; rw [rty_ptrs τ o x v h]; simp [TV.ptrs]
  | .clp τ x, v, _, h => by simp only [RV] at h; obtain ⟨f, l', rfl, _⟩ := h; simp [V.ptrs, TV.ptrs]
  | .empty own, v, _, h => by simp only [RV] at h; obtain ⟨f, c, rfl, _⟩ := h; simp [V.ptrs, TV.ptrs]
  | .val u, v, _, h => by simp only [RV] at h; simp [h, V.ptrs, TV.ptrs]
  | .agg l, v, hk, h => by simp only [RV] at h; obtain ⟨l', rfl, h⟩ := h; simp only [TV.known] at hk; simp only [V.ptrs, TV.ptrs]; exact RVL.ptrs_eq l l' hk h
  | .tuple l, v, hk, h => by simp only [RV] at h; obtain ⟨l', rfl, h⟩ := h; simp only [TV.known] at hk; simp only [V.ptrs, TV.ptrs]; exact RVL.ptrs_eq l l' hk h
  | .fn g a b, v, hk, h => by
    simp only [RV] at h; obtain ⟨a', b', rfl, h1, h2⟩ := h
    simp only [TV.known, Bool.and_eq_true] at hk
    simp only [V.ptrs, TV.ptrs, RVL.ptrs_eq a a' hk.1 h1, RVL.ptrs_eq b b' hk.2 h2]
  | .ptr q o, v, _, h => by simp only [RV] at h; simp [h, V.ptrs, TV.ptrs]
  | .cptr l, v, hk, h => by simp only [RV] at h; obtain ⟨l', rfl, h⟩ := h; simp only [TV.known] at hk; simp only [V.ptrs, TV.ptrs]; exact RVL.ptrs_eq l l' hk h
  | .iface t x, v, hk, h => by simp only [RV] at h; obtain ⟨y, rfl, h⟩ := h; simp only [TV.known] at hk; simp only [V.ptrs, TV.ptrs]; exact RV.ptrs_eq x y hk h
theorem RVL.ptrs_eq : ∀ (l : List TV) (l' : List V), knownL l = true → RVL l l' → ptrsL l' = ptrsTL l
  | [], l', _, h => by simp only [RVL] at h; simp [h, ptrsL, ptrsTL]
  | x :: l, l', hk, h => by
    simp only [RVL] at h; obtain ⟨v, m, rfl, h1, h2⟩ := h
    simp only [knownL, Bool.and_eq_true] at hk
    simp only [ptrsL, ptrsTL, RV.ptrs_eq x v hk.1 h1, RVL.ptrs_eq l m hk.2 h2]
end

/-! ### flags -/
theorem reflagL_map (g : Fl → Fl) : ∀ l : List V, reflagL g l = l.map (V.reflag g)
  | [] => rfl
  | v :: l => by simp [reflagL, reflagL_map g l]
theorem nx_up {n : Nat} (h : isOwn (n + 1) = true) : nx (n + 1) = n ∧ n + 1 ≠ 1000 := by
  have := isOwn_iff.1 h
  refine ⟨by unfold nx; rw [h]; simp, this.2.1⟩
/-- what is known of what lies below: less -/
theorem rty_dl0 : ∀ (τ : Ty) (o : Nat) (x : τ.den) (v : V), RTy τ (dl o) x v → RTy τ 0 x v
  | .int _, _, _, v, h => by simpa only [RTy] using h
  | .bool, _, _, v, h => by simpa only [RTy] using h
  | .str, _, _, v, h => by simpa only [RTy] using h
  | .sl t, o, l, v, h => by
    obtain ⟨hno, h20, hnx⟩ := dl_not o
    simp only [RTy] at h ⊢; obtain ⟨f, c, l', rfl, h1, h⟩ := h
    rw [hnx] at h
    exact ⟨f, c, l', rfl, flr_of rfl (h1.not hno h20) (fun h => by cases h), h.mono fun a b hab => rty_dl0 t o a b hab⟩
  | .unit, _, _, v, h => by simpa only [RTy] using h
  | .pair a b, o, x, v, h => by
    simp only [RTy] at h ⊢; obtain ⟨v1, l, rfl, h1, h2⟩ := h
    exact ⟨v1, l, rfl, rty_dl0 a o _ _ h1, rty_dl0 b o _ _ h2⟩
theorem rty_dull {g : Fl → Fl} (hg : ∀ f, g f ≠ .own) (hs : g .shared = .shared) : ∀ (τ : Ty) (o : Nat) (x : τ.den) (v : V), RTy τ o x v → RTy τ (dl o) x (v.reflag g)
  | .int _, _, _, v, h => by simp only [RTy] at h ⊢; simp [h, V.reflag]
  | .bool, _, _, v, h => by simp only [RTy] at h ⊢; simp [h, V.reflag]
  | .str, _, _, v, h => by simp only [RTy] at h ⊢; simp [h, V.reflag]
  | .sl t, o, l, v, h => by
    simp only [RTy] at h ⊢; obtain ⟨f, c, l', rfl, h0, h⟩ := h
    obtain ⟨hno, h20, hnx⟩ := dl_not o
    refine ⟨g f, c, reflagL g l', by simp [V.reflag], flr_of hno (hg f) (fun h1 => ?_), ?_⟩
    · have ho : o = 1000 := by
        unfold dl at h1
        split at h1
        · assumption
        · cases h1
      rw [h0.2 ho]; exact hs
    · rw [reflagL_map, hnx]
      refine h.map fun a b hab => ?_
      have h3 := rty_dull hg hs t _ a b hab
      by_cases ho : o = 1000
      · subst ho; exact h3
      · have : dl o = 0 := by unfold dl; rw [if_neg ho]
        rw [this]
        exact rty_dl0 t _ a _ h3
  | .unit, _, _, v, h => by simp only [RTy] at h ⊢; simp [h, V.reflag, reflagL]
  | .pair a b, o, x, v, h => by
    simp only [RTy] at h ⊢; obtain ⟨v1, l, rfl, h1, h2⟩ := h
    refine ⟨v1.reflag g, reflagL g l, by simp [V.reflag, reflagL], rty_dull hg hs a o _ _ h1, ?_⟩
    have := rty_dull hg hs b o _ _ h2
    simpa only [V.reflag] using this
theorem rty_keep {g : Fl → Fl} (hg : ∀ f, g f = .own ↔ f = .own) (hs : g .shared = .shared) : ∀ (τ : Ty) (o : Nat) (x : τ.den) (v : V), RTy τ o x v → RTy τ o x (v.reflag g)
  | .int _, _, _, v, h => by simp only [RTy] at h ⊢; simp [h, V.reflag]
  | .bool, _, _, v, h => by simp only [RTy] at h ⊢; simp [h, V.reflag]
  | .str, _, _, v, h => by simp only [RTy] at h ⊢; simp [h, V.reflag]
  | .sl t, o, l, v, h => by
    simp only [RTy] at h ⊢; obtain ⟨f, c, l', rfl, ho, h⟩ := h
    refine ⟨g f, c, reflagL g l', by simp [V.reflag], ⟨fun h2 => by rw [hg f]; exact ho.1 h2, fun h1 => by rw [ho.2 h1]; exact hs⟩, ?_⟩
    rw [reflagL_map]
    exact h.map fun a b hab => rty_keep hg hs t _ a b hab
  | .unit, _, _, v, h => by simp only [RTy] at h ⊢; simp [h, V.reflag, reflagL]
  | .pair a b, o, x, v, h => by
    simp only [RTy] at h ⊢; obtain ⟨v1, l, rfl, h1, h2⟩ := h
    refine ⟨v1.reflag g, reflagL g l, by simp [V.reflag, reflagL], rty_keep hg hs a o _ _ h1, ?_⟩
    have := rty_keep hg hs b o _ _ h2
    simpa only [V.reflag] using this
theorem isLp_reflag1 {g : Fl → Fl} {v : V} (h : isLp [v] = false) : isLp [v.reflag g] = false := by cases v <;> simp_all [V.reflag, isLp]
theorem ptrs_reflag1 (g : Fl → Fl) (v : V) : (v.reflag g).ptrs = v.ptrs := by
  have := ptrsL_reflag g [v]
  simpa [reflagL, ptrsL] using this
mutual
theorem RV.dull' {g : Fl → Fl} (hg : ∀ f, g f ≠ .own) (hs : g .shared = .shared) : ∀ (x : TV) (v : V), RV x v → RV x.dull (v.reflag g)
  | .any rs, v, h => by simp only [TV.dull, RV] at h ⊢; rw [ptrs_reflag1]; exact ⟨h.1, isLp_reflag1 h.2⟩
  | .t τ o x, v, h => by simp only [TV.dull, RV] at h ⊢; exact rty_dull hg hs τ o x v h
  | .clp τ x, v, h => by
    simp only [TV.dull, RV] at h ⊢; obtain ⟨f, l', rfl, _, h⟩ := h
    refine ⟨g f, reflagL g l', by simp [V.reflag], hg f, ?_⟩
    rw [reflagL_map]
    exact h.map fun a b hab => rty_dl0 τ 0 a _ (rty_dull hg hs τ _ a b hab)
  | .empty o, v, h => by
    simp only [TV.dull, RV] at h ⊢; obtain ⟨f, c, rfl, h0⟩ := h
    refine ⟨g f, c, by simp [V.reflag, reflagL], flr_of (dl_not o).1 (hg f) (fun h1 => ?_)⟩
    have ho : o = 1000 := by
      unfold dl at h1
      split at h1
      · assumption
      · cases h1
    rw [h0.2 ho]; exact hs
  | .val u, v, h => by simp only [TV.dull, RV] at h ⊢; simp [h, V.reflag]
  | .agg l, v, h => by simp only [TV.dull, RV] at h ⊢; obtain ⟨l', rfl, h⟩ := h; exact ⟨_, by simp only [V.reflag], RVL.dull' hg hs l l' h⟩
  | .tuple l, v, h => by simp only [TV.dull, RV] at h ⊢; obtain ⟨l', rfl, h⟩ := h; exact ⟨_, by simp only [V.reflag], RVL.dull' hg hs l l' h⟩
  | .fn g' a b, v, h => by simp only [TV.dull, RV] at h ⊢; obtain ⟨a', b', rfl, h1, h2⟩ := h; exact ⟨_, _, by simp only [V.reflag], RVL.dull' hg hs a a' h1, RVL.dull' hg hs b b' h2⟩
  | .ptr q o, v, h => by simp only [TV.dull, RV] at h ⊢; simp [h, V.reflag]
  | .cptr l, v, h => by simp only [TV.dull, RV] at h ⊢; obtain ⟨l', rfl, h⟩ := h; exact ⟨_, by simp only [V.reflag], RVL.dull' hg hs l l' h⟩
  | .iface t x, v, h => by simp only [TV.dull, RV] at h ⊢; obtain ⟨y, rfl, h⟩ := h; exact ⟨_, by simp only [V.reflag], RV.dull' hg hs x y h⟩
theorem RVL.dull' {g : Fl → Fl} (hg : ∀ f, g f ≠ .own) (hs : g .shared = .shared) : ∀ (l : List TV) (l' : List V), RVL l l' → RVL (dullL l) (reflagL g l')
  | [], l', h => by simp only [RVL] at h; simp [h, dullL, reflagL, RVL]
  | x :: l, l', h => by
    simp only [RVL] at h; obtain ⟨v, m, rfl, h1, h2⟩ := h
    simp only [dullL, reflagL]
    exact rvl_cons.2 ⟨RV.dull' hg hs x v h1, RVL.dull' hg hs l m h2⟩
end
mutual
theorem RV.keep {g : Fl → Fl} (hg : ∀ f, g f = .own ↔ f = .own) (hs : g .shared = .shared) : ∀ (x : TV) (v : V), RV x v → RV x (v.reflag g)
  | .any rs, v, h => by simp only [RV] at h ⊢; rw [ptrs_reflag1]; exact ⟨h.1, isLp_reflag1 h.2⟩
  | .t τ o x, v, h => by simp only [RV] at h ⊢; exact rty_keep hg hs τ o x v h
  | .clp τ x, v, h => by
    simp only [RV] at h ⊢; obtain ⟨f, l', rfl, h0, h⟩ := h
    refine ⟨g f, reflagL g l', by simp [V.reflag], fun e => h0 ((hg f).1 e), ?_⟩
    rw [reflagL_map]
    exact h.map fun a b hab => rty_keep hg hs τ _ a b hab
  | .empty o, v, h => by simp only [RV] at h ⊢; obtain ⟨f, c, rfl, h0⟩ := h; exact ⟨g f, c, by simp [V.reflag, reflagL], ⟨fun h2 => by rw [hg f]; exact h0.1 h2, fun h1 => by rw [h0.2 h1]; exact hs⟩⟩
  | .val u, v, h => by simp only [RV] at h ⊢; simp [h, V.reflag]
  | .agg l, v, h => by simp only [RV] at h ⊢; obtain ⟨l', rfl, h⟩ := h; exact ⟨_, by simp only [V.reflag], RVL.keep hg hs l l' h⟩
  | .tuple l, v, h => by simp only [RV] at h ⊢; obtain ⟨l', rfl, h⟩ := h; exact ⟨_, by simp only [V.reflag], RVL.keep hg hs l l' h⟩
  | .fn g' a b, v, h => by simp only [RV] at h ⊢; obtain ⟨a', b', rfl, h1, h2⟩ := h; exact ⟨_, _, by simp only [V.reflag], RVL.keep hg hs a a' h1, RVL.keep hg hs b b' h2⟩
  | .ptr q o, v, h => by simp only [RV] at h ⊢; simp [h, V.reflag]
  | .cptr l, v, h => by simp only [RV] at h ⊢; obtain ⟨l', rfl, h⟩ := h; exact ⟨_, by simp only [V.reflag], RVL.keep hg hs l l' h⟩
  | .iface t x, v, h => by simp only [RV] at h ⊢; obtain ⟨y, rfl, h⟩ := h; exact ⟨_, by simp only [V.reflag], RV.keep hg hs x y h⟩
theorem RVL.keep {g : Fl → Fl} (hg : ∀ f, g f = .own ↔ f = .own) (hs : g .shared = .shared) : ∀ (l : List TV) (l' : List V), RVL l l' → RVL l (reflagL g l')
  | [], l', h => by simp only [RVL] at h; simp [h, reflagL, RVL]
  | x :: l, l', h => by
    simp only [RVL] at h; obtain ⟨v, m, rfl, h1, h2⟩ := h
    simp only [reflagL]
    exact rvl_cons.2 ⟨RV.keep hg hs x v h1, RVL.keep hg hs l m h2⟩
end
theorem flDull_own (f : Fl) : flDull f ≠ .own := by cases f <;> simp [flDull]
theorem RV.dull {x : TV} {v : V} (h : RV x v) : RV x.dull v.dull := RV.dull' flDull_own rfl x v h
theorem RVL.dull {l : List TV} {l' : List V} (h : RVL l l') : RVL (dullL l) (reflagL flDull l') := RVL.dull' flDull_own rfl l l' h
theorem RVL.map_dull {g : Fl → Fl} (hg : ∀ f, g f ≠ .own) (hs : g .shared = .shared) {l : List TV} {l' : List V} (h : RVL l l') : RVL (dullL l) (l'.map (V.reflag g)) := by
  rw [← reflagL_map]; exact RVL.dull' hg hs l l' h

/-! ### owners -/
theorem ownsL_iff {l : List V} : ownsL l = true ↔ ∃ v ∈ l, v.owns = true := by
  induction l with
  | nil => simp [ownsL]
  | cons v l ih => simp [ownsL, ih]
theorem all2_mem {α β : Type} {R : α → β → Prop} {l : List α} {l' : List β} (h : All2 R l l') : ∀ b ∈ l', ∃ a ∈ l, R a b := by
  induction h with
  | nil => simp
  | cons h1 _ ih =>
    intro b hb
    rcases List.mem_cons.1 hb with rfl | hb
    · exact ⟨_, by simp, h1⟩
    · obtain ⟨a, ha, hr⟩ := ih b hb; exact ⟨a, by simp [ha], hr⟩
theorem rty_owns : ∀ (τ : Ty) (o : Nat) (x : τ.den) (v : V), RTy τ o x v → v.owns = true → (isOwn o = true ∨ o = 2000) ∧ 0 < τ.depth
  | .int _, _, _, v, h, ho => by simp only [RTy] at h; simp [h, V.owns] at ho
  | .bool, _, _, v, h, ho => by simp only [RTy] at h; simp [h, V.owns] at ho
  | .str, _, _, v, h, ho => by simp only [RTy] at h; simp [h, V.owns] at ho
  | .sl t, o, l, v, h, ho => by
    simp only [RTy] at h; obtain ⟨f, c, l', rfl, hf, h⟩ := h
    simp only [V.owns, Bool.or_eq_true, decide_eq_true_eq] at ho
    simp only [Ty.depth]
    refine ⟨?_, by omega⟩
    by_cases h2 : o = 2000
    · exact .inr h2
    left
    rcases ho with ho | ho
    · exact (hf.1 h2).1 ho
    · obtain ⟨b, hb, hbo⟩ := ownsL_iff.1 ho
      obtain ⟨a, _, hr⟩ := all2_mem h b hb
      have := (rty_owns t _ a b hr hbo).1
      cases hno : isOwn o with
      | true => rfl
      | false =>
        unfold nx at this
        rw [hno] at this
        simp only [Bool.false_eq_true, if_false, hno, false_or] at this
        exact absurd this h2
  | .unit, _, _, v, h, ho => by simp only [RTy] at h; simp [h, V.owns, ownsL] at ho
  | .pair a b, o, x, v, h, ho => by
    simp only [RTy] at h; obtain ⟨v1, l, rfl, h1, h2⟩ := h
    simp only [V.owns, ownsL, Bool.or_eq_true] at ho
    simp only [Ty.depth]
    rcases ho with ho | ho
    · have := rty_owns a o _ _ h1 ho; exact ⟨this.1, by omega⟩
    · have := rty_owns b o _ _ h2 (by simpa only [V.owns] using ho); exact ⟨this.1, by omega⟩
mutual
theorem RV.owns : ∀ (x : TV) (v : V), RV x v → v.owns = true → x.owns = true
  | .any rs, v, h, ho => by simp [TV.owns]
  | .t τ o x, v, h, ho => by simp only [RV] at h; have := rty_owns τ o x v h ho; simpa [TV.owns] using this
  | .clp τ x, v, h, ho => by
    simp only [RV] at h; obtain ⟨f, l', rfl, hf, h⟩ := h
    simp only [V.owns, Bool.or_eq_true, decide_eq_true_eq] at ho
    rcases ho with ho | ho
    · exact absurd ho hf
    · obtain ⟨b, hb, hbo⟩ := ownsL_iff.1 ho
      obtain ⟨a, _, hr⟩ := all2_mem h b hb
      have := (rty_owns τ _ a b hr hbo).1
      simp [isOwn] at this
  | .empty o, v, h, ho => by
    simp only [RV] at h; obtain ⟨f, c, rfl, hf⟩ := h
    simp only [V.owns, ownsL, Bool.or_false, decide_eq_true_eq] at ho
    simp only [TV.owns, Bool.or_eq_true, decide_eq_true_eq]
    by_cases h2 : o = 2000
    · exact .inr h2
    · exact .inl ((hf.1 h2).1 ho)
  | .val u, v, h, ho => by simp only [RV] at h; simp [h, V.owns] at ho
  | .agg l, v, h, ho => by simp only [RV] at h; obtain ⟨l', rfl, h⟩ := h; simp only [V.owns, TV.owns] at ho ⊢; exact RVL.owns l l' h ho
  | .tuple l, v, h, ho => by simp only [RV] at h; obtain ⟨l', rfl, h⟩ := h; simp only [V.owns, TV.owns] at ho ⊢; exact RVL.owns l l' h ho
  | .fn g a b, v, h, ho => by
    simp only [RV] at h; obtain ⟨a', b', rfl, h1, h2⟩ := h
    simp only [V.owns, TV.owns, Bool.or_eq_true] at ho ⊢
    exact ho.imp (RVL.owns a a' h1) (RVL.owns b b' h2)
  | .ptr q o, v, h, ho => by simp only [RV] at h; simp [h, V.owns] at ho
  | .cptr l, v, h, ho => by simp only [RV] at h; obtain ⟨l', rfl, h⟩ := h; simp only [V.owns, TV.owns] at ho ⊢; exact RVL.owns l l' h ho
  | .iface t x, v, h, ho => by simp only [RV] at h; obtain ⟨y, rfl, h⟩ := h; simp only [V.owns, TV.owns] at ho ⊢; exact RV.owns x y h ho
theorem RVL.owns : ∀ (l : List TV) (l' : List V), RVL l l' → ownsL l' = true → ownsTL l = true
  | [], l', h, ho => by simp only [RVL] at h; simp [h, ownsL] at ho
  | x :: l, l', h, ho => by
    simp only [RVL] at h; obtain ⟨v, m, rfl, h1, h2⟩ := h
    simp only [ownsL, ownsTL, Bool.or_eq_true] at ho ⊢
    exact ho.imp (RV.owns x v h1) (RVL.owns l m h2)
end

/-! ### cells -/
theorem rty_one {τ : Ty} (h1 : τ.one = true) {o : Nat} {x : τ.den} {v : V} (h : RTy τ o x v) : v.one = true := by
  cases τ with
  | unit => simp [Ty.one] at h1
  | pair a b => simp [Ty.one] at h1
  | sl t => simp only [RTy] at h; obtain ⟨f, c, l', rfl, _⟩ := h; rfl
  | _ => simp only [RTy] at h; subst h; rfl
theorem RV.one {x : TV} {v : V} (h1 : x.one = true) (h : RV x v) : v.one = true := by
  cases x with
  | any rs => simp [TV.one] at h1
  | t τ o x => simp only [RV] at h; exact rty_one h1 h
  | clp τ x => simp only [RV] at h; obtain ⟨f, l', rfl, _⟩ := h; rfl
  | empty own => simp only [RV] at h; obtain ⟨f, c, rfl, _⟩ := h; rfl
  | val u => simp only [RV] at h; subst h; exact h1
  | agg l => simp [TV.one] at h1
  | tuple l => simp [TV.one] at h1
  | fn g a b => simp only [RV] at h; obtain ⟨a', b', rfl, _⟩ := h; rfl
  | ptr r o => simp only [RV] at h; subst h; rfl
  | cptr l => simp only [RV] at h; obtain ⟨l', rfl, _⟩ := h; rfl
  | iface t x => simp only [RV] at h; obtain ⟨y, rfl, _⟩ := h; rfl
theorem cells_one {v : V} (h : v.one = true) : v.cells = [v] := by cases v <;> first | rfl | simp [V.one] at h
theorem RVL.ones : ∀ {l : List TV} {l' : List V}, l.all TV.one = true → RVL l l' → l'.all V.one = true
  | [], l', _, h => by simp only [RVL] at h; simp [h]
  | x :: l, l', h1, h => by
    simp only [RVL] at h; obtain ⟨v, m, rfl, h2, h3⟩ := h
    simp only [List.all_cons, Bool.and_eq_true] at h1 ⊢
    exact ⟨RV.one h1.1 h2, RVL.ones h1.2 h3⟩
theorem RV.cells {x : TV} {v : V} (hk : x.oks = true) (h : RV x v) : RVL x.cells v.cells ∧ v.oks = true := by
  by_cases hx : ∃ l, x = .agg l
  · obtain ⟨l, rfl⟩ := hx
    simp only [RV] at h
    obtain ⟨l', rfl, h⟩ := h
    simp only [TV.oks, TV.cells] at hk
    exact ⟨h, RVL.ones hk h⟩
  · have hc : x.cells = [x] := by cases x <;> first | rfl | exact absurd ⟨_, rfl⟩ hx
    have h1 : x.one = true := by simpa [TV.oks, hc] using hk
    have hv := RV.one h1 h
    have hcv := cells_one hv
    rw [hc, hcv]
    exact ⟨rvl_cons.2 ⟨h, rvl_nil⟩, by simp [V.oks, hcv, hv]⟩
theorem rvl_notLp {l : List TV} {l' : List V} (h : RVL l l') : isLp l' = false := by
  cases l with
  | nil => simp only [RVL] at h; simp [h, isLp]
  | cons x l =>
    simp only [RVL] at h; obtain ⟨v, m, rfl, h1, _⟩ := h
    cases v with
    | lp s pe g env ps a b =>
      exfalso
      cases x with
      | any rs => simp [RV, isLp] at h1
      | t τ o x =>
        cases τ <;> simp [RV, RTy] at h1
      | _ => simp [RV] at h1
    | _ => rfl

/-! ### typed values as values -/
mutual
theorem rv_ofTy : ∀ (τ : Ty) (o : Nat) (x : τ.den) (v : V), RTy τ o x v → RV (ofTy τ o x) v
  | .int _, _, _, v, h => by simpa only [ofTy, RV] using h
  | .bool, _, _, v, h => by simpa only [ofTy, RV] using h
  | .str, _, _, v, h => by simpa only [ofTy, RV] using h
  | .sl t, o, l, v, h => by simpa only [ofTy, RV] using h
  | .unit, _, _, v, h => by simp only [RTy] at h; simp [h, ofTy, RV, RVL]
  | .pair a b, o, x, v, h => by
    simp only [RTy] at h; obtain ⟨v1, l, rfl, h1, h2⟩ := h
    simp only [ofTy, RV]
    exact ⟨_, rfl, rvl_cons.2 ⟨rv_ofTy a o _ _ h1, rv_ofTyC b o _ l h2⟩⟩
theorem rv_ofTyC : ∀ (τ : Ty) (o : Nat) (x : τ.den) (l : List V), RTy τ o x (.agg l) → RVL (ofTyC τ o x) l
  | .int _, _, _, l, h => by simp [RTy] at h
  | .bool, _, _, l, h => by simp [RTy] at h
  | .str, _, _, l, h => by simp [RTy] at h
  | .sl t, o, x, l, h => by simp [RTy] at h
  | .unit, _, _, l, h => by simp only [RTy, V.agg.injEq] at h; simp [h, ofTyC, RVL]
  | .pair a b, o, x, l, h => by
    simp only [RTy, V.agg.injEq] at h; obtain ⟨v1, m, rfl, h1, h2⟩ := h
    simp only [ofTyC]
    exact rvl_cons.2 ⟨rv_ofTy a o _ _ h1, rv_ofTyC b o _ m h2⟩
end
theorem ofTy_one {τ : Ty} (h : τ.one = true) (o : Nat) (x : τ.den) : (ofTy τ o x).one = true := by cases τ <;> first | rfl | simp [Ty.one] at h
theorem ofTyC_ones : ∀ (τ : Ty), τ.rowOk = true → ∀ (o : Nat) (x : τ.den), (ofTyC τ o x).all TV.one = true
  | .unit, _, o, x => rfl
  | .pair a b, h, o, x => by
    simp only [Ty.rowOk, Bool.and_eq_true] at h
    simp only [ofTyC, List.all_cons, Bool.and_eq_true]
    exact ⟨ofTy_one h.1 o _, ofTyC_ones b h.2 o _⟩
  | .int _, h, _, _ | .bool, h, _, _ | .str, h, _, _ | .sl _, h, _, _ => by simp [Ty.rowOk] at h
theorem ofTy_oks {τ : Ty} (h : τ.elemOk = true) (o : Nat) (x : τ.den) : (ofTy τ o x).oks = true := by
  cases τ with
  | unit => rfl
  | pair a b =>
    simp only [Ty.elemOk, Bool.and_eq_true] at h
    simp only [ofTy, TV.oks, TV.cells, List.all_cons, Bool.and_eq_true]
    exact ⟨ofTy_one h.1 o _, ofTyC_ones b h.2 o _⟩
  | _ => rfl
theorem ofTyC_length : ∀ (τ : Ty), τ.rowOk = true → ∀ (o : Nat) (x : τ.den), (ofTyC τ o x).length = τ.ncells
  | .unit, _, o, x => rfl
  | .pair a b, h, o, x => by
    simp only [Ty.rowOk, Bool.and_eq_true] at h
    simp [ofTyC, Ty.ncells, ofTyC_length b h.2 o x.2]
  | .int _, h, _, _ | .bool, h, _, _ | .str, h, _, _ | .sl _, h, _, _ => by simp [Ty.rowOk] at h
theorem ofTy_ncells {τ : Ty} (h : τ.elemOk = true) (o : Nat) (x : τ.den) : (ofTy τ o x).cells.length = τ.ncells := by
  cases τ with
  | unit => rfl
  | pair a b =>
    simp only [Ty.elemOk, Bool.and_eq_true] at h
    simp [ofTy, TV.cells, Ty.ncells, ofTyC_length b h.2 o x.2]
  | _ => rfl
theorem rty_ncells {τ : Ty} (h : τ.elemOk = true) {o : Nat} {x : τ.den} {v : V} (hr : RTy τ o x v) : v.cells.length = τ.ncells ∧ v.oks = true := by
  obtain ⟨h1, h2⟩ := RV.cells (ofTy_oks h o x) (rv_ofTy τ o x v hr)
  exact ⟨by rw [h1.length, ofTy_ncells h], h2⟩

/-! ### values as typed values -/
theorem fits_le : ∀ {d d' : Nat} {o' o : Nat}, d' ≤ d → fits d o' o = true → fits d' o' o = true
  | _, 0, _, _, _, _ => rfl
  | 0, d' + 1, _, _, h, _ => by omega
  | d + 1, d' + 1, o', o, h, hf => by
    simp only [fits, Bool.or_eq_true, Bool.and_eq_true] at hf ⊢
    exact hf.imp id fun hf => ⟨hf.1, fits_le (by omega) hf.2⟩
theorem fits_flr {o' o d : Nat} {f : Fl} (h : fits (d + 1) o' o = true) (hf : FlR o' f) : FlR o f ∧ (o = 2000 ∨ fits d (nx o') (nx o) = true) := by
  simp only [fits, Bool.or_eq_true, Bool.and_eq_true, decide_eq_true_eq, beq_iff_eq, Bool.not_eq_true', decide_eq_false_iff_not] at h
  rcases h with rfl | ⟨⟨⟨h1, h2⟩, h3⟩, h4⟩
  · exact ⟨⟨fun h => absurd rfl h, fun h => by cases h⟩, .inl rfl⟩
  · exact ⟨⟨fun _ => by rw [hf.1 h2, h1], fun h => hf.2 (h3.resolve_left fun h5 => h5 h)⟩, .inr h4⟩
theorem fits_2000 : ∀ (d o : Nat), fits d o 2000 = true
  | 0, _ => rfl
  | d + 1, o => by simp [fits]
theorem rty_lev : ∀ (τ : Ty) (o o' : Nat) (x : τ.den) (v : V), fits τ.depth o o' = true → RTy τ o x v → RTy τ o' x v
  | .int _, _, _, _, v, _, h => by simpa only [RTy] using h
  | .bool, _, _, _, v, _, h => by simpa only [RTy] using h
  | .str, _, _, _, v, _, h => by simpa only [RTy] using h
  | .unit, _, _, _, v, _, h => by simpa only [RTy] using h
  | .sl t, o, o', l, v, hm, h => by
    simp only [Ty.depth] at hm
    simp only [RTy] at h ⊢; obtain ⟨f, c, l', rfl, hf, h⟩ := h
    obtain ⟨h1, h2⟩ := fits_flr hm hf
    refine ⟨f, c, l', rfl, h1, h.mono fun a b hab => rty_lev t _ _ a b ?_ hab⟩
    rcases h2 with rfl | h2
    · exact fits_2000 _ _
    · exact h2
  | .pair a b, o, o', x, v, hm, h => by
    simp only [Ty.depth] at hm
    simp only [RTy] at h ⊢; obtain ⟨v1, l, rfl, h3, h4⟩ := h
    exact ⟨v1, l, rfl, rty_lev a _ _ _ _ (fits_le (by omega) hm) h3, rty_lev b _ _ _ _ (fits_le (by omega) hm) h4⟩
theorem rty_cast {τ τ' : Ty} (h : τ' = τ) {o : Nat} {x : τ'.den} {v : V} (hr : RTy τ' o x v) : RTy τ o (cast' h x) v := by subst h; exact hr
theorem asTy_ok : ∀ (τ : Ty) (o : Nat) (w : TV) (x : τ.den) (v : V), asTy τ o w = some x → RV w v → RTy τ o x v := by
  have dflt : ∀ (τ : Ty) (o : Nat) (τ' : Ty) (o' : Nat) (y : τ'.den) (x : τ.den) (v : V), (if h : τ' = τ then (if fits τ.depth o' o = true then some (cast' h y) else none) else none) = some x → RTy τ' o' y v → RTy τ o x v := by
    intro τ o τ' o' y x v h hr
    split at h
    · rename_i he
      split at h
      · rename_i hm
        simp only [Option.some.injEq] at h
        subst h
        subst he
        exact rty_lev _ _ _ _ _ hm hr
      · cases h
    · cases h
  intro τ
  induction τ with
  | int k =>
    intro o w x v h hr
    cases w <;> simp only [asTy] at h <;> first | cases h | exact dflt _ _ _ _ _ _ _ h (by simpa only [RV] using hr)
  | bool =>
    intro o w x v h hr
    cases w <;> simp only [asTy] at h <;> first | cases h | exact dflt _ _ _ _ _ _ _ h (by simpa only [RV] using hr)
  | str =>
    intro o w x v h hr
    cases w <;> simp only [asTy] at h <;> first | cases h | exact dflt _ _ _ _ _ _ _ h (by simpa only [RV] using hr)
  | sl t ih =>
    intro o w x v h hr
    cases w with
    | empty own =>
      simp only [asTy] at h
      split at h
      · rename_i ho
        simp only [Option.some.injEq] at h
        subst h
        simp only [RV] at hr
        obtain ⟨f, c, rfl, hf⟩ := hr
        simp only [RTy]
        exact ⟨f, c, [], rfl, (fits_flr ho hf).1, .nil⟩
      · cases h
    | t τ' o' y => simp only [asTy] at h; exact dflt _ _ _ _ _ _ _ h (by simpa only [RV] using hr)
    | _ => simp [asTy] at h
  | unit =>
    intro o w x v h hr
    cases w with
    | agg l =>
      cases l with
      | nil => simp only [RV] at hr; obtain ⟨l', rfl, h1⟩ := hr; simp only [RVL] at h1; simp [RTy, h1]
      | cons => simp [asTy] at h
    | t τ' o' y => simp only [asTy] at h; exact dflt _ _ _ _ _ _ _ h (by simpa only [RV] using hr)
    | _ => simp [asTy] at h
  | pair a b iha ihb =>
    intro o w x v h hr
    cases w with
    | agg l =>
      cases l with
      | nil => simp [asTy] at h
      | cons u l =>
        simp only [asTy] at h
        obtain ⟨y, hy, h⟩ := Option.bind_eq_some_iff.1 h
        obtain ⟨z, hz, h⟩ := Option.bind_eq_some_iff.1 h
        simp only [Option.some.injEq] at h
        subst h
        simp only [RV] at hr
        obtain ⟨l', rfl, hl⟩ := hr
        simp only [RVL] at hl
        obtain ⟨v1, m, rfl, h1, h2⟩ := hl
        simp only [RTy]
        exact ⟨v1, m, rfl, iha _ _ _ _ hy h1, ihb _ _ _ _ hz (by simp only [RV]; exact ⟨m, rfl, h2⟩)⟩
    | t τ' o' y => simp only [asTy] at h; exact dflt _ _ _ _ _ _ _ h (by simpa only [RV] using hr)
    | _ => simp [asTy] at h
theorem asL_ok : ∀ (ps : List (Ty × Nat)) (l : List TV) (x : denL (ps.map (·.1))) (l' : List V), asL ps l = some x → RVL l l' → RVL (ofL ps x) l'
  | [], l, x, l', h, hr => by
    cases l with
    | nil => simpa [ofL] using hr
    | cons => simp [asL] at h
  | [(τ, o)], l, x, l', h, hr => by
    match l, h, hr with
    | [v], h, hr =>
      simp only [asL] at h
      simp only [RVL] at hr
      obtain ⟨u, m, rfl, h1, rfl⟩ := hr
      simp only [ofL]
      exact rvl_cons.2 ⟨rv_ofTy _ _ _ _ (asTy_ok _ _ _ _ _ h h1), rvl_nil⟩
    | [], h, hr => simp [asL] at h
    | _ :: _ :: _, h, hr => simp [asL] at h
  | (τ, o) :: q :: ps, l, x, l', h, hr => by
    match l, h, hr with
    | [], h, hr => simp [asL] at h
    | v :: l, h, hr =>
      simp only [asL] at h
      obtain ⟨y, hy, h⟩ := Option.bind_eq_some_iff.1 h
      obtain ⟨z, hz, h⟩ := Option.bind_eq_some_iff.1 h
      simp only [Option.some.injEq] at h
      subst h
      simp only [RVL] at hr
      obtain ⟨u, m, rfl, h1, h2⟩ := hr
      simp only [ofL]
      exact rvl_cons.2 ⟨rv_ofTy _ _ _ _ (asTy_ok _ _ _ _ _ hy h1), asL_ok (q :: ps) l _ _ hz h2⟩
theorem asAll_ok {τ : Ty} {o : Nat} : ∀ (l : List TV) (x : List τ.den) (l' : List V), asAll τ o l = some x → RVL l l' → All2 (RTy τ o) x l'
  | [], x, l', h, hr => by simp only [asAll, Option.some.injEq] at h; simp only [RVL] at hr; subst h; subst hr; exact .nil
  | v :: l, x, l', h, hr => by
    simp only [asAll] at h
    obtain ⟨y, hy, h⟩ := Option.bind_eq_some_iff.1 h
    obtain ⟨z, hz, h⟩ := Option.bind_eq_some_iff.1 h
    simp only [Option.some.injEq] at h
    subst h
    simp only [RVL] at hr
    obtain ⟨u, m, rfl, h1, h2⟩ := hr
    exact .cons (asTy_ok _ _ _ _ _ hy h1) (asAll_ok l _ _ hz h2)

/-! ### constants -/
theorem rv_zero (p : Bool) (u : Value) : RV (zeroTV p u) (ofZero p u) := by
  unfold zeroTV ofZero
  split
  · simp [RV, RTy]
  · simp [RV, RTy]
  · simp [RV, RTy]
  · cases p
    · simp only [RV, nilSlice, Bool.false_eq_true, if_false]; exact ⟨_, _, rfl, flr_own rfl⟩
    · simp [RV, nilSlice]
  · rename_i h1 h2 h3 h4
    split
    · exact absurd rfl h4
    · simp [RV]
theorem rvl_map {g : Value → TV} {h : Value → V} (hr : ∀ u, RV (g u) (h u)) : ∀ l : List Value, RVL (l.map g) (l.map h)
  | [] => rvl_nil
  | u :: l => rvl_cons.2 ⟨hr u, rvl_map hr l⟩
theorem rv_const (p : Bool) (u : Value) : RV (constTV p u) (ofConst p u) := by
  have key := rv_zero p u
  cases u <;> first | exact key | (simp only [constTV, ofConst, RV]; exact ⟨_, rfl, rvl_map (rv_zero p) _⟩)

/-! ### handed on; loosened; soft -/
theorem rty_share : ∀ (τ : Ty) (o : Nat) (x : τ.den) (v : V), RTy τ o x v → RTy τ 1000 x (v.reflag flShare)
  | .int _, _, _, v, h => by simp only [RTy] at h ⊢; simp [h, V.reflag]
  | .bool, _, _, v, h => by simp only [RTy] at h ⊢; simp [h, V.reflag]
  | .str, _, _, v, h => by simp only [RTy] at h ⊢; simp [h, V.reflag]
  | .sl t, o, l, v, h => by
    simp only [RTy] at h ⊢; obtain ⟨f, c, l', rfl, _, h⟩ := h
    refine ⟨.shared, c, reflagL flShare l', by simp [V.reflag, flShare], flr_of rfl (by simp) (fun _ => rfl), ?_⟩
    rw [reflagL_map]
    exact h.map fun a b hab => rty_share t _ a b hab
  | .unit, _, _, v, h => by simp only [RTy] at h ⊢; simp [h, V.reflag, reflagL]
  | .pair a b, o, x, v, h => by
    simp only [RTy] at h ⊢; obtain ⟨v1, l, rfl, h1, h2⟩ := h
    refine ⟨v1.reflag flShare, reflagL flShare l, by simp [V.reflag, reflagL], rty_share a o _ _ h1, ?_⟩
    have := rty_share b o _ _ h2
    simpa only [V.reflag] using this
mutual
theorem RV.share : ∀ (x : TV) (v : V), RV x v → RV x.share (v.reflag flShare)
  | .any rs, v, h => by simp only [TV.share, RV] at h ⊢; rw [ptrs_reflag1]; exact ⟨h.1, isLp_reflag1 h.2⟩
  | .t τ o x, v, h => by simp only [TV.share, RV] at h ⊢; exact rty_share τ o x v h
  | .clp τ x, v, h => by
    simp only [TV.share, RV, RTy] at h ⊢; obtain ⟨f, l', rfl, _, h⟩ := h
    refine ⟨.shared, true, reflagL flShare l', by simp [V.reflag, flShare], flr_of rfl (by simp) (fun _ => rfl), ?_⟩
    rw [reflagL_map]
    exact h.map fun a b hab => rty_share τ _ a b hab
  | .empty own, v, h => by simp only [TV.share, RV] at h ⊢; obtain ⟨f, c, rfl, _⟩ := h; exact ⟨.shared, c, by simp [V.reflag, reflagL, flShare], flr_of rfl (by simp) (fun _ => rfl)⟩
  | .val u, v, h => by simp only [TV.share, RV] at h ⊢; simp [h, V.reflag]
  | .agg l, v, h => by simp only [TV.share, RV] at h ⊢; obtain ⟨l', rfl, h⟩ := h; exact ⟨_, by simp only [V.reflag], RVL.share l l' h⟩
  | .tuple l, v, h => by simp only [TV.share, RV] at h ⊢; obtain ⟨l', rfl, h⟩ := h; exact ⟨_, by simp only [V.reflag], RVL.share l l' h⟩
  | .fn g' a b, v, h => by simp only [TV.share, RV] at h ⊢; obtain ⟨a', b', rfl, h1, h2⟩ := h; exact ⟨_, _, by simp only [V.reflag], RVL.share a a' h1, RVL.share b b' h2⟩
  | .ptr q o, v, h => by simp only [TV.share, RV] at h ⊢; simp [h, V.reflag]
  | .cptr l, v, h => by simp only [TV.share, RV] at h ⊢; obtain ⟨l', rfl, h⟩ := h; exact ⟨_, by simp only [V.reflag], RVL.share l l' h⟩
  | .iface t x, v, h => by simp only [TV.share, RV] at h ⊢; obtain ⟨y, rfl, h⟩ := h; exact ⟨_, by simp only [V.reflag], RV.share x y h⟩
theorem RVL.share : ∀ (l : List TV) (l' : List V), RVL l l' → RVL (shareL l) (reflagL flShare l')
  | [], l', h => by simp only [RVL] at h; simp [h, shareL, reflagL, RVL]
  | x :: l, l', h => by
    simp only [RVL] at h; obtain ⟨v, m, rfl, h1, h2⟩ := h
    simp only [shareL, reflagL]
    exact rvl_cons.2 ⟨RV.share x v h1, RVL.share l m h2⟩
end
theorem isOwn_lo {o : Nat} : isOwn (lo o) = isOwn o := by
  rw [Bool.eq_iff_iff, isOwn_iff, isOwn_iff]
  unfold lo; split <;> omega
theorem nx_lo {o : Nat} : nx (lo o) = lo (nx o) := by
  have h1 := @isOwn_lo o
  unfold nx
  rw [h1]
  cases ho : isOwn o with
  | false => rfl
  | true =>
    have := isOwn_iff.1 ho
    simp only [if_true]
    unfold lo; split <;> split <;> omega
theorem lo_2000 {o : Nat} : lo o = 2000 ↔ o = 2000 := by unfold lo; split <;> omega
theorem flr_lo {g : Fl → Fl} (hg : ∀ f, g f = .own ↔ f = .own) {o : Nat} {f : Fl} (h : FlR o f) : FlR (lo o) (g f) :=
  ⟨fun h2 => by rw [hg f, isOwn_lo]; exact h.1 (fun e => h2 (lo_2000.2 e)), fun h1 => by unfold lo at h1; split at h1 <;> omega⟩
theorem rty_lo {g : Fl → Fl} (hg : ∀ f, g f = .own ↔ f = .own) : ∀ (τ : Ty) (o : Nat) (x : τ.den) (v : V), RTy τ o x v → RTy τ (lo o) x (v.reflag g)
  | .int _, _, _, v, h => by simp only [RTy] at h ⊢; simp [h, V.reflag]
  | .bool, _, _, v, h => by simp only [RTy] at h ⊢; simp [h, V.reflag]
  | .str, _, _, v, h => by simp only [RTy] at h ⊢; simp [h, V.reflag]
  | .sl t, o, l, v, h => by
    simp only [RTy] at h ⊢; obtain ⟨f, c, l', rfl, hf, h⟩ := h
    refine ⟨g f, c, reflagL g l', by simp [V.reflag], flr_lo hg hf, ?_⟩
    rw [reflagL_map, nx_lo]
    exact h.map fun a b hab => rty_lo hg t _ a b hab
  | .unit, _, _, v, h => by simp only [RTy] at h ⊢; simp [h, V.reflag, reflagL]
  | .pair a b, o, x, v, h => by
    simp only [RTy] at h ⊢; obtain ⟨v1, l, rfl, h1, h2⟩ := h
    refine ⟨v1.reflag g, reflagL g l, by simp [V.reflag, reflagL], rty_lo hg a o _ _ h1, ?_⟩
    have := rty_lo hg b o _ _ h2
    simpa only [V.reflag] using this
theorem isLp_rty {τ : Ty} {o : Nat} {x : τ.den} {v : V} (h : RTy τ o x v) : isLp [v] = false := by
  cases τ with
  | int _ => simp only [RTy] at h; subst h; rfl
  | bool => simp only [RTy] at h; subst h; rfl
  | str => simp only [RTy] at h; subst h; rfl
  | sl t => simp only [RTy] at h; obtain ⟨f, c, l', rfl, _⟩ := h; rfl
  | unit => simp only [RTy] at h; subst h; rfl
  | pair a b => simp only [RTy] at h; obtain ⟨v1, l, rfl, _⟩ := h; rfl
mutual
theorem RV.lo {g : Fl → Fl} (hg : ∀ f, g f = .own ↔ f = .own) : ∀ (x : TV) (v : V), RV x v → RV x.loosen (v.reflag g)
  | .any rs, v, h => by simp only [TV.loosen, RV] at h ⊢; rw [ptrs_reflag1]; exact ⟨h.1, isLp_reflag1 h.2⟩
  | .t τ o x, v, h => by simp only [TV.loosen, RV] at h ⊢; exact rty_lo hg τ o x v h
  | .clp τ x, v, h => by
    simp only [TV.loosen, RV] at h ⊢; obtain ⟨f, l', rfl, h0, h⟩ := h
    refine ⟨g f, reflagL g l', by simp [V.reflag], fun e => h0 ((hg f).1 e), ?_⟩
    rw [reflagL_map]
    exact h.map fun a b hab => rty_lo hg τ 0 a b hab
  | .empty own, v, h => by simp only [TV.loosen, RV] at h ⊢; obtain ⟨f, c, rfl, h0⟩ := h; exact ⟨g f, c, by simp [V.reflag, reflagL], flr_lo hg h0⟩
  | .val u, v, h => by simp only [TV.loosen, RV] at h ⊢; simp [h, V.reflag]
  | .agg l, v, h => by simp only [TV.loosen, RV] at h ⊢; obtain ⟨l', rfl, h⟩ := h; exact ⟨_, by simp only [V.reflag], RVL.lo hg l l' h⟩
  | .tuple l, v, h => by simp only [TV.loosen, RV] at h ⊢; obtain ⟨l', rfl, h⟩ := h; exact ⟨_, by simp only [V.reflag], RVL.lo hg l l' h⟩
  | .fn g' a b, v, h => by simp only [TV.loosen, RV] at h ⊢; obtain ⟨a', b', rfl, h1, h2⟩ := h; exact ⟨_, _, by simp only [V.reflag], RVL.lo hg a a' h1, RVL.lo hg b b' h2⟩
  | .ptr q o, v, h => by simp only [TV.loosen, RV] at h ⊢; simp [h, V.reflag]
  | .cptr l, v, h => by simp only [TV.loosen, RV] at h ⊢; obtain ⟨l', rfl, h⟩ := h; exact ⟨_, by simp only [V.reflag], RVL.lo hg l l' h⟩
  | .iface t x, v, h => by simp only [TV.loosen, RV] at h ⊢; obtain ⟨y, rfl, h⟩ := h; exact ⟨_, by simp only [V.reflag], RV.lo hg x y h⟩
theorem RVL.lo {g : Fl → Fl} (hg : ∀ f, g f = .own ↔ f = .own) : ∀ (l : List TV) (l' : List V), RVL l l' → RVL (loosenL l) (reflagL g l')
  | [], l', h => by simp only [RVL] at h; simp [h, loosenL, reflagL, RVL]
  | x :: l, l', h => by
    simp only [RVL] at h; obtain ⟨v, m, rfl, h1, h2⟩ := h
    simp only [loosenL, reflagL]
    exact rvl_cons.2 ⟨RV.lo hg x v h1, RVL.lo hg l m h2⟩
end
mutual
theorem reflag_id : ∀ v : V, v.reflag (fun f => f) = v
  | .undef | .val _ | .ptr .. | .yld _ | .lp .. => by simp [V.reflag]
  | .cptr l => by simp only [V.reflag, reflagL_id l]
  | .sl f c l => by simp only [V.reflag, reflagL_id l]
  | .fn g a b => by simp only [V.reflag, reflagL_id a, reflagL_id b]
  | .iface t x => by simp only [V.reflag, reflag_id x]
  | .agg l => by simp only [V.reflag, reflagL_id l]
  | .tuple l => by simp only [V.reflag, reflagL_id l]
theorem reflagL_id : ∀ l : List V, reflagL (fun f => f) l = l
  | [] => rfl
  | v :: l => by simp only [reflagL, reflag_id v, reflagL_id l]
end
theorem RV.lo0 {x : TV} {v : V} (h : RV x v) : RV x.loosen v := by
  have := RV.lo (g := fun f => f) (fun f => Iff.rfl) x v h
  rwa [reflag_id] at this

/-! ### firm: nothing soft -/
theorem sure_nx {o d : Nat} (h : sure o (d + 1) = true) : sure (nx o) d = true := by
  unfold nx
  cases ho : isOwn o with
  | false =>
    rcases isOwn_not.1 ho with rfl | rfl | rfl
    · simp [sure] at h
    · simp [sure]
    · simp [sure] at h
  | true =>
    have := isOwn_iff.1 ho
    simp only [if_true]
    unfold sure at h ⊢
    by_cases h1 : o < 1000
    · rw [if_pos h1] at h
      rw [if_pos (by omega)]
      simp only [decide_eq_true_eq] at h ⊢; omega
    · by_cases h2 : o < 2000
      · by_cases h3 : o - 1 < 1000
        · omega
        · rw [if_neg h3, if_pos (by omega)]
      · rw [if_neg h1, if_neg h2] at h
        simp only [decide_eq_true_eq] at h
        rw [if_neg (by omega), if_neg (by omega)]
        simp only [decide_eq_true_eq]; omega
theorem sure_le {o d d' : Nat} (h : sure o d = true) (hd : d' ≤ d) : sure o d' = true := by
  unfold sure at h ⊢
  by_cases h1 : o < 1000
  · rw [if_pos h1] at h ⊢
    simp only [decide_eq_true_eq] at h ⊢; omega
  · by_cases h2 : o < 2000
    · rw [if_neg h1, if_pos h2]
    · rw [if_neg h1, if_neg h2] at h ⊢
      simp only [decide_eq_true_eq] at h ⊢; omega
theorem sure_flr {o d : Nat} {f : Fl} (h : sure o (d + 1) = true) (hf : FlR o f) : f ≠ .dull := by
  cases ho : isOwn o with
  | true => rw [hf.own ho]; simp
  | false =>
    rcases isOwn_not.1 ho with rfl | rfl | rfl
    · simp [sure] at h
    · rw [hf.2 rfl]; simp
    · simp [sure] at h
theorem loose_of {l : List V} (h : ∀ x ∈ l, x.loose = false) : looseL l = false := by
  induction l with
  | nil => rfl
  | cons a l ih =>
    simp only [looseL, Bool.or_eq_false_iff]
    exact ⟨h a (by simp), ih fun x hx => h x (by simp [hx])⟩
theorem rty_tight : ∀ (τ : Ty) (o : Nat) (x : τ.den) (v : V), sure o τ.depth = true → RTy τ o x v → v.soft = false ∧ v.loose = false
  | .int _, _, _, v, _, h => by simp only [RTy] at h; subst h; exact ⟨rfl, rfl⟩
  | .bool, _, _, v, _, h => by simp only [RTy] at h; subst h; exact ⟨rfl, rfl⟩
  | .str, _, _, v, _, h => by simp only [RTy] at h; subst h; exact ⟨rfl, rfl⟩
  | .sl t, o, l, v, hf, h => by
    simp only [RTy] at h; obtain ⟨f, c, l', rfl, ho, h⟩ := h
    simp only [Ty.depth] at hf
    have hnd := sure_flr hf ho
    have hall : ∀ b ∈ l', b.soft = false ∧ b.loose = false := fun b hb => by
      obtain ⟨a, _, hr⟩ := all2_mem h b hb
      exact rty_tight t _ a b (sure_nx hf) hr
    simp only [V.soft, V.loose, Bool.or_eq_false_iff, decide_eq_false_iff_not, Bool.and_eq_false_iff]
    exact ⟨⟨.inl hnd, softL_of fun b hb => (hall b hb).1⟩, hnd, loose_of fun b hb => (hall b hb).2⟩
  | .unit, _, _, v, _, h => by simp only [RTy] at h; subst h; exact ⟨rfl, rfl⟩
  | .pair a b, o, x, v, hf, h => by
    simp only [RTy] at h; obtain ⟨v1, l, rfl, h1, h2⟩ := h
    simp only [Ty.depth] at hf
    have e1 := rty_tight a o _ _ (sure_le hf (by omega)) h1
    have e2 := rty_tight b o _ _ (sure_le hf (by omega)) h2
    simp only [V.soft, softL, V.loose, looseL, Bool.or_eq_false_iff] at e2 ⊢
    exact ⟨⟨e1.1, e2.1⟩, e1.2, e2.2⟩
mutual
theorem RV.firm : ∀ (x : TV) (v : V), x.firm = true → RV x v → v.soft = false
  | .any rs, v, hf, h => by simp [TV.firm] at hf
  | .t τ o x, v, hf, h => by simp only [TV.firm] at hf; simp only [RV] at h; exact (rty_tight τ o x v hf h).1
  | .clp τ x, v, hf, h => by simp [TV.firm] at hf
  | .empty own, v, hf, h => by simp only [RV] at h; obtain ⟨f, c, rfl, _⟩ := h; simp [V.soft, softL]
  | .val u, v, hf, h => by simp only [RV] at h; subst h; rfl
  | .agg l, v, hf, h => by simp only [RV] at h; obtain ⟨l', rfl, h⟩ := h; simp only [TV.firm] at hf; simp only [V.soft]; exact RVL.firm l l' hf h
  | .tuple l, v, hf, h => by simp only [RV] at h; obtain ⟨l', rfl, h⟩ := h; simp only [TV.firm] at hf; simp only [V.soft]; exact RVL.firm l l' hf h
  | .fn g a b, v, hf, h => by
    simp only [RV] at h; obtain ⟨a', b', rfl, h1, h2⟩ := h
    simp only [TV.firm, Bool.and_eq_true] at hf
    simp only [V.soft, Bool.or_eq_false_iff]
    exact ⟨RVL.firm a a' hf.1 h1, RVL.firm b b' hf.2 h2⟩
  | .ptr q o, v, hf, h => by simp only [RV] at h; subst h; rfl
  | .cptr l, v, hf, h => by simp [TV.firm] at hf
  | .iface t x, v, hf, h => by simp only [RV] at h; obtain ⟨y, rfl, h⟩ := h; simp only [TV.firm] at hf; simp only [V.soft]; exact RV.firm x y hf h
theorem RVL.firm : ∀ (l : List TV) (l' : List V), firmL l = true → RVL l l' → softL l' = false
  | [], l', hf, h => by simp only [RVL] at h; subst h; rfl
  | x :: l, l', hf, h => by
    simp only [RVL] at h; obtain ⟨v, m, rfl, h1, h2⟩ := h
    simp only [firmL, Bool.and_eq_true] at hf
    simp only [softL, Bool.or_eq_false_iff]
    exact ⟨RV.firm x v hf.1 h1, RVL.firm l m hf.2 h2⟩
end
mutual
theorem RV.tight : ∀ (x : TV) (v : V), x.tight = true → RV x v → v.loose = false
  | .any rs, v, hf, h => by simp [TV.tight] at hf
  | .t τ o x, v, hf, h => by simp only [TV.tight] at hf; simp only [RV] at h; exact (rty_tight τ o x v hf h).2
  | .clp τ x, v, hf, h => by simp [TV.tight] at hf
  | .empty o, v, hf, h => by simp only [TV.tight] at hf; simp only [RV] at h; obtain ⟨f, c, rfl, h0⟩ := h; simp [V.loose, looseL, sure_flr hf h0]
  | .val u, v, hf, h => by simp only [RV] at h; subst h; rfl
  | .agg l, v, hf, h => by simp only [RV] at h; obtain ⟨l', rfl, h⟩ := h; simp only [TV.tight] at hf; simp only [V.loose]; exact RVL.tight l l' hf h
  | .tuple l, v, hf, h => by simp only [RV] at h; obtain ⟨l', rfl, h⟩ := h; simp only [TV.tight] at hf; simp only [V.loose]; exact RVL.tight l l' hf h
  | .fn g a b, v, hf, h => by
    simp only [RV] at h; obtain ⟨a', b', rfl, h1, h2⟩ := h
    simp only [TV.tight, Bool.and_eq_true] at hf
    simp only [V.loose, Bool.or_eq_false_iff]
    exact ⟨RVL.tight a a' hf.1 h1, RVL.tight b b' hf.2 h2⟩
  | .ptr q o, v, hf, h => by simp only [RV] at h; subst h; rfl
  | .cptr l, v, hf, h => by simp [TV.tight] at hf
  | .iface t x, v, hf, h => by simp only [RV] at h; obtain ⟨y, rfl, h⟩ := h; simp only [TV.tight] at hf; simp only [V.loose]; exact RV.tight x y hf h
theorem RVL.tight : ∀ (l : List TV) (l' : List V), tightL l = true → RVL l l' → looseL l' = false
  | [], l', hf, h => by simp only [RVL] at h; subst h; rfl
  | x :: l, l', hf, h => by
    simp only [RVL] at h; obtain ⟨v, m, rfl, h1, h2⟩ := h
    simp only [tightL, Bool.and_eq_true] at hf
    simp only [looseL, Bool.or_eq_false_iff]
    exact ⟨RV.tight x v hf.1 h1, RVL.tight l m hf.2 h2⟩
end
end Go.Tx
