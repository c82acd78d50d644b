/-
  TREES OF TEMPORARIES, MASKS: kept so that the kernel reads and writes them quickly; what they say as lists.
-/
set_option linter.unusedVariables false
namespace Go.Tx

/-- a set of numbers, as bits -/
structure Mask where
  bits : Nat
  deriving DecidableEq
def Mask.has (m : Mask) (t : Nat) : Bool := Nat.testBit m.bits t
instance : Membership Nat Mask := ⟨fun m t => m.has t = true⟩
instance (t : Nat) (m : Mask) : Decidable (t ∈ m) := inferInstanceAs (Decidable (m.has t = true))
def Mask.empty : Mask := ⟨0⟩
def Mask.ins (t : Nat) (m : Mask) : Mask := ⟨Nat.lor m.bits (Nat.shiftLeft 1 t)⟩
def Mask.union (a b : Mask) : Mask := ⟨Nat.lor a.bits b.bits⟩
instance : Append Mask := ⟨Mask.union⟩
def Mask.sub (a b : Mask) : Bool := Nat.beq (Nat.lor a.bits b.bits) b.bits
def Mask.ofList (l : List Nat) : Mask := l.foldr Mask.ins .empty
theorem Mask.mem_iff {m : Mask} {t : Nat} : t ∈ m ↔ m.has t = true := Iff.rfl
@[simp] theorem Mask.mem_empty {t : Nat} : ¬ t ∈ Mask.empty := by
  rw [Mask.mem_iff]; unfold Mask.has Mask.empty; simp
@[simp] theorem Mask.mem_ins {m : Mask} {t u : Nat} : u ∈ Mask.ins t m ↔ u = t ∨ u ∈ m := by
  rw [Mask.mem_iff, Mask.mem_iff]
  unfold Mask.has Mask.ins
  have e : Nat.lor m.bits (Nat.shiftLeft 1 t) = m.bits ||| (1 <<< t) := rfl
  simp only [e, Nat.testBit_or, Bool.or_eq_true, Nat.one_shiftLeft, Nat.testBit_two_pow, decide_eq_true_eq]
  constructor
  · rintro (h | h)
    · exact .inr h
    · exact .inl h.symm
  · rintro (h | h)
    · exact .inr h.symm
    · exact .inl h
@[simp] theorem Mask.mem_append {a b : Mask} {t : Nat} : t ∈ a ++ b ↔ t ∈ a ∨ t ∈ b := by
  show t ∈ Mask.union a b ↔ _
  rw [Mask.mem_iff, Mask.mem_iff, Mask.mem_iff]
  unfold Mask.has Mask.union
  have e : Nat.lor a.bits b.bits = a.bits ||| b.bits := rfl
  simp only [e, Nat.testBit_or, Bool.or_eq_true]
@[simp] theorem Mask.mem_ofList {l : List Nat} {t : Nat} : t ∈ Mask.ofList l ↔ t ∈ l := by
  induction l with
  | nil => simp [Mask.ofList]
  | cons a l ih =>
    have : Mask.ofList (a :: l) = Mask.ins a (Mask.ofList l) := rfl
    rw [this, Mask.mem_ins, ih]; simp
theorem Mask.sub_mem {a b : Mask} (h : a.sub b = true) {t : Nat} (ht : t ∈ a) : t ∈ b := by
  unfold Mask.sub at h
  have h1 := Nat.eq_of_beq_eq_true h
  rw [Mask.mem_iff] at ht ⊢
  unfold Mask.has at ht ⊢
  rw [← h1]
  have e : Nat.lor a.bits b.bits = a.bits ||| b.bits := rfl
  rw [e, Nat.testBit_or, ht]; rfl
theorem Mask.sub_of {a b : Mask} (h : ∀ t, t ∈ a → t ∈ b) : a.sub b = true := by
  unfold Mask.sub
  have : Nat.lor a.bits b.bits = b.bits := by
    apply Nat.eq_of_testBit_eq
    intro i
    have e : Nat.lor a.bits b.bits = a.bits ||| b.bits := rfl
    rw [e, Nat.testBit_or]
    have h1 := h i
    rw [Mask.mem_iff, Mask.mem_iff] at h1
    unfold Mask.has at h1
    cases ha : a.bits.testBit i with
    | false => rfl
    | true => rw [h1 ha]; rfl
  rw [this]; exact Nat.beq_refl _

inductive Tr (α : Type) where
  | nil
  | node (v : α) (l r : Tr α)

section
variable {α : Type} (d : α)
noncomputable def Tr.get (t : Tr α) : Nat → α :=
  Tr.rec (motive := fun _ => Nat → α) (fun _ => d) (fun v l r gl gr i => Bool.rec (motive := fun _ => α) (Bool.rec (motive := fun _ => α) (gr (Nat.pred (Nat.div i 2))) (gl (Nat.div i 2)) (Nat.beq (Nat.mod i 2) 1)) v (Nat.beq i 0)) t
noncomputable def Tr.one (k : Nat) : Nat → α → Tr α :=
  Nat.rec (motive := fun _ => Nat → α → Tr α) (fun _ _ => .nil) (fun _ g i v => Bool.rec (motive := fun _ => Tr α) (Bool.rec (motive := fun _ => Tr α) (.node d .nil (g (Nat.pred (Nat.div i 2)) v)) (.node d (g (Nat.div i 2) v) .nil) (Nat.beq (Nat.mod i 2) 1)) (.node v .nil .nil) (Nat.beq i 0)) k
noncomputable def Tr.set (t : Tr α) : Nat → α → Tr α :=
  Tr.rec (motive := fun _ => Nat → α → Tr α) (fun i v => Tr.one d (Nat.succ i) i v) (fun u l r gl gr i v => Bool.rec (motive := fun _ => Tr α) (Bool.rec (motive := fun _ => Tr α) (.node u l (gr (Nat.pred (Nat.div i 2)) v)) (.node u (gl (Nat.div i 2) v) r) (Nat.beq (Nat.mod i 2) 1)) (.node v l r) (Nat.beq i 0)) t

theorem Tr.get_nil (i : Nat) : (Tr.nil : Tr α).get d i = d := rfl
theorem brec {β : Type} (a b : β) (c : Bool) : Bool.rec (motive := fun _ => β) b a c = if c = true then a else b := by cases c <;> rfl
theorem Tr.get_node (v : α) (l r : Tr α) (i : Nat) : (Tr.node v l r).get d i = if i = 0 then v else if i % 2 = 1 then l.get d (i / 2) else r.get d (i / 2 - 1) := by
  have e : (Tr.node v l r).get d i = Bool.rec (motive := fun _ => α) (Bool.rec (motive := fun _ => α) (r.get d (Nat.pred (Nat.div i 2))) (l.get d (Nat.div i 2)) (Nat.beq (Nat.mod i 2) 1)) v (Nat.beq i 0) := rfl
  rw [e, brec, brec]
  simp only [Nat.beq_eq]
  rfl
theorem Tr.one_succ (k i : Nat) (v : α) : Tr.one d (k + 1) i v = if i = 0 then .node v .nil .nil else if i % 2 = 1 then .node d (Tr.one d k (i / 2) v) .nil else .node d .nil (Tr.one d k (i / 2 - 1) v) := by
  have e : Tr.one d (k + 1) i v = Bool.rec (motive := fun _ => Tr α) (Bool.rec (motive := fun _ => Tr α) (.node d .nil (Tr.one d k (Nat.pred (Nat.div i 2)) v)) (.node d (Tr.one d k (Nat.div i 2) v) .nil) (Nat.beq (Nat.mod i 2) 1)) (.node v .nil .nil) (Nat.beq i 0) := rfl
  rw [e, brec, brec]
  simp only [Nat.beq_eq]
  rfl
theorem Tr.set_nil (i : Nat) (v : α) : (Tr.nil : Tr α).set d i v = Tr.one d (i + 1) i v := rfl
theorem Tr.set_node (u : α) (l r : Tr α) (i : Nat) (v : α) : (Tr.node u l r).set d i v = if i = 0 then .node v l r else if i % 2 = 1 then .node u (l.set d (i / 2) v) r else .node u l (r.set d (i / 2 - 1) v) := by
  have e : (Tr.node u l r).set d i v = Bool.rec (motive := fun _ => Tr α) (Bool.rec (motive := fun _ => Tr α) (.node u l (r.set d (Nat.pred (Nat.div i 2)) v)) (.node u (l.set d (Nat.div i 2) v) r) (Nat.beq (Nat.mod i 2) 1)) (.node v l r) (Nat.beq i 0) := rfl
  rw [e, brec, brec]
  simp only [Nat.beq_eq]
  rfl
theorem half (i j : Nat) : (i % 2 = 1 → j % 2 = 1 → (i = j ↔ i / 2 = j / 2)) ∧ (i ≠ 0 → j ≠ 0 → i % 2 ≠ 1 → j % 2 ≠ 1 → (i = j ↔ i / 2 - 1 = j / 2 - 1)) := by
  constructor <;> intros <;> omega
theorem Tr.get_one : ∀ (k i : Nat) (v : α) (j : Nat), i < k → (Tr.one d k i v).get d j = if i = j then v else d
  | 0, i, v, j, h => by omega
  | k + 1, i, v, j, h => by
    rw [Tr.one_succ]
    obtain ⟨h1, h2⟩ := half i j
    by_cases i0 : i = 0
    · rw [if_pos i0, Tr.get_node]
      by_cases j0 : j = 0
      · rw [if_pos j0, if_pos (show i = j by omega)]
      · rw [if_neg j0, if_neg (show ¬ i = j by omega)]
        by_cases jo : j % 2 = 1
        · rw [if_pos jo]; rfl
        · rw [if_neg jo]; rfl
    · rw [if_neg i0]
      by_cases io : i % 2 = 1
      · rw [if_pos io, Tr.get_node]
        by_cases j0 : j = 0
        · rw [if_pos j0, if_neg (show ¬ i = j by omega)]
        · rw [if_neg j0]
          by_cases jo : j % 2 = 1
          · rw [if_pos jo, Tr.get_one k _ v _ (by omega)]
            simp only [h1 io jo]
          · rw [if_neg jo, if_neg (show ¬ i = j by omega)]; rfl
      · rw [if_neg io, Tr.get_node]
        by_cases j0 : j = 0
        · rw [if_pos j0, if_neg (show ¬ i = j by omega)]
        · rw [if_neg j0]
          by_cases jo : j % 2 = 1
          · rw [if_pos jo, if_neg (show ¬ i = j by omega)]; rfl
          · rw [if_neg jo, Tr.get_one k _ v _ (by omega)]
            simp only [h2 i0 j0 io jo]
theorem Tr.get_set : ∀ (t : Tr α) (i : Nat) (v : α) (j : Nat), (t.set d i v).get d j = if i = j then v else t.get d j
  | .nil, i, v, j => by rw [Tr.set_nil, Tr.get_one d _ _ _ _ (by omega), Tr.get_nil]
  | .node u l r, i, v, j => by
    rw [Tr.set_node]
    obtain ⟨h1, h2⟩ := half i j
    by_cases i0 : i = 0
    · rw [if_pos i0, Tr.get_node, Tr.get_node]
      by_cases j0 : j = 0
      · rw [if_pos j0, if_pos (show i = j by omega)]
      · rw [if_neg j0, if_neg j0, if_neg (show ¬ i = j by omega)]
    · rw [if_neg i0]
      by_cases io : i % 2 = 1
      · rw [if_pos io, Tr.get_node, Tr.get_node]
        by_cases j0 : j = 0
        · rw [if_pos j0, if_pos j0, if_neg (show ¬ i = j by omega)]
        · rw [if_neg j0, if_neg j0]
          by_cases jo : j % 2 = 1
          · rw [if_pos jo, if_pos jo, Tr.get_set l]
            simp only [h1 io jo]
          · rw [if_neg jo, if_neg jo, if_neg (show ¬ i = j by omega)]
      · rw [if_neg io, Tr.get_node, Tr.get_node]
        by_cases j0 : j = 0
        · rw [if_pos j0, if_pos j0, if_neg (show ¬ i = j by omega)]
        · rw [if_neg j0, if_neg j0]
          by_cases jo : j % 2 = 1
          · rw [if_pos jo, if_pos jo, if_neg (show ¬ i = j by omega)]
          · rw [if_neg jo, if_neg jo, Tr.get_set r]
            simp only [h2 i0 j0 io jo]

/-! all of a tree at once: the number of a node's own element is b, of the element that it calls j is a * j + b -/
noncomputable def Tr.fill (n : Nat) (f : Nat → α → α) (k : Nat) : Nat → Nat → Tr α :=
  Nat.rec (motive := fun _ => Nat → Nat → Tr α) (fun _ _ => .nil) (fun _ g a b => Bool.rec (motive := fun _ => Tr α) .nil (.node (f b d) (g (Nat.mul 2 a) (Nat.add a b)) (g (Nat.mul 2 a) (Nat.add (Nat.mul 2 a) b))) (Nat.ble (Nat.succ b) n)) k
noncomputable def Tr.mapI (n : Nat) (f : Nat → α → α) (t : Tr α) : Nat → Nat → Tr α :=
  Tr.rec (motive := fun _ => Nat → Nat → Tr α) (fun a b => Tr.fill d n f n a b) (fun v l r gl gr a b => .node (f b v) (gl (Nat.mul 2 a) (Nat.add a b)) (gr (Nat.mul 2 a) (Nat.add (Nat.mul 2 a) b))) t
noncomputable def Tr.allI (p : Nat → α → Bool) (t : Tr α) : Nat → Nat → Bool :=
  Tr.rec (motive := fun _ => Nat → Nat → Bool) (fun a b => true) (fun v l r gl gr a b => Bool.rec (motive := fun _ => Bool) false (Bool.rec (motive := fun _ => Bool) false (gr (Nat.mul 2 a) (Nat.add (Nat.mul 2 a) b)) (gl (Nat.mul 2 a) (Nat.add a b))) (p b v)) t
noncomputable def Tr.maskI (p : α → Bool) (t : Tr α) : Nat → Nat → Nat :=
  Tr.rec (motive := fun _ => Nat → Nat → Nat) (fun a b => 0) (fun v l r gl gr a b => Nat.lor (Nat.lor (gl (Nat.mul 2 a) (Nat.add a b)) (gr (Nat.mul 2 a) (Nat.add (Nat.mul 2 a) b))) (Bool.rec (motive := fun _ => Nat) 0 (Nat.shiftLeft 1 b) (p v))) t
theorem Tr.get_fill (n : Nat) (f : Nat → α → α) : ∀ (k a b j : Nat), 1 ≤ a → n ≤ b + k → a * j + b < n → (Tr.fill d n f k a b).get d j = f (a * j + b) d
  | 0, a, b, j, ha, hk, hj => by have := Nat.le_add_left b (a * j); omega
  | k + 1, a, b, j, ha, hk, hj => by
    have hb : b < n := by have := Nat.le_add_left b (a * j); omega
    have e : Tr.fill d n f (k + 1) a b = Bool.rec (motive := fun _ => Tr α) .nil (.node (f b d) (Tr.fill d n f k (2 * a) (a + b)) (Tr.fill d n f k (2 * a) (2 * a + b))) (Nat.ble (b + 1) n) := rfl
    rw [e, brec, if_pos (by rw [Nat.ble_eq]; omega), Tr.get_node]
    by_cases j0 : j = 0
    · rw [if_pos j0]; subst j0; simp
    · rw [if_neg j0]
      by_cases jo : j % 2 = 1
      · have e1 : 2 * a * (j / 2) + (a + b) = a * j + b := by
          have : j = 2 * (j / 2) + 1 := by omega
          conv => rhs; rw [this]
          rw [Nat.mul_add, ← Nat.mul_assoc, Nat.mul_comm a 2]; omega
        rw [if_pos jo, Tr.get_fill n f k _ _ _ (by omega) (by omega) (by omega), e1]
      · have e1 : 2 * a * (j / 2 - 1) + (2 * a + b) = a * j + b := by
          have : j = 2 * (j / 2 - 1) + 2 := by omega
          conv => rhs; rw [this]
          rw [Nat.mul_add, ← Nat.mul_assoc, Nat.mul_comm a 2]; omega
        rw [if_neg jo, Tr.get_fill n f k _ _ _ (by omega) (by omega) (by omega), e1]
theorem Tr.get_mapI (n : Nat) (f : Nat → α → α) : ∀ (t : Tr α) (a b j : Nat), 1 ≤ a → a * j + b < n → (t.mapI d n f a b).get d j = f (a * j + b) (t.get d j)
  | .nil, a, b, j, ha, hj => Tr.get_fill d n f n a b j ha (by omega) hj
  | .node v l r, a, b, j, ha, hj => by
    have e : (Tr.node v l r).mapI d n f a b = .node (f b v) (l.mapI d n f (2 * a) (a + b)) (r.mapI d n f (2 * a) (2 * a + b)) := rfl
    rw [e, Tr.get_node, Tr.get_node]
    by_cases j0 : j = 0
    · rw [if_pos j0, if_pos j0]; subst j0; simp
    · rw [if_neg j0, if_neg j0]
      by_cases jo : j % 2 = 1
      · have e1 : 2 * a * (j / 2) + (a + b) = a * j + b := by
          have : j = 2 * (j / 2) + 1 := by omega
          conv => rhs; rw [this]
          rw [Nat.mul_add, ← Nat.mul_assoc, Nat.mul_comm a 2]; omega
        rw [if_pos jo, if_pos jo, Tr.get_mapI n f l _ _ _ (by omega) (by omega), e1]
      · have e1 : 2 * a * (j / 2 - 1) + (2 * a + b) = a * j + b := by
          have : j = 2 * (j / 2 - 1) + 2 := by omega
          conv => rhs; rw [this]
          rw [Nat.mul_add, ← Nat.mul_assoc, Nat.mul_comm a 2]; omega
        rw [if_neg jo, if_neg jo, Tr.get_mapI n f r _ _ _ (by omega) (by omega), e1]
theorem Tr.allI_get {p : Nat → α → Bool} (hp : ∀ i, p i d = true) : ∀ (t : Tr α) (a b j : Nat), t.allI p a b = true → p (a * j + b) (t.get d j) = true
  | .nil, a, b, j, h => hp _
  | .node v l r, a, b, j, h => by
    have e : (Tr.node v l r).allI p a b = Bool.rec (motive := fun _ => Bool) false (Bool.rec (motive := fun _ => Bool) false (r.allI p (2 * a) (2 * a + b)) (l.allI p (2 * a) (a + b))) (p b v) := rfl
    rw [e, brec, brec] at h
    have hv : p b v = true := by
      cases hh : p b v with
      | true => rfl
      | false => rw [hh] at h; simp at h
    have hl : l.allI p (2 * a) (a + b) = true := by
      cases hh : l.allI p (2 * a) (a + b) with
      | true => rfl
      | false => rw [hh] at h; simp at h
    have hr : r.allI p (2 * a) (2 * a + b) = true := by rw [hv, hl] at h; simpa using h
    rw [Tr.get_node]
    by_cases j0 : j = 0
    · rw [if_pos j0]; subst j0; simpa using hv
    · rw [if_neg j0]
      by_cases jo : j % 2 = 1
      · have e1 : 2 * a * (j / 2) + (a + b) = a * j + b := by
          have : j = 2 * (j / 2) + 1 := by omega
          conv => rhs; rw [this]
          rw [Nat.mul_add, ← Nat.mul_assoc, Nat.mul_comm a 2]; omega
        rw [if_pos jo, ← e1]
        exact Tr.allI_get hp l _ _ _ hl
      · have e1 : 2 * a * (j / 2 - 1) + (2 * a + b) = a * j + b := by
          have : j = 2 * (j / 2 - 1) + 2 := by omega
          conv => rhs; rw [this]
          rw [Nat.mul_add, ← Nat.mul_assoc, Nat.mul_comm a 2]; omega
        rw [if_neg jo, ← e1]
        exact Tr.allI_get hp r _ _ _ hr
theorem Tr.maskI_get {p : α → Bool} (hp : p d = false) : ∀ (t : Tr α) (a b j : Nat), p (t.get d j) = true → (t.maskI p a b).testBit (a * j + b) = true
  | .nil, a, b, j, h => by rw [Tr.get_nil, hp] at h; cases h
  | .node v l r, a, b, j, h => by
    have e : (Tr.node v l r).maskI p a b = (l.maskI p (2 * a) (a + b) ||| r.maskI p (2 * a) (2 * a + b)) ||| Bool.rec (motive := fun _ => Nat) 0 (1 <<< b) (p v) := rfl
    rw [e, brec, Nat.testBit_or, Nat.testBit_or]
    rw [Tr.get_node] at h
    by_cases j0 : j = 0
    · rw [if_pos j0] at h
      subst j0
      rw [h]
      simp [Nat.one_shiftLeft]
    · rw [if_neg j0] at h
      by_cases jo : j % 2 = 1
      · have e1 : 2 * a * (j / 2) + (a + b) = a * j + b := by
          have : j = 2 * (j / 2) + 1 := by omega
          conv => rhs; rw [this]
          rw [Nat.mul_add, ← Nat.mul_assoc, Nat.mul_comm a 2]; omega
        rw [if_pos jo] at h
        have := Tr.maskI_get hp l (2 * a) (a + b) _ h
        rw [e1] at this
        rw [this]; rfl
      · have e1 : 2 * a * (j / 2 - 1) + (2 * a + b) = a * j + b := by
          have : j = 2 * (j / 2 - 1) + 2 := by omega
          conv => rhs; rw [this]
          rw [Nat.mul_add, ← Nat.mul_assoc, Nat.mul_comm a 2]; omega
        rw [if_neg jo] at h
        have := Tr.maskI_get hp r (2 * a) (2 * a + b) _ h
        rw [e1] at this
        rw [this]; simp
end
end Go.Tx
