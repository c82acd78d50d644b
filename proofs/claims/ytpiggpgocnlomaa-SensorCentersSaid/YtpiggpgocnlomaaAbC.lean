/-
  ONE OPERATION: what the abstract interpreter computes is what the model's operation gives, in the world and in the ghost. First part: operations that leave memory as it is.
-/
import Derived.Test.YtpiggpgocnlomaaAbB
import Derived.Laws.Append
import Derived.Laws.AppendOwn
import Derived.Laws.MakeOwn
import Derived.Laws.World
import Derived.Laws.CopyRow
import Derived.Laws.Cells
set_option linter.unusedVariables false
namespace Go.Ab
open Go

def Dom (w : World) (X : Cx) : Prop := ∀ b e fz, X.ω b = some (e, fz) → b < w.heap.size

/-- what an operation may do: new blocks; owners' blocks of its operands go on behind their ends -/
structure Eff (w : World) (X : Cx) (w' : World) (X' : Cx) (Oin : List Nat) : Prop where
  size : w.heap.size ≤ w'.heap.size
  kept : ∀ b, b < w.heap.size → b ∉ Oin → w'.heap[b]? = w.heap[b]?
  ωk : ∀ b, b < w.heap.size → b ∉ Oin → X'.ω b = X.ω b
  own : ∀ b ∈ Oin, ∀ e fz, X.ω b = some (e, fz) → ∃ e' fz', X'.ω b = some (e', fz') ∧ e ≤ e' ∧ (fz = true → fz' = true) ∧
    (∀ i v, i < e → w.cell? ⟨b, i, none⟩ = some v → w'.cell? ⟨b, i, none⟩ = some v) ∧
    (∀ c t, w.heap[b]? = some (.cells c t (0, 0)) → ∃ c', w'.heap[b]? = some (.cells c' t (0, 0)) ∧ c'.size = c.size)
  β : X'.β = X.β
  dom : Dom w' X'
  os : w'.os = w.os
  out : w'.output = w.output
  tape : w'.tape = w.tape

theorem Eff.refl {w : World} {X : Cx} (O : List Nat) (h : Dom w X) : Eff w X w X O :=
  ⟨Nat.le_refl _, fun _ _ _ => rfl, fun _ _ _ => rfl, fun b _ e fz hω => ⟨e, fz, hω, Nat.le_refl _, id, fun _ _ _ h => h, fun c t h => ⟨c, h, rfl⟩⟩, rfl, h, rfl, rfl, rfl⟩

theorem cell_of_heap {w w' : World} {b i : Nat} (h : w'.heap[b]? = w.heap[b]?) : w'.cell? ⟨b, i, none⟩ = w.cell? ⟨b, i, none⟩ := by
  simp [World.cell?, h]

theorem Eff.ext {w w' : World} {X X' : Cx} {O : List Nat} (h : Eff w X w' X' O) (hd : Dom w X) (R : List Root) : Ext R w X w' X' (fun b => b ∈ O) where
  β := fun r _ => by rw [h.β]
  ω := fun b e fz hω => by
    by_cases hb : b ∈ O
    · obtain ⟨e', fz', h1, h2, h3, _⟩ := h.own b hb e fz hω
      exact ⟨e', fz', h1, h2, h3, fun hn => absurd hb hn⟩
    · exact ⟨e, fz, by rw [h.ωk b (hd b e fz hω) hb]; exact hω, Nat.le_refl _, id, fun _ => ⟨rfl, rfl⟩⟩
  cell := fun b e fz i v hω hi hc => by
    by_cases hb : b ∈ O
    · obtain ⟨e', _, _, _, _, h3, _⟩ := h.own b hb e fz hω
      exact h3 i v hi hc
    · rw [cell_of_heap (h.kept b (hd b e fz hω) hb)]; exact hc
  obj := fun b e fz c t hU hω hc => by
    by_cases hb : b ∈ O
    · exact absurd hb hU
    · exact ⟨c, by rw [h.kept b (hd b e fz hω) hb]; exact hc, rfl⟩

def Lin (O : List Nat) : Prop := ∀ b, O.count b ≤ 1
theorem Lin.nil : Lin [] := fun _ => by simp
theorem Lin.left {A B : List Nat} (h : Lin (A ++ B)) : Lin A := fun b => by have := h b; rw [List.count_append] at this; omega
theorem Lin.right {A B : List Nat} (h : Lin (A ++ B)) : Lin B := fun b => by have := h b; rw [List.count_append] at this; omega
theorem Lin.disj {A B : List Nat} (h : Lin (A ++ B)) : ∀ b ∈ A, b ∉ B := fun b ha hb => by
  have := h b; rw [List.count_append] at this
  have h1 := List.count_pos_iff.2 ha; have h2 := List.count_pos_iff.2 hb; omega

/-- WHAT AN OPERATION COMES TO -/
def OpOk (P : Program) (s : Sem Next) (w : World) (X : Cx) (x : V) (Oin : List Nat) : Prop :=
  ∃ v w' X' O', s.run P w = .ok (.value v) w' ∧ Eff w X w' X' Oin ∧ Rep w' X' x v O' ∧ Lin O' ∧ (∀ b ∈ O', b ∈ Oin ∨ w.heap.size ≤ b)

theorem opOk_pure {P : Program} {s : Sem Next} {w : World} {X : Cx} {x : V} {Oin O' : List Nat} {v : Value} (hd : Dom w X) (hr : s.run P w = .ok (.value v) w) (hx : Rep w X x v O') (hl : Lin O') (hs : ∀ b ∈ O', b ∈ Oin) :
    OpOk P s w X x Oin := ⟨v, w, X, O', hr, Eff.refl _ hd, hx, hl, fun b hb => .inl (hs b hb)⟩

theorem run_valOf {α : Type} {P : Program} {w : World} : ∀ {s : Sem α} {a : α}, valOf P s = some a → s.run P w = .ok a w := by
  intro s
  induction s with
  | pure b => intro a h; simp [valOf] at h; simp [h]
  | program k ih => intro a h; simp only [valOf] at h; simp only [Sem.run]; exact ih P h
  | mark m k ih => intro a h; simp only [valOf] at h; simp only [Sem.run]; exact ih h
  | _ => intro a h; simp [valOf] at h

/-! ### pure data -/
mutual
theorem rep_toVal {w : World} {X : Cx} : ∀ (x : V) (v : Value) (O : List Nat) (a : Value), x.toVal = some a → Rep w X x v O → v = a ∧ O = []
  | .val u, v, O, a, ht, hr => by simp only [V.toVal, Option.some.injEq] at ht; simp only [Rep] at hr; exact ⟨hr.1.trans ht, hr.2⟩
  | .agg l, v, O, a, ht, hr => by
    simp only [V.toVal] at ht; simp only [Rep] at hr
    obtain ⟨vals, hv, hl⟩ := hr
    cases hh : toValL l with
    | none => simp [hh] at ht
    | some vs => simp [hh] at ht; obtain ⟨e1, e2⟩ := repL_toVal l vals O vs hh hl; exact ⟨by rw [hv, e1, ht], e2⟩
  | .tuple l, v, O, a, ht, hr => by
    simp only [V.toVal] at ht; simp only [Rep] at hr
    obtain ⟨vals, hv, hl⟩ := hr
    cases hh : toValL l with
    | none => simp [hh] at ht
    | some vs => simp [hh] at ht; obtain ⟨e1, e2⟩ := repL_toVal l vals O vs hh hl; exact ⟨by rw [hv, e1, ht], e2⟩
  | .iface t x, v, O, a, ht, hr => by
    simp only [V.toVal] at ht; simp only [Rep] at hr
    obtain ⟨u, hv, hl⟩ := hr
    cases hh : x.toVal with
    | none => simp [hh] at ht
    | some y => simp [hh] at ht; obtain ⟨e1, e2⟩ := rep_toVal x u O y hh hl; exact ⟨by rw [hv, e1, ht], e2⟩
  | .undef, _, _, _, ht, _ | .ptr .., _, _, _, ht, _ | .cptr _, _, _, _, ht, _ | .sl .., _, _, _, ht, _ | .fn .., _, _, _, ht, _ | .yld _, _, _, _, ht, _ | .lp .., _, _, _, ht, _ => by simp [V.toVal] at ht
theorem repL_toVal {w : World} {X : Cx} : ∀ (l : List V) (vals : List Value) (O : List Nat) (vs : List Value), toValL l = some vs → RepL w X l vals O → vals = vs ∧ O = []
  | [], vals, O, vs, ht, hr => by simp only [toValL, Option.some.injEq] at ht; simp only [RepL] at hr; exact ⟨hr.1.trans ht, hr.2⟩
  | x :: l, vals, O, vs, ht, hr => by
    simp only [toValL] at ht; simp only [RepL] at hr
    obtain ⟨u, rest, O1, O2, rfl, rfl, h1, h2⟩ := hr
    cases hx : x.toVal with
    | none => simp [hx] at ht
    | some a =>
      cases hl : toValL l with
      | none => simp [hx, hl] at ht
      | some as =>
        simp [hx, hl] at ht
        obtain ⟨e1, e2⟩ := rep_toVal x u O1 a hx h1
        obtain ⟨e3, e4⟩ := repL_toVal l rest O2 as hl h2
        exact ⟨by rw [e1, e3, ht], by rw [e2, e4]; rfl⟩
end

theorem repL_vals {w : World} {X : Cx} : ∀ (l : List Value), RepL w X (l.map .val) l []
  | [] => by simp [RepL]
  | v :: l => by simp only [List.map, RepL]; exact ⟨v, l, [], [], rfl, rfl, by simp [Rep], repL_vals l⟩

theorem repL_fn {w : World} {X : Cx} (g : Value → V) (hg : ∀ v, Rep w X (g v) v []) : ∀ (l : List Value), RepL w X (l.map g) l []
  | [] => by simp [RepL]
  | v :: l => by simp only [List.map, RepL]; exact ⟨v, l, [], [], rfl, rfl, hg v, repL_fn g hg l⟩

theorem rep_ofVal {w : World} {X : Cx} (u : Value) : Rep w X (ofVal u) u [] := by
  unfold ofVal
  split
  · rename_i cs; simp only [Rep]; exact ⟨cs.toList, by simp, repL_vals _⟩
  · rename_i vs
    simp only [Rep]
    refine ⟨vs.toList, by simp, repL_fn _ (fun v => ?_) _⟩
    split
    · rename_i cs; simp only [Rep]; exact ⟨cs.toList, by simp, repL_vals _⟩
    · simp [Rep]
  · simp [Rep]

theorem rep_ofZero {w : World} {X : Cx} (p : Bool) (u : Value) : Rep w X (ofZero p u) u [] := by
  unfold ofZero
  split
  · unfold nilSlice; cases p <;> simp [Rep, ptrsL]
  · simp [Rep]
theorem rep_ofConst {w : World} {X : Cx} (p : Bool) (u : Value) : Rep w X (ofConst p u) u [] := by
  unfold ofConst
  split
  · rename_i cs; simp only [Rep]; exact ⟨cs.toList, by simp, repL_fn _ (rep_ofZero p) _⟩
  · exact rep_ofZero p u

theorem repL_length {w : World} {X : Cx} : ∀ (l : List V) (vals : List Value) (O : List Nat), RepL w X l vals O → l.length = vals.length
  | [], vals, O, h => by simp only [RepL] at h; simp [h.1]
  | x :: l, vals, O, h => by
    simp only [RepL] at h
    obtain ⟨u, vs, O1, O2, rfl, _, _, h2⟩ := h
    simp [repL_length l vs O2 h2]

theorem repL_append {w : World} {X : Cx} : ∀ {l l' : List V} {vals vals' : List Value} {O O' : List Nat}, RepL w X l vals O → RepL w X l' vals' O' → RepL w X (l ++ l') (vals ++ vals') (O ++ O')
  | [], _, vals, _, O, _, h, h' => by simp only [RepL] at h; simpa [h.1, h.2] using h'
  | x :: l, _, vals, _, O, _, h, h' => by
    simp only [RepL] at h
    obtain ⟨u, vs, O1, O2, rfl, rfl, h1, h2⟩ := h
    simp only [List.cons_append, RepL]
    exact ⟨u, vs ++ _, O1, O2 ++ _, rfl, by simp, h1, repL_append h2 h'⟩

theorem repL_split {w : World} {X : Cx} : ∀ (n : Nat) {l : List V} {vals : List Value} {O : List Nat}, RepL w X l vals O → ∃ O1 O2, O = O1 ++ O2 ∧ RepL w X (l.take n) (vals.take n) O1 ∧ RepL w X (l.drop n) (vals.drop n) O2
  | 0, l, vals, O, h => ⟨[], O, rfl, by simp [RepL], by simpa using h⟩
  | n + 1, [], vals, O, h => by simp only [RepL] at h; exact ⟨[], [], by simp [h.2], by simp [RepL, h.1], by simp [RepL, h.1]⟩
  | n + 1, x :: l, vals, O, h => by
    simp only [RepL] at h
    obtain ⟨u, vs, O1, O2, rfl, rfl, h1, h2⟩ := h
    obtain ⟨A, B, rfl, hA, hB⟩ := repL_split n h2
    exact ⟨O1 ++ A, B, by simp, by simp only [List.take_succ_cons, RepL]; exact ⟨u, _, O1, A, rfl, rfl, h1, hA⟩, by simpa using hB⟩

theorem repL_get {w : World} {X : Cx} : ∀ {l : List V} {vals : List Value} {O : List Nat} (i : Nat) {x : V}, RepL w X l vals O → l[i]? = some x → ∃ v Oi, vals[i]? = some v ∧ Rep w X x v Oi ∧ (∀ b, Oi.count b ≤ O.count b)
  | [], vals, O, i, x, h, hi => by simp at hi
  | y :: l, vals, O, 0, x, h, hi => by
    simp only [RepL] at h
    obtain ⟨u, vs, O1, O2, rfl, rfl, h1, h2⟩ := h
    simp at hi; subst hi
    exact ⟨u, O1, by simp, h1, fun b => by rw [List.count_append]; omega⟩
  | y :: l, vals, O, i + 1, x, h, hi => by
    simp only [RepL] at h
    obtain ⟨u, vs, O1, O2, rfl, rfl, h1, h2⟩ := h
    obtain ⟨v, Oi, hv, hr, hc⟩ := repL_get (i := i) h2 (by simpa using hi)
    exact ⟨v, Oi, by simpa using hv, hr, fun b => by rw [List.count_append]; have := hc b; omega⟩

theorem lin_of_le {O O' : List Nat} (h : Lin O) (hc : ∀ b, O'.count b ≤ O.count b) : Lin O' := fun b => Nat.le_trans (hc b) (h b)
theorem mem_of_le {O O' : List Nat} (hc : ∀ b, O'.count b ≤ O.count b) : ∀ b ∈ O', b ∈ O := fun b hb => List.count_pos_iff.1 (Nat.lt_of_lt_of_le (List.count_pos_iff.2 hb) (hc b))

/-- a value of one cell stands for one -/
theorem rep_one {w : World} {X : Cx} {x : V} {u : Value} {O : List Nat} (h1 : x.one = true) (h : Rep w X x u O) : u.oneCell' = true := by
  cases x with
  | val a => simp only [Rep] at h; obtain ⟨rfl, _⟩ := h; simp only [V.one] at h1; cases u <;> simp_all [Value.oneCell']
  | ptr r off => simp only [Rep] at h; obtain ⟨_, b, _, rfl⟩ := h; rfl
  | yld r => simp only [Rep] at h; obtain ⟨_, b, _, rfl⟩ := h; rfl
  | cptr cs => simp only [Rep] at h; obtain ⟨_, b, off, vals, rfl, _⟩ := h; rfl
  | sl f c l =>
    simp only [Rep] at h
    rcases h.2 with ⟨_, _, rfl | ⟨_, _, rfl⟩⟩ | ⟨b, off, cap, s, vals, O', rfl, _⟩ <;> rfl
  | fn f a c => simp only [Rep] at h; obtain ⟨va, vc, O1, O2, rfl, _⟩ := h; rfl
  | iface t y => simp only [Rep] at h; obtain ⟨u, rfl, _⟩ := h; rfl
  | _ => simp [V.one] at h1

theorem cells_of_one {u : Value} (h : u.oneCell' = true) : u.cells = #[u] := by cases u <;> simp_all [Value.oneCell', Value.cells]

theorem repL_ones {w : World} {X : Cx} : ∀ {l : List V} {vals : List Value} {O : List Nat}, l.all V.one = true → RepL w X l vals O → ∀ u ∈ vals, u.oneCell' = true
  | [], vals, O, _, h => by simp only [RepL] at h; simp [h.1]
  | x :: l, vals, O, ha, h => by
    simp only [RepL] at h
    obtain ⟨u, vs, O1, O2, rfl, _, h1, h2⟩ := h
    simp only [List.all_cons, Bool.and_eq_true] at ha
    intro y hy
    rcases List.mem_cons.1 hy with rfl | hy
    · exact rep_one ha.1 h1
    · exact repL_ones ha.2 h2 y hy

theorem cells_of_not_agg {x : V} (h : ∀ l, x ≠ .agg l) : x.cells = [x] := by
  cases x <;> first | rfl | exact absurd rfl (h _)

theorem rep_cells {w : World} {X : Cx} {x : V} {u : Value} {O : List Nat} (hk : x.oks = true) (h : Rep w X x u O) : RepL w X x.cells u.cells.toList O ∧ ∀ c ∈ u.cells.toList, c.oneCell' = true := by
  by_cases hx : ∃ l, x = .agg l
  · obtain ⟨l, rfl⟩ := hx
    simp only [Rep] at h
    obtain ⟨vals, rfl, hl⟩ := h
    simp only [V.oks, V.cells] at hk
    simp only [V.cells, Value.cells]
    exact ⟨by simpa using hl, by simpa using repL_ones hk hl⟩
  · have hc := cells_of_not_agg (x := x) (fun l e => hx ⟨l, e⟩)
    have h1 : x.one = true := by simpa [V.oks, hc] using hk
    have hu := rep_one h1 h
    rw [hc, cells_of_one hu]
    refine ⟨?_, by simpa using hu⟩
    simp only [RepL]
    exact ⟨u, [], O, [], rfl, by simp, h, rfl, rfl⟩
end Go.Ab
