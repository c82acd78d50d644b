/-
  WHAT AN ABSTRACT VALUE SAYS OF A VALUE IN A WORLD ('Rep'), and what becomes of that as the world goes on: new blocks, appends behind the end, writes to boxes; freezing, dulling.
-/
import Derived.Test.YtpiggpgocnlomaaAbA
namespace Go.Ab
open Go

/-- the ghost: which block a box is; which blocks hold slices' elements: up to where, and whether never to be written again -/
structure Cx where
  β : Root → Option Nat
  ω : Nat → Option (Nat × Bool)

def Seg (w : World) (b off : Nat) (vals : List Value) : Prop := ∀ i v, vals[i]? = some v → w.cell? ⟨b, off + i, none⟩ = some v

/-- who may write: an owner's block: whole, not frozen, the elements at its end; room behind -/
def Spare (w : World) (b off cap s : Nat) : Prop := ∃ c t, w.heap[b]? = some (.cells c t (0, 0)) ∧ off + cap * s ≤ c.size

def FlagOk (w : World) (X : Cx) (f : Fl) (b off n cap s : Nat) : Prop :=
  ∃ e fz, X.ω b = some (e, fz) ∧ off + n ≤ e ∧
    match f with
    | .own => fz = false ∧ e = off + n ∧ Spare w b off cap s ∧ (n = 0 → cap = 0)
    | .dull => True
    | .shared => fz = true

mutual
def Rep (w : World) (X : Cx) : V → Value → List Nat → Prop
  | .undef, _, O => O = []
  | .val u, v, O => v = u ∧ O = []
  | .ptr r off, v, O => O = [] ∧ ∃ b, X.β r = some b ∧ v = .pointer (some ⟨b, off, none⟩)
  | .yld r, v, O => O = [] ∧ ∃ b, X.β r = some b ∧ v = .func (.yield b) #[] #[]
  | .cptr cs, v, O => O = [] ∧ ∃ b off vals, v = .pointer (some ⟨b, off, none⟩) ∧ Seg w b off vals ∧ (∃ e fz, X.ω b = some (e, fz) ∧ off + vals.length ≤ e) ∧ RepL w X cs vals []
  | .sl f c l, v, O => ptrsL l = [] ∧
      ((l = [] ∧ O = [] ∧ (v = .slice none 0 0 ∨ (f ≠ .own ∧ ∃ a, v = .slice (some a) 0 0))) ∨
       ∃ b off cap s vals O', v = .slice (some ⟨b, off, none⟩) l.length cap ∧ l.length ≤ cap ∧ (c = true → cap = l.length) ∧ vals.length = l.length * s ∧ 0 < s ∧ (∀ x ∈ l, x.cells.length = s) ∧
        Seg w b off vals ∧ FlagOk w X f b off vals.length cap s ∧ RepE w X s l vals O' ∧ (f = .own → O = b :: O') ∧ (f ≠ .own → O = [] ∧ O' = []))
  | .fn f a c, v, O => ∃ va vc O1 O2, v = .func (.func f) va.toArray vc.toArray ∧ O = O1 ++ O2 ∧ RepL w X a va O1 ∧ RepL w X c vc O2
  | .iface t x, v, O => ∃ u, v = .iface t u ∧ Rep w X x u O
  | .agg l, v, O => ∃ vals, v = .agg vals.toArray ∧ RepL w X l vals O
  | .tuple l, v, O => ∃ vals, v = .tuple vals.toArray ∧ RepL w X l vals O
  | .lp .., _, _ => False
def RepL (w : World) (X : Cx) : List V → List Value → List Nat → Prop
  | [], vals, O => vals = [] ∧ O = []
  | x :: l, vals, O => ∃ u vs O1 O2, vals = u :: vs ∧ O = O1 ++ O2 ∧ Rep w X x u O1 ∧ RepL w X l vs O2
def RepE (w : World) (X : Cx) (s : Nat) : List V → List Value → List Nat → Prop
  | [], vals, O => vals = [] ∧ O = []
  | x :: l, vals, O => ∃ u vs O1 O2, vals = u.cells.toList ++ vs ∧ u.cells.size = s ∧ O = O1 ++ O2 ∧ Rep w X x u O1 ∧ RepE w X s l vs O2
end

/-- the world goes on: what holds elements stays (the owners' ends, but for those of U) -/
structure Ext (R : List Root) (w : World) (X : Cx) (w' : World) (X' : Cx) (U : Nat → Prop) : Prop where
  β : ∀ r ∈ R, X'.β r = X.β r
  ω : ∀ b e fz, X.ω b = some (e, fz) → ∃ e' fz', X'.ω b = some (e', fz') ∧ e ≤ e' ∧ (fz = true → fz' = true) ∧ (¬ U b → e' = e ∧ fz' = fz)
  cell : ∀ b e fz i v, X.ω b = some (e, fz) → i < e → w.cell? ⟨b, i, none⟩ = some v → w'.cell? ⟨b, i, none⟩ = some v
  obj : ∀ b e fz c t, ¬ U b → X.ω b = some (e, fz) → w.heap[b]? = some (.cells c t (0, 0)) → ∃ c', w'.heap[b]? = some (.cells c' t (0, 0)) ∧ c'.size = c.size

theorem Seg.ext {R : List Root} {w w' : World} {X X' : Cx} {U : Nat → Prop} (h : Ext R w X w' X' U) {b off : Nat} {vals : List Value} {e : Nat} {fz : Bool} (hω : X.ω b = some (e, fz)) (he : off + vals.length ≤ e)
    (hs : Seg w b off vals) : Seg w' b off vals := by
  intro i v hi
  have hlt : i < vals.length := (List.getElem?_eq_some_iff.1 hi).1
  exact h.cell b e fz (off + i) v hω (by omega) (hs i v hi)

theorem FlagOk.ext {R : List Root} {w w' : World} {X X' : Cx} {U : Nat → Prop} (h : Ext R w X w' X' U) {f : Fl} {b off n cap s : Nat} (hU : f = .own → ¬ U b) (hf : FlagOk w X f b off n cap s) :
    FlagOk w' X' f b off n cap s := by
  obtain ⟨e, fz, hω, hle, hm⟩ := hf
  obtain ⟨e', fz', hω', hle', hfz, he'⟩ := h.ω b e fz hω
  refine ⟨e', fz', hω', by omega, ?_⟩
  cases f with
  | own =>
    obtain ⟨hz, hend, ⟨c, t, hc, hsz⟩, h0⟩ := hm
    obtain ⟨c', hc', hsz'⟩ := h.obj b e fz c t (hU rfl) hω hc
    obtain ⟨he1, he2⟩ := he' (hU rfl)
    exact ⟨by rw [he2]; exact hz, by rw [he1]; exact hend, ⟨c', t, hc', by omega⟩, h0⟩
  | dull => trivial
  | shared => exact hfz hm

mutual
theorem Rep.ext {R : List Root} {w w' : World} {X X' : Cx} {U : Nat → Prop} (h : Ext R w X w' X' U) : ∀ (x : V) (v : Value) (O : List Nat), (∀ r ∈ x.ptrs, r ∈ R) → (∀ b ∈ O, ¬ U b) → Rep w X x v O → Rep w' X' x v O
  | .undef, _, _, _, _, hr => by simpa only [Rep] using hr
  | .val _, _, _, _, _, hr => by simpa only [Rep] using hr
  | .ptr r off, v, O, hp, _, hr => by
    simp only [Rep] at hr ⊢
    obtain ⟨h0, b, hb, hv⟩ := hr
    exact ⟨h0, b, by rw [h.β r (hp r (by simp [V.ptrs]))]; exact hb, hv⟩
  | .yld r, v, O, hp, _, hr => by
    simp only [Rep] at hr ⊢
    obtain ⟨h0, b, hb, hv⟩ := hr
    exact ⟨h0, b, by rw [h.β r (hp r (by simp [V.ptrs]))]; exact hb, hv⟩
  | .cptr cs, v, O, hp, hU, hr => by
    simp only [Rep] at hr ⊢
    obtain ⟨h0, b, off, vals, hv, hs, ⟨e, fz, hω, hle⟩, hl⟩ := hr
    obtain ⟨e', fz', hω', hle', _⟩ := h.ω b e fz hω
    exact ⟨h0, b, off, vals, hv, hs.ext h hω hle, ⟨e', fz', hω', by omega⟩, RepL.ext h cs vals [] (fun r hr => hp r (by simpa [V.ptrs] using hr)) (by simp) hl⟩
  | .sl f c l, v, O, hp, hU, hr => by
    simp only [Rep] at hr ⊢
    obtain ⟨hnp, hr⟩ := hr
    refine ⟨hnp, ?_⟩
    rcases hr with hr | ⟨b, off, cap, s, vals, O', hv, hcap, hc, hlen, hs0, hxs, hs, hf, he, ho, ho'⟩
    · exact .inl hr
    · refine .inr ⟨b, off, cap, s, vals, O', hv, hcap, hc, hlen, hs0, hxs, ?_, ?_, ?_, ho, ho'⟩
      · obtain ⟨e, fz, hω, hle, _⟩ := hf
        exact hs.ext h hω hle
      · exact hf.ext h (fun hown => hU b (by rw [ho hown]; simp))
      · refine RepE.ext h s l vals O' (fun r hr => by rw [hnp] at hr; cases hr) (fun b' hb' => ?_) he
        by_cases hown : f = .own
        · exact hU b' (by rw [ho hown]; simp [hb'])
        · rw [(ho' hown).2] at hb'; cases hb'
  | .fn f a c, v, O, hp, hU, hr => by
    simp only [Rep] at hr ⊢
    obtain ⟨va, vc, O1, O2, hv, rfl, h1, h2⟩ := hr
    exact ⟨va, vc, O1, O2, hv, rfl, RepL.ext h a va O1 (fun r hr => hp r (by simp [V.ptrs, hr])) (fun b hb => hU b (by simp [hb])) h1,
      RepL.ext h c vc O2 (fun r hr => hp r (by simp [V.ptrs, hr])) (fun b hb => hU b (by simp [hb])) h2⟩
  | .iface t x, v, O, hp, hU, hr => by
    simp only [Rep] at hr ⊢
    obtain ⟨u, hv, h1⟩ := hr
    exact ⟨u, hv, Rep.ext h x u O (fun r hr => hp r (by simpa [V.ptrs] using hr)) hU h1⟩
  | .agg l, v, O, hp, hU, hr => by
    simp only [Rep] at hr ⊢
    obtain ⟨vals, hv, h1⟩ := hr
    exact ⟨vals, hv, RepL.ext h l vals O (fun r hr => hp r (by simpa [V.ptrs] using hr)) hU h1⟩
  | .tuple l, v, O, hp, hU, hr => by
    simp only [Rep] at hr ⊢
    obtain ⟨vals, hv, h1⟩ := hr
    exact ⟨vals, hv, RepL.ext h l vals O (fun r hr => hp r (by simpa [V.ptrs] using hr)) hU h1⟩
  | .lp .., _, _, _, _, hr => by simp only [Rep] at hr
theorem RepL.ext {R : List Root} {w w' : World} {X X' : Cx} {U : Nat → Prop} (h : Ext R w X w' X' U) : ∀ (l : List V) (vals : List Value) (O : List Nat), (∀ r ∈ ptrsL l, r ∈ R) → (∀ b ∈ O, ¬ U b) → RepL w X l vals O → RepL w' X' l vals O
  | [], _, _, _, _, hr => by simpa only [RepL] using hr
  | x :: l, vals, O, hp, hU, hr => by
    simp only [RepL] at hr ⊢
    obtain ⟨u, vs, O1, O2, hv, rfl, h1, h2⟩ := hr
    exact ⟨u, vs, O1, O2, hv, rfl, Rep.ext h x u O1 (fun r hr => hp r (by simp [ptrsL, hr])) (fun b hb => hU b (by simp [hb])) h1,
      RepL.ext h l vs O2 (fun r hr => hp r (by simp [ptrsL, hr])) (fun b hb => hU b (by simp [hb])) h2⟩
theorem RepE.ext {R : List Root} {w w' : World} {X X' : Cx} {U : Nat → Prop} (h : Ext R w X w' X' U) (s : Nat) : ∀ (l : List V) (vals : List Value) (O : List Nat), (∀ r ∈ ptrsL l, r ∈ R) → (∀ b ∈ O, ¬ U b) → RepE w X s l vals O → RepE w' X' s l vals O
  | [], _, _, _, _, hr => by simpa only [RepE] using hr
  | x :: l, vals, O, hp, hU, hr => by
    simp only [RepE] at hr ⊢
    obtain ⟨u, vs, O1, O2, hv, hsz, rfl, h1, h2⟩ := hr
    exact ⟨u, vs, O1, O2, hv, hsz, rfl, Rep.ext h x u O1 (fun r hr => hp r (by simp [ptrsL, hr])) (fun b hb => hU b (by simp [hb])) h1,
      RepE.ext h s l vs O2 (fun r hr => hp r (by simp [ptrsL, hr])) (fun b hb => hU b (by simp [hb])) h2⟩
end

/-! ### flags -/
mutual
theorem ptrs_reflag (g : Fl → Fl) : ∀ x : V, (x.reflag g).ptrs = x.ptrs
  | .undef | .val _ | .ptr .. | .yld _ | .sl .. | .lp .. => by simp [V.reflag, V.ptrs]
  | .cptr cs => by simp [V.reflag, V.ptrs, ptrsL_reflag g cs]
  | .fn _ a b => by simp [V.reflag, V.ptrs, ptrsL_reflag g a, ptrsL_reflag g b]
  | .iface _ x => by simp [V.reflag, V.ptrs, ptrs_reflag g x]
  | .agg l => by simp [V.reflag, V.ptrs, ptrsL_reflag g l]
  | .tuple l => by simp [V.reflag, V.ptrs, ptrsL_reflag g l]
theorem ptrsL_reflag (g : Fl → Fl) : ∀ l : List V, ptrsL (reflagL g l) = ptrsL l
  | [] => rfl
  | x :: l => by simp [reflagL, ptrsL, ptrs_reflag g x, ptrsL_reflag g l]
end
theorem length_reflagL (g : Fl → Fl) : ∀ l : List V, (reflagL g l).length = l.length
  | [] => rfl
  | x :: l => by simp [reflagL, length_reflagL g l]
theorem reflagL_eq_map (g : Fl → Fl) : ∀ l : List V, reflagL g l = l.map (V.reflag g)
  | [] => rfl
  | x :: l => by simp [reflagL, reflagL_eq_map g l]
theorem cells_reflag (g : Fl → Fl) (x : V) : (x.reflag g).cells = reflagL g x.cells := by
  cases x <;> simp [V.reflag, V.cells, reflagL]
theorem cells_length_reflag (g : Fl → Fl) (x : V) : (x.reflag g).cells.length = x.cells.length := by rw [cells_reflag, length_reflagL]

/-- WHAT A CHANGE OF FLAGS WITHOUT OWNERS KEEPS ('dull', 'share') -/
structure Flags (g : Fl → Fl) (X X' : Cx) (S : Nat → Prop) (D : Bool) : Prop where
  β : X'.β = X.β
  own : ∀ f, g f ≠ .own
  dul : ∀ f, g f = .dull → D = true
  ω : D = true → ∀ b e fz, X.ω b = some (e, fz) → ∃ fz', X'.ω b = some (e, fz')
  sh : ∀ f b e fz, X.ω b = some (e, fz) → (f = .own → S b) → (f = .shared → fz = true) → (f = .dull → D = true) → g f = .shared → X'.ω b = some (e, true)

mutual
theorem Rep.flags {g : Fl → Fl} {w : World} {X X' : Cx} {S : Nat → Prop} {D : Bool} (h : Flags g X X' S D) : ∀ (x : V) (v : Value) (O : List Nat), (∀ b ∈ O, S b) → (x.loose = true → D = true) → Rep w X x v O → Rep w X' (x.reflag g) v []
  | .undef, _, _, _, _, hr => by simp [V.reflag, Rep]
  | .val _, _, _, _, _, hr => by simp only [V.reflag, Rep] at hr ⊢; exact ⟨hr.1, trivial⟩
  | .ptr r off, v, O, _, _, hr => by
    simp only [V.reflag, Rep] at hr ⊢
    rw [h.β]; exact ⟨trivial, hr.2⟩
  | .yld r, v, O, _, _, hr => by
    simp only [V.reflag, Rep] at hr ⊢
    rw [h.β]; exact ⟨trivial, hr.2⟩
  | .cptr cs, v, O, hS, hD, hr => by
    simp only [V.reflag, Rep] at hr ⊢
    obtain ⟨h0, b, off, vals, hv, hs, ⟨e, fz, hω, hle⟩, hl⟩ := hr
    obtain ⟨fz', hω'⟩ := h.ω (hD (by simp [V.loose])) b e fz hω
    exact ⟨trivial, b, off, vals, hv, hs, ⟨e, fz', hω', hle⟩, RepL.flags h cs vals [] (by simp) (fun _ => hD (by simp [V.loose])) hl⟩
  | .sl f c l, v, O, hS, hD, hr => by
    simp only [V.reflag, Rep] at hr ⊢
    obtain ⟨hnp, hr⟩ := hr
    refine ⟨by rw [ptrsL_reflag]; exact hnp, ?_⟩
    rcases hr with ⟨rfl, h0, hv⟩ | ⟨b, off, cap, s, vals, O', hv, hcap, hc, hlen, hs0, hxs, hs, hf, he, ho, ho'⟩
    · exact .inl ⟨rfl, trivial, hv.imp id fun ⟨_, ha⟩ => ⟨h.own f, ha⟩⟩
    · have hO : ∀ b' ∈ O', S b' := by
        intro b' hb'
        by_cases hown : f = .own
        · exact hS b' (by rw [ho hown]; simp [hb'])
        · rw [(ho' hown).2] at hb'; cases hb'
      refine .inr ⟨b, off, cap, s, vals, [], by rw [length_reflagL]; exact hv, by rw [length_reflagL]; exact hcap, fun hc' => by rw [length_reflagL]; exact hc hc', by rw [length_reflagL]; exact hlen, hs0, ?_, hs, ?_, ?_, fun hown => absurd hown (h.own f), fun _ => ⟨trivial, rfl⟩⟩
      · intro x hx
        rw [reflagL_eq_map] at hx
        obtain ⟨y, hy, rfl⟩ := List.mem_map.1 hx
        rw [cells_length_reflag]; exact hxs y hy
      · obtain ⟨e, fz, hω, hle, hm⟩ := hf
        cases hg : g f with
        | own => exact absurd hg (h.own f)
        | dull => obtain ⟨fz', hω'⟩ := h.ω (h.dul f hg) b e fz hω; exact ⟨e, fz', hω', hle, trivial⟩
        | shared =>
          refine ⟨e, true, h.sh f b e fz hω (fun hown => hS b (by rw [ho hown]; simp)) (fun hsh => ?_) (fun hd => hD (by simp [V.loose, hd])) hg, hle, rfl⟩
          subst hsh; exact hm
      · exact RepE.flags h s l vals O' hO (fun hl => hD (by simp [V.loose, hl])) he
  | .fn f a c, v, O, hS, hD, hr => by
    simp only [V.reflag, Rep] at hr ⊢
    obtain ⟨va, vc, O1, O2, hv, rfl, h1, h2⟩ := hr
    exact ⟨va, vc, [], [], hv, rfl, RepL.flags h a va O1 (fun b hb => hS b (by simp [hb])) (fun hl => hD (by simp [V.loose, hl])) h1,
      RepL.flags h c vc O2 (fun b hb => hS b (by simp [hb])) (fun hl => hD (by simp [V.loose, hl])) h2⟩
  | .iface t x, v, O, hS, hD, hr => by
    simp only [V.reflag, Rep] at hr ⊢
    obtain ⟨u, hv, h1⟩ := hr
    exact ⟨u, hv, Rep.flags h x u O hS (fun hl => hD (by simpa [V.loose] using hl)) h1⟩
  | .agg l, v, O, hS, hD, hr => by
    simp only [V.reflag, Rep] at hr ⊢
    obtain ⟨vals, hv, h1⟩ := hr
    exact ⟨vals, hv, RepL.flags h l vals O hS (fun hl => hD (by simpa [V.loose] using hl)) h1⟩
  | .tuple l, v, O, hS, hD, hr => by
    simp only [V.reflag, Rep] at hr ⊢
    obtain ⟨vals, hv, h1⟩ := hr
    exact ⟨vals, hv, RepL.flags h l vals O hS (fun hl => hD (by simpa [V.loose] using hl)) h1⟩
  | .lp .., _, _, _, _, hr => by simp only [Rep] at hr
theorem RepL.flags {g : Fl → Fl} {w : World} {X X' : Cx} {S : Nat → Prop} {D : Bool} (h : Flags g X X' S D) : ∀ (l : List V) (vals : List Value) (O : List Nat), (∀ b ∈ O, S b) → (looseL l = true → D = true) → RepL w X l vals O → RepL w X' (reflagL g l) vals []
  | [], _, _, _, _, hr => by simp only [reflagL, RepL] at hr ⊢; exact ⟨hr.1, trivial⟩
  | x :: l, vals, O, hS, hD, hr => by
    simp only [reflagL, RepL] at hr ⊢
    obtain ⟨u, vs, O1, O2, hv, rfl, h1, h2⟩ := hr
    exact ⟨u, vs, [], [], hv, rfl, Rep.flags h x u O1 (fun b hb => hS b (by simp [hb])) (fun hl => hD (by simp [looseL, hl])) h1,
      RepL.flags h l vs O2 (fun b hb => hS b (by simp [hb])) (fun hl => hD (by simp [looseL, hl])) h2⟩
theorem RepE.flags {g : Fl → Fl} {w : World} {X X' : Cx} {S : Nat → Prop} {D : Bool} (h : Flags g X X' S D) (s : Nat) : ∀ (l : List V) (vals : List Value) (O : List Nat), (∀ b ∈ O, S b) → (looseL l = true → D = true) → RepE w X s l vals O → RepE w X' s (reflagL g l) vals []
  | [], _, _, _, _, hr => by simp only [reflagL, RepE] at hr ⊢; exact ⟨hr.1, trivial⟩
  | x :: l, vals, O, hS, hD, hr => by
    simp only [reflagL, RepE] at hr ⊢
    obtain ⟨u, vs, O1, O2, hv, hsz, rfl, h1, h2⟩ := hr
    exact ⟨u, vs, [], [], hv, hsz, rfl, Rep.flags h x u O1 (fun b hb => hS b (by simp [hb])) (fun hl => hD (by simp [looseL, hl])) h1,
      RepE.flags h s l vs O2 (fun b hb => hS b (by simp [hb])) (fun hl => hD (by simp [looseL, hl])) h2⟩
end

/-- WHAT A CHANGE OF FLAGS THAT LEAVES THE OWNERS KEEPS ('settle', 'loosen') -/
structure Flags' (g : Fl → Fl) (X X' : Cx) (S : Nat → Prop) : Prop where
  β : X'.β = X.β
  own : ∀ f, g f = .own ↔ f = .own
  ω : ∀ b e fz, X.ω b = some (e, fz) → ∃ fz', X'.ω b = some (e, fz') ∧ (S b → fz' = fz)
  sh : ∀ f b e fz, X.ω b = some (e, fz) → (f = .own → S b) → (f = .shared → fz = true) → g f = .shared → X'.ω b = some (e, true)

mutual
theorem Rep.flags' {g : Fl → Fl} {w : World} {X X' : Cx} {S : Nat → Prop} (h : Flags' g X X' S) : ∀ (x : V) (v : Value) (O : List Nat), (∀ b ∈ O, S b) → Rep w X x v O → Rep w X' (x.reflag g) v O
  | .undef, _, _, _, hr => by simpa [V.reflag, Rep] using hr
  | .val _, _, _, _, hr => by simpa only [V.reflag, Rep] using hr
  | .ptr r off, v, O, _, hr => by
    simp only [V.reflag, Rep] at hr ⊢
    rw [h.β]; exact hr
  | .yld r, v, O, _, hr => by
    simp only [V.reflag, Rep] at hr ⊢
    rw [h.β]; exact hr
  | .cptr cs, v, O, hS, hr => by
    simp only [V.reflag, Rep] at hr ⊢
    obtain ⟨h0, b, off, vals, hv, hs, ⟨e, fz, hω, hle⟩, hl⟩ := hr
    obtain ⟨fz', hω', _⟩ := h.ω b e fz hω
    exact ⟨h0, b, off, vals, hv, hs, ⟨e, fz', hω', hle⟩, RepL.flags' h cs vals [] (by simp) hl⟩
  | .sl f c l, v, O, hS, hr => by
    simp only [V.reflag, Rep] at hr ⊢
    obtain ⟨hnp, hr⟩ := hr
    refine ⟨by rw [ptrsL_reflag]; exact hnp, ?_⟩
    rcases hr with ⟨rfl, h0, hv⟩ | ⟨b, off, cap, s, vals, O', hv, hcap, hc, hlen, hs0, hxs, hs, hf, he, ho, ho'⟩
    · exact .inl ⟨rfl, h0, hv.imp id fun ⟨hf, ha⟩ => ⟨fun e => hf ((h.own f).1 e), ha⟩⟩
    · have hO : ∀ b' ∈ O', S b' := by
        intro b' hb'
        by_cases hown : f = .own
        · exact hS b' (by rw [ho hown]; simp [hb'])
        · rw [(ho' hown).2] at hb'; cases hb'
      refine .inr ⟨b, off, cap, s, vals, O', by rw [length_reflagL]; exact hv, by rw [length_reflagL]; exact hcap, fun hc' => by rw [length_reflagL]; exact hc hc', by rw [length_reflagL]; exact hlen, hs0, ?_, hs, ?_, ?_, fun hown => ho ((h.own f).1 hown), fun hown => ho' (fun hh => hown ((h.own f).2 hh))⟩
      · intro x hx
        rw [reflagL_eq_map] at hx
        obtain ⟨y, hy, rfl⟩ := List.mem_map.1 hx
        rw [cells_length_reflag]; exact hxs y hy
      · obtain ⟨e, fz, hω, hle, hm⟩ := hf
        cases hg : g f with
        | own =>
          have hown := (h.own f).1 hg
          subst hown
          obtain ⟨fz', hω', hz⟩ := h.ω b e fz hω
          have := hz (hS b (by rw [ho rfl]; simp))
          subst this
          exact ⟨e, fz', hω', hle, hm⟩
        | dull => obtain ⟨fz', hω', _⟩ := h.ω b e fz hω; exact ⟨e, fz', hω', hle, trivial⟩
        | shared =>
          refine ⟨e, true, h.sh f b e fz hω (fun hown => hS b (by rw [ho hown]; simp)) (fun hsh => ?_) hg, hle, rfl⟩
          subst hsh; exact hm
      · exact RepE.flags' h s l vals O' hO he
  | .fn f a c, v, O, hS, hr => by
    simp only [V.reflag, Rep] at hr ⊢
    obtain ⟨va, vc, O1, O2, hv, rfl, h1, h2⟩ := hr
    exact ⟨va, vc, O1, O2, hv, rfl, RepL.flags' h a va O1 (fun b hb => hS b (by simp [hb])) h1, RepL.flags' h c vc O2 (fun b hb => hS b (by simp [hb])) h2⟩
  | .iface t x, v, O, hS, hr => by
    simp only [V.reflag, Rep] at hr ⊢
    obtain ⟨u, hv, h1⟩ := hr
    exact ⟨u, hv, Rep.flags' h x u O hS h1⟩
  | .agg l, v, O, hS, hr => by
    simp only [V.reflag, Rep] at hr ⊢
    obtain ⟨vals, hv, h1⟩ := hr
    exact ⟨vals, hv, RepL.flags' h l vals O hS h1⟩
  | .tuple l, v, O, hS, hr => by
    simp only [V.reflag, Rep] at hr ⊢
    obtain ⟨vals, hv, h1⟩ := hr
    exact ⟨vals, hv, RepL.flags' h l vals O hS h1⟩
  | .lp .., _, _, _, hr => by simp only [Rep] at hr
theorem RepL.flags' {g : Fl → Fl} {w : World} {X X' : Cx} {S : Nat → Prop} (h : Flags' g X X' S) : ∀ (l : List V) (vals : List Value) (O : List Nat), (∀ b ∈ O, S b) → RepL w X l vals O → RepL w X' (reflagL g l) vals O
  | [], _, _, _, hr => by simpa only [reflagL, RepL] using hr
  | x :: l, vals, O, hS, hr => by
    simp only [reflagL, RepL] at hr ⊢
    obtain ⟨u, vs, O1, O2, hv, rfl, h1, h2⟩ := hr
    exact ⟨u, vs, O1, O2, hv, rfl, Rep.flags' h x u O1 (fun b hb => hS b (by simp [hb])) h1, RepL.flags' h l vs O2 (fun b hb => hS b (by simp [hb])) h2⟩
theorem RepE.flags' {g : Fl → Fl} {w : World} {X X' : Cx} {S : Nat → Prop} (h : Flags' g X X' S) (s : Nat) : ∀ (l : List V) (vals : List Value) (O : List Nat), (∀ b ∈ O, S b) → RepE w X s l vals O → RepE w X' s (reflagL g l) vals O
  | [], _, _, _, hr => by simpa only [reflagL, RepE] using hr
  | x :: l, vals, O, hS, hr => by
    simp only [reflagL, RepE] at hr ⊢
    obtain ⟨u, vs, O1, O2, hv, hsz, rfl, h1, h2⟩ := hr
    exact ⟨u, vs, O1, O2, hv, hsz, rfl, Rep.flags' h x u O1 (fun b hb => hS b (by simp [hb])) h1, RepE.flags' h s l vs O2 (fun b hb => hS b (by simp [hb])) h2⟩
end
end Go.Ab
