/-
  A LAW's ARGUMENTS, OPENED: what is read of an argument is a typed value; a law that is known to answer true returns true and leaves its arguments as they were.
-/
import Derived.Test.YtpiggpgocnlomaaTxI
import Derived.Deep.Slices
import Derived.Carry
import Derived.ChangeBears2
import Derived.ChangeSame
import Derived.JoinedCond
import Derived.OpenShut
import Derived.ProofKit
set_option linter.unusedVariables false
namespace Go.Tx
open Go Go.Ab Go.RowKit Go.ChangeShapes Go.WideShapes Go.Deep

/-- in range: numbers fit, lists are of at most N -/
def Rng (N : Nat) : (τ : Ty) → τ.den → Prop
  | .int k, n => k.min ≤ n ∧ n ≤ k.max
  | .bool, _ => True
  | .str, s => s.length ≤ N
  | .sl t, l => l.length ≤ N ∧ ∀ e ∈ l, Rng N t e
  | .unit, _ => True
  | .pair a b, x => Rng N a x.1 ∧ Rng N b x.2
def RngP (N : Nat) : (τs : List Ty) → denP (τs.map .ty) → Prop
  | [], _ => True
  | [τ], x => Rng N τ x
  | τ :: q :: l, x => Rng N τ x.1 ∧ RngP N (q :: l) x.2

/-- the ghost at a call's start: all that is there is frozen -/
def cx0 (w : World) : Cx := { β := fun _ => none, ω := fun b => match w.heap[b]? with
  | some (.cells c _ _) => some (c.size, true)
  | _ => none }

/-- what the size of a reading says -/
structure Sm {H : Type} (N : Nat) (S : DataW H → Prop) : Prop where
  slice : ∀ es sp, S (.slice es sp) → es.length ≤ maxLen → es.length ≤ N ∧ ∀ e ∈ es, S e
  agg : ∀ ps, S (.agg ps) → ∀ p ∈ ps, S p
  str : ∀ b, S (.lit (.string b)) → b.length ≤ maxLen → b.length ≤ N

def CellOk (N : Nat) (w : World) (τ : Ty) (v : Value) : Prop := ∃ y u, Rng N τ y ∧ RTy τ 1000 y u ∧ Rep w (cx0 w) u v []

section
variable (P : Program)
/-- types whose readings are typed values -/
def okT : Nat → TypeId → Bool
  | 0, _ => false
  | d + 1, t => decide (t < P.types.size) && match P.underlying t with
    | some (.slice e) => decide (P.cellsOf e ≠ 0) && ((cellsTy P d e).map List.length == some (P.cellsOf e)) && okT d e
    | some (.struct fields) => fields.toList.all fun fd => okT d fd.type
    | some (.array _ e) => okT d e
    | _ => true
end

variable {H : Type} {enc : TypeId × Value → H} {P : Program} {w : World} {base : Nat} {held : Bool}

theorem glue {α β : Type} {R : α → β → Prop} : ∀ (css : List (List α)) (szs : List Nat) (vals : List β), css.length = szs.length → vals.length = szs.sum →
    (∀ (j : Nat) c s, css[j]? = some c → szs[j]? = some s → All2 R c ((vals.drop (szs.take j).sum).take s)) → All2 R css.flatten vals
  | [], szs, vals, h1, h2, _ => by
    have : szs = [] := List.eq_nil_of_length_eq_zero (by simpa using h1.symm)
    subst this
    have : vals = [] := List.eq_nil_of_length_eq_zero (by simpa using h2)
    subst this
    exact .nil
  | c :: css, [], vals, h1, _, _ => by simp at h1
  | c :: css, s :: szs, vals, h1, h2, h => by
    have h0 := h 0 c s rfl rfl
    simp only [List.take_zero, List.sum_nil, List.drop_zero] at h0
    have hr := glue css szs (vals.drop s) (by simpa using h1) (by simp only [List.length_drop, h2, List.sum_cons]; omega) fun j c' s' hc hs => by
      have := h (j + 1) c' s' (by simpa using hc) (by simpa using hs)
      simpa [List.take_succ_cons, List.sum_cons, List.drop_drop] using this
    have := h0.append hr
    simpa [List.flatten_cons] using this

/-- a row of cells is one aggregate -/
theorem pack_ok {N : Nat} : ∀ (cs : List Ty) (vals : List Value), All2 (CellOk N w) cs vals → ∃ (y : (cs.foldr Ty.pair .unit).den) (us : List V), Rng N _ y ∧ RTy (cs.foldr Ty.pair .unit) 1000 y (.agg us) ∧ RepL w (cx0 w) us vals []
  | [], vals, h => by cases h; exact ⟨(), [], trivial, by simp [RTy], by simp [RepL]⟩
  | c :: cs, vals, h => by
    cases h with
    | cons h1 h2 =>
      obtain ⟨y, u, hy, hu, hr⟩ := h1
      obtain ⟨ys, us, hys, hus, hrs⟩ := pack_ok cs _ h2
      refine ⟨(y, ys), u :: us, ⟨hy, hys⟩, ?_, ?_⟩
      · simp only [List.foldr_cons, RTy]; exact ⟨u, us, rfl, hu, hus⟩
      · simp only [RepL]; exact ⟨_, _, [], [], rfl, rfl, hr, hrs⟩

theorem cellsTy_one {d : Nat} {e : TypeId} {σ : Ty} (hc : cellsTy P d e = some [σ]) (hs : ∀ fs, P.underlying e ≠ some (.struct fs)) (ha : ∀ n q, P.underlying e ≠ some (.array n q)) : σ.one = true := by
  cases d with
  | zero => simp [cellsTy] at hc
  | succ d =>
    simp only [cellsTy] at hc
    split at hc
    · cases hc; rfl
    · cases hc; rfl
    · cases hc; rfl
    · split at hc
      · cases hc; rfl
      · cases hc; rfl
      · cases hc; rfl
      · cases hc
    · rename_i fs hfs; exact absurd hfs (hs _)
    · rename_i n e' hfs; exact absurd hfs (ha _ _)
    · cases hc
/-- the type of an element -/
def elTy (P : Program) (e : TypeId) (cs : List Ty) : Option Ty := match P.underlying e with
  | some (.struct _) => some (cs.foldr Ty.pair .unit)
  | some (.array ..) => some (cs.foldr Ty.pair .unit)
  | _ => match cs with
    | [τ] => some τ
    | _ => none
/-- an element: its cells are a value -/
theorem elem_ok {N : Nat} {d : Nat} {e : TypeId} {cs : List Ty} {τ : Ty} (hc : cellsTy P d e = some cs) (hτ : elTy P e cs = some τ) {vals : List Value} (h : All2 (CellOk N w) cs vals) :
    ∃ (y : τ.den) (u : V) (v : Value), Rng N τ y ∧ RTy τ 1000 y u ∧ Rep w (cx0 w) u v [] ∧ v.cells.toList = vals := by
  have agg : τ = cs.foldr Ty.pair .unit → ∃ (y : τ.den) (u : V) (v : Value), Rng N τ y ∧ RTy τ 1000 y u ∧ Rep w (cx0 w) u v [] ∧ v.cells.toList = vals := by
    rintro rfl
    obtain ⟨y, us, hy, hu, hr⟩ := pack_ok cs vals h
    exact ⟨y, .agg us, .agg vals.toArray, hy, hu, by simp only [Rep]; exact ⟨vals, rfl, hr⟩, by simp [Value.cells]⟩
  unfold elTy at hτ
  split at hτ
  · cases hτ; exact agg rfl
  · cases hτ; exact agg rfl
  · rename_i hns hna
    have hns' := hns
    have hna' := hna
    split at hτ
    · cases hτ
      have hone := cellsTy_one hc (fun fs hh => hns' fs hh) (fun n q hh => hna' n q hh)
      match vals, h with
      | v :: _, .cons h1 .nil =>
        obtain ⟨y, u, hy, hu, hr⟩ := h1
        refine ⟨y, u, v, hy, hu, hr, ?_⟩
        rw [cells_of_one (rep_one (rty_one hone hu) hr)]
    · cases hτ

theorem frozen0 {b : Nat} {e : Nat} {fz : Bool} (h : (cx0 w).ω b = some (e, fz)) : fz = true ∧ b < w.heap.size ∧ ∃ c t fr, w.heap[b]? = some (.cells c t fr) ∧ e = c.size := by
  simp only [cx0] at h
  split at h
  · rename_i c t fr hc
    cases h
    exact ⟨rfl, (Array.getElem?_eq_some_iff.1 hc).1, c, t, fr, hc, rfl⟩
  · cases h
theorem cell_block {a : Addr} {v : Value} (h : w.cell? a = some v) : a.spot = none ∧ ∃ c t fr, w.heap[a.block]? = some (.cells c t fr) ∧ c[a.off]? = some v := by
  unfold World.cell? at h
  split at h
  · rename_i c t fr hc
    split at h
    · cases h
    · rename_i hs
      exact ⟨by simpa using hs, c, t, fr, hc, h⟩
  · cases h

/-- A SLICE: its elements, one by one -/
theorem slice_rep {N : Nat} {τ : Ty} {b off len cap s : Nat} (hs : 0 < s) (hlc : len ≤ cap) (hcap : cap ≠ 0) (hτ : τ.elemOk = true) (hn : τ.ncells = s)
    (hel : ∀ i, i < cap → ∃ vals : List Value, vals.length = s ∧ (∀ j, j < s → w.cell? ⟨b, off + i * s + j, none⟩ = vals[j]?) ∧ (i < len → ∃ (y : τ.den) (u : V) (v : Value), Rng N τ y ∧ RTy τ 1000 y u ∧ Rep w (cx0 w) u v [] ∧ v.cells.toList = vals)) :
    ∃ (l : List τ.den) (us : List V), l.length = len ∧ (∀ y ∈ l, Rng N τ y) ∧ All2 (RTy τ 1000) l us ∧ Rep w (cx0 w) (.sl .shared false us) (.slice (some ⟨b, off, none⟩) len cap) [] := by
  have key : ∀ n, n ≤ len → ∃ (l : List τ.den) (us : List V) (vals : List Value), l.length = n ∧ (∀ y ∈ l, Rng N τ y) ∧ All2 (RTy τ 1000) l us ∧ RepE w (cx0 w) s us vals [] ∧ vals.length = n * s ∧ (∀ j v, vals[j]? = some v → w.cell? ⟨b, off + j, none⟩ = some v) := by
    intro n
    induction n with
    | zero => exact fun _ => ⟨[], [], [], rfl, by simp, .nil, by simp [RepE], by simp, by simp⟩
    | succ n ih =>
      intro hle
      obtain ⟨l, us, vals, h1, h2, h3, h4, h5, h6⟩ := ih (by omega)
      obtain ⟨vs, hvl, hvc, hy⟩ := hel n (by omega)
      obtain ⟨y, u, v, hry, hu, hr, hcv⟩ := hy (by omega)
      refine ⟨l ++ [y], us ++ [u], vals ++ vs, by simp [h1], ?_, h3.append (.cons hu .nil), ?_, by simp [h5, hvl, Nat.succ_mul], ?_⟩
      · intro z hz
        simp only [List.mem_append, List.mem_singleton] at hz
        rcases hz with hz | rfl
        · exact h2 z hz
        · exact hry
      · have h7 : RepE w (cx0 w) s [u] vs [] := by
          simp only [RepE]
          exact ⟨v, [], [], [], by simp [hcv], by rw [← hvl, ← hcv]; simp, rfl, hr, rfl, rfl⟩
        simpa using repE_append h4 h7
      · intro j v hj
        by_cases hlt : j < vals.length
        · rw [List.getElem?_append_left hlt] at hj; exact h6 j v hj
        · rw [List.getElem?_append_right (by omega)] at hj
          have hjs := (List.getElem?_eq_some_iff.1 hj).1
          have := hvc (j - vals.length) (by omega)
          rw [hj] at this
          rw [← this]
          congr 2
          omega
  obtain ⟨l, us, vals, h1, h2, h3, h4, h5, h6⟩ := key len (Nat.le_refl _)
  refine ⟨l, us, h1, h2, h3, ?_⟩
  have hlen := h3.length
  have hcells := all2_cells hτ h3
  -- the block
  obtain ⟨vs, hvl, hvc, _⟩ := hel 0 (by omega)
  have hc0 := hvc 0 (by omega)
  have hv0 : ∃ v0, vs[0]? = some v0 := ⟨vs[0]'(by omega), List.getElem?_eq_getElem (by omega)⟩
  obtain ⟨v0, hv0⟩ := hv0
  rw [hv0] at hc0
  obtain ⟨_, c, t, fr, hblk, hoff⟩ := cell_block hc0
  simp only [Nat.zero_mul, Nat.add_zero] at hblk hoff
  have hoff' := (Array.getElem?_eq_some_iff.1 hoff).1
  simp only [Rep]
  refine ⟨all2_ptrs h3, .inr ⟨b, off, cap, s, vals, [], ?_, ?_, by simp, ?_, hs, ?_, h6, ⟨c.size, true, ?_, ?_, rfl⟩, h4, by simp, by simp⟩⟩
  · rw [hlen, h1]
  · rw [hlen, h1]; exact hlc
  · rw [hlen, h1]; exact h5
  · intro x hx; rw [(hcells x hx).1]; exact hn
  · simp only [cx0, hblk]
  · by_cases h0 : vals.length = 0
    · rw [h0]; omega
    · have : ∃ v1, vals[vals.length - 1]? = some v1 := ⟨vals[vals.length - 1]'(by omega), List.getElem?_eq_getElem (by omega)⟩
      obtain ⟨v1, hv1⟩ := this
      obtain ⟨_, c', t', fr', hblk', hoff1⟩ := cell_block (h6 _ _ hv1)
      simp only at hblk' hoff1
      rw [hblk] at hblk'
      cases hblk'
      have := (Array.getElem?_eq_some_iff.1 hoff1).1
      omega
theorem elTy_props {d : Nat} {e : TypeId} {cs : List Ty} {τ : Ty} (hc : cellsTy P d e = some cs) (hτ : elTy P e cs = some τ) (hones : ∀ c ∈ cs, c.one = true) : τ.elemOk = true ∧ τ.ncells = cs.length := by
  have agg : ∀ cs : List Ty, (∀ c ∈ cs, c.one = true) → (cs.foldr Ty.pair .unit).rowOk = true ∧ (cs.foldr Ty.pair .unit).elemOk = true ∧ (cs.foldr Ty.pair .unit).ncells = cs.length := by
    intro cs
    induction cs with
    | nil => intro _; exact ⟨rfl, rfl, rfl⟩
    | cons c cs ih =>
      intro h
      obtain ⟨h1, _, h3⟩ := ih fun c' hc' => h c' (by simp [hc'])
      simp only [List.foldr_cons, Ty.rowOk, Ty.elemOk, Ty.ncells, h c (by simp), h1, h3, Bool.and_self, List.length_cons]
      exact ⟨trivial, trivial, trivial⟩
  unfold elTy at hτ
  split at hτ
  · cases hτ; exact ⟨(agg cs hones).2.1, (agg cs hones).2.2⟩
  · cases hτ; exact ⟨(agg cs hones).2.1, (agg cs hones).2.2⟩
  · split at hτ
    · cases hτ
      have h1 := hones τ (by simp)
      cases τ <;> first | exact ⟨rfl, rfl⟩ | simp [Ty.one] at h1
    · cases hτ
theorem mapM_get {α β : Type} {g : α → Option β} : ∀ {l : List α} {r : List β}, l.mapM g = some r → r.length = l.length ∧ ∀ (i : Nat) (a : α), l[i]? = some a → ∃ b, r[i]? = some b ∧ g a = some b
  | [], r, h => by simp at h; subst h; exact ⟨rfl, by simp⟩
  | a :: l, r, h => by
    simp only [List.mapM_cons, Option.bind_eq_bind, Option.bind_eq_some_iff] at h
    obtain ⟨b, hb, r', hr', h⟩ := h
    cases h
    obtain ⟨h1, h2⟩ := mapM_get hr'
    refine ⟨by simp [h1], fun i x hi => ?_⟩
    cases i with
    | zero => simp at hi; subst hi; exact ⟨b, rfl, hb⟩
    | succ n => obtain ⟨c, hc, hg⟩ := h2 n x (by simpa using hi); exact ⟨c, by simpa using hc, hg⟩
theorem cellsTy_ones : ∀ (d : Nat) (t : TypeId) (cs : List Ty), cellsTy P d t = some cs → ∀ c ∈ cs, c.one = true
  | 0, t, cs, h => by simp [cellsTy] at h
  | d + 1, t, cs, h => by
    simp only [cellsTy] at h
    split at h
    · cases h; simp [Ty.one]
    · cases h; simp [Ty.one]
    · cases h; simp [Ty.one]
    · split at h
      · cases h; simp [Ty.one]
      · cases h; simp [Ty.one]
      · cases h; simp [Ty.one]
      · cases h
    · rename_i fields _
      obtain ⟨css, hcss, rfl⟩ := Option.map_eq_some_iff.1 h
      obtain ⟨h1, h2⟩ := mapM_get hcss
      intro c hc
      obtain ⟨q, hq, hcq⟩ := List.mem_flatten.1 hc
      obtain ⟨i, hi⟩ := List.mem_iff_getElem?.1 hq
      have hlt : i < fields.toList.length := by have := (List.getElem?_eq_some_iff.1 hi).1; omega
      obtain ⟨b, hb, hg⟩ := h2 i _ (List.getElem?_eq_getElem hlt)
      rw [hi] at hb; cases hb
      exact cellsTy_ones d _ _ hg c hcq
    · obtain ⟨q, hq, rfl⟩ := Option.map_eq_some_iff.1 h
      intro c hc
      obtain ⟨q', hq', hcq⟩ := List.mem_flatten.1 hc
      obtain ⟨_, rfl⟩ := List.mem_replicate.1 hq'
      exact cellsTy_ones d _ _ hq c hcq
    · cases h
end Go.Tx
