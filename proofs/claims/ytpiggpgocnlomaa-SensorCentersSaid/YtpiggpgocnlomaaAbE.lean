/-
  ONE OPERATION, third part: building values, slices; what makes memory.
-/
import Derived.Test.YtpiggpgocnlomaaAbD
import Derived.Laws.Tables
import Derived.Great.BuildSlice
set_option linter.unusedVariables false
namespace Go.Ab
open Go
variable {P : Program} {H : Hints} {f : FuncId} {w : World} {X : Cx}

theorem fold_set (off : Nat) : ∀ (vs : List Value) (k : Nat) (cells : Array Value), off + k + vs.length ≤ cells.size →
    ((vs.zipIdx k).foldl (fun cs x => cs.setIfInBounds (off + x.2) x.1) cells).toList = cells.toList.take (off + k) ++ vs ++ cells.toList.drop (off + k + vs.length)
  | [], k, cells, _ => by simp
  | v :: vs, k, cells, h => by
    simp only [List.zipIdx_cons, List.foldl_cons]
    rw [fold_set off vs (k + 1) _ (by simp at h ⊢; omega)]
    have hlt : off + k < cells.toList.length := by simp at h ⊢; omega
    simp only [Array.toList_setIfInBounds, List.length_cons]
    have e1 : (cells.toList.set (off + k) v).take (off + (k + 1)) = cells.toList.take (off + k) ++ [v] := by
      rw [← Nat.add_assoc, List.take_succ_eq_append_getElem (by simpa using hlt)]
      simp [List.take_set_of_le]
    have e2 : (cells.toList.set (off + k) v).drop (off + (k + 1) + vs.length) = cells.toList.drop (off + k + (vs.length + 1)) := by
      rw [List.drop_set_of_lt (by omega)]
      congr 1; omega
    rw [e1, e2]; simp

theorem fill_step (off : Nat) (v : Value) (vals : List Value) (h : off + v.cells.toList.length ≤ vals.length) :
    v.cells.zipIdx.foldl (fun cs (x : Value × Nat) => cs.setIfInBounds (off + x.2) x.1) vals.toArray = (vals.take off ++ v.cells.toList ++ vals.drop (off + v.cells.toList.length)).toArray := by
  have := fold_set off v.cells.toList 0 vals.toArray (by simpa using h)
  rw [← Array.foldl_toList, Array.toList_zipIdx]
  apply Array.ext'
  simpa using this

theorem count_app (b : Nat) (A B : List Nat) : (A ++ B).count b = A.count b + B.count b := List.count_append

theorem repL_splice {cs vs : List V} {vals us : List Value} {O Op : List Nat} {off : Nat} (h : RepL w X cs vals O) (hv : RepL w X vs us Op) :
    ∃ O', RepL w X (splice cs off vs) (vals.take off ++ us ++ vals.drop (off + us.length)) O' ∧ ∀ b, O'.count b ≤ O.count b + Op.count b := by
  obtain ⟨A, B, rfl, hA, hB⟩ := repL_split off h
  obtain ⟨E, F, rfl, hE, hF⟩ := repL_split us.length hB
  have hl := repL_length _ _ _ hv
  refine ⟨A ++ Op ++ F, ?_, fun b => by simp only [count_app]; omega⟩
  unfold splice
  rw [hl]
  refine repL_append (repL_append hA hv) ?_
  simpa [List.drop_drop] using hF

theorem fill_rep {place : Nat → Option (Nat × Nat)} : ∀ (is : List Nat) (xs : List V) (us : List Value) (cs cs' : List V) (vals : List Value) (O Op : List Nat), is.length = xs.length →
    fillV place cs (is.zip xs) = some cs' → RepL w X xs us Op → RepL w X cs vals O →
    ∃ vals' O', Instr.fill place vals.toArray (is.zip us) = some vals'.toArray ∧ RepL w X cs' vals' O' ∧ (∀ b, O'.count b ≤ O.count b + Op.count b)
  | [], xs, us, cs, cs', vals, O, Op, hl, hf, hx, hc => by
    simp only [List.zip_nil_left, fillV, Option.some.injEq] at hf
    subst hf
    exact ⟨vals, O, by simp [Instr.fill], hc, fun b => by omega⟩
  | i :: is, [], us, cs, cs', vals, O, Op, hl, hf, hx, hc => by simp at hl
  | i :: is, x :: xs, us, cs, cs', vals, O, Op, hl, hf, hx, hc => by
    simp only [RepL] at hx
    obtain ⟨u, us', O1, O2, rfl, rfl, h1, h2⟩ := hx
    simp only [List.zip_cons_cons, fillV] at hf
    split at hf
    · simp at hf
    · rename_i off size hp
      split at hf
      · simp at hf
      · rename_i hcnd
        simp only [not_or, Decidable.not_not, Nat.not_lt, gt_iff_lt] at hcnd
        obtain ⟨hsz, hle, hok⟩ := hcnd
        have hok' : x.oks = true := by simpa using hok
        obtain ⟨hcells, _⟩ := rep_cells hok' h1
        have hcl : x.cells.length = u.cells.size := by rw [repL_length _ _ _ hcells]; simp
        have hvl := repL_length _ _ _ hc
        obtain ⟨O', hr, hcnt⟩ := repL_splice (off := off) hc hcells
        obtain ⟨vals', O'', hfill, hr', hcnt'⟩ := fill_rep is xs us' _ cs' _ O' O2 (by simpa using hl) hf h2 hr
        refine ⟨vals', O'', ?_, hr', fun b => by have := hcnt b; have := hcnt' b; rw [count_app]; omega⟩
        simp only [List.zip_cons_cons, Instr.fill, hp]
        rw [if_neg (by simp; omega)]
        rw [fill_step off u vals (by simp; omega)]
        exact hfill

theorem zero_info {t : TypeId} {z : V} (hz : zeroOf P H f t = some z) : ∃ i u, P.info? t = some i ∧ i.zero = some u ∧ z = ofConst (H.precise f) u := by
  unfold zeroOf at hz
  cases hi : P.info? t with
  | none => simp [hi] at hz
  | some i =>
    cases hu : i.zero with
    | none => simp [hi, hu] at hz
    | some u => simp [hi, hu] at hz; exact ⟨i, u, rfl, hu, hz.symm⟩

theorem rep_constCells (p : Bool) (u : Value) : RepL w X (ofConst p u).cells u.cells.toList [] := by
  unfold ofConst
  split
  · rename_i cs; simp only [V.cells, Value.cells]; exact repL_fn _ (rep_ofZero p) _
  · rename_i hne
    have h1 : (ofZero p u).cells = [ofZero p u] := by
      apply cells_of_not_agg
      intro l; unfold ofZero nilSlice; split
      · cases p <;> simp
      · simp
    have h2 : u.cells.toList = [u] := by cases u <;> simp_all [Value.cells]
    rw [h1, h2]
    simp only [RepL]
    exact ⟨u, [], [], [], rfl, rfl, rep_ofZero p u, rfl, rfl⟩

theorem op_build {t : TypeId} {parts : Array (Nat × Operand)} {xs : List V} {z : V} {ρ : Operand → Value} {O : List Nat} (hz : vbuild P H f t ((parts.toList.map (·.1)).zip xs) = some z)
    (h : RepL w X xs ((parts.toList.map (·.2)).map ρ) O) :
    ∃ v O', (Instr.build t (parts.map fun x => (x.1, ρ x.2))).run P w = .ok v w ∧ Rep w X z v O' ∧ (∀ b, O'.count b ≤ O.count b) := by
  have hxl : xs.length = parts.size := by rw [repL_length _ _ _ h]; simp
  have hzip : (parts.map fun x => (x.1, ρ x.2)).toList = (parts.toList.map (·.1)).zip ((parts.toList.map (·.2)).map ρ) := by
    rw [Array.toList_map, List.map_map, List.zip_map_right, ← List.map_prod_right_eq_zip]
    simp
  unfold vbuild at hz
  split at hz
  · rename_i z0 fields hzero hu
    obtain ⟨i, u, hi, hiz, rfl⟩ := zero_info hzero
    split at hz
    · rename_i places hp
      obtain ⟨cs', hfv, rfl⟩ := Option.map_eq_some_iff.1 hz
      obtain ⟨vals', O', hfill, hr, hc⟩ := fill_rep _ xs _ _ cs' u.cells.toList [] O (by simp [hxl]) hfv h (rep_constCells _ u)
      refine ⟨.agg vals'.toArray, O', run_build w t _ _ ?_, by simp only [Rep]; exact ⟨_, rfl, hr⟩, fun b => by have := hc b; simpa using this⟩
      unfold Program.built
      simp only [hi, hu, hiz, hp, hzip]
      simpa using hfill
    · simp at hz
  · rename_i z0 len elem hzero hu
    obtain ⟨i, u, hi, hiz, rfl⟩ := zero_info hzero
    split at hz
    · rename_i ie hie
      obtain ⟨cs', hfv, rfl⟩ := Option.map_eq_some_iff.1 hz
      obtain ⟨vals', O', hfill, hr, hc⟩ := fill_rep _ xs _ _ cs' u.cells.toList [] O (by simp [hxl]) hfv h (rep_constCells _ u)
      refine ⟨.agg vals'.toArray, O', run_build w t _ _ ?_, by simp only [Rep]; exact ⟨_, rfl, hr⟩, fun b => by have := hc b; simpa using this⟩
      unfold Program.built
      simp only [hi, hu, hiz, hie, hzip]
      simpa using hfill
    · simp at hz
  · simp at hz

/-! ### new blocks -/
theorem heap_alloc_new (w : World) (o : Obj) : (w.alloc o).heap[w.heap.size]? = some o := by
  show (w.heap.push o)[w.heap.size]? = some o
  simp
theorem heap_alloc_old (w : World) (o : Obj) {b : Nat} (h : b < w.heap.size) : (w.alloc o).heap[b]? = w.heap[b]? := by
  show (w.heap.push o)[b]? = w.heap[b]?
  rw [Array.getElem?_push_lt (by simpa using h), Array.getElem?_eq_getElem h]

/-- a new block holds a slice's elements up to e -/
def Cx.new (X : Cx) (b e : Nat) : Cx := { X with ω := fun k => if k = b then some (e, false) else X.ω k }

/-- the same but for what was drawn -/
structure Alike (w w1 : World) : Prop where
  heap : w1.heap = w.heap
  os : w1.os = w.os
  out : w1.output = w.output
  tape : w1.tape = w.tape
theorem Alike.refl (w : World) : Alike w w := ⟨rfl, rfl, rfl, rfl⟩
theorem Alike.drew (w : World) : Alike w w.drew := ⟨rfl, rfl, rfl, rfl⟩
theorem Alike.cell {w w1 : World} (h : Alike w w1) (a : Addr) : w1.cell? a = w.cell? a := by simp [World.cell?, h.heap]

theorem eff_alloc {w1 : World} (ha : Alike w w1) (hd : Dom w X) (o : Obj) (e : Nat) (O : List Nat) : Eff w X (w1.alloc o) (X.new w.heap.size e) O where
  size := by simp [ha.heap]
  kept := fun b hb _ => by rw [heap_alloc_old _ _ (by rw [ha.heap]; exact hb), ha.heap]
  ωk := fun b hb _ => by simp only [Cx.new]; rw [if_neg (by omega)]
  own := fun b _ e' fz hω => by
    have hb := hd b e' fz hω
    refine ⟨e', fz, by simp only [Cx.new]; rw [if_neg (by omega)]; exact hω, Nat.le_refl _, id, fun i v _ hc => ?_, fun c t hc => ⟨c, by rw [heap_alloc_old _ _ (by rw [ha.heap]; exact hb), ha.heap]; exact hc, rfl⟩⟩
    rw [World.cell?_alloc_lt _ _ _ (by rw [ha.heap]; exact hb), ha.cell]; exact hc
  β := rfl
  dom := fun b e' fz hω => by
    simp only [Cx.new] at hω
    split at hω
    · rename_i hb; subst hb; simp [ha.heap]
    · have := hd b e' fz hω; simp [ha.heap]; omega
  os := ha.os
  out := ha.out
  tape := ha.tape

theorem repE_ext {w' : World} {X' : Cx} {Oin : List Nat} (he : Eff w X w' X' Oin) (hd : Dom w X) {s : Nat} {l : List V} {vals : List Value} {O : List Nat} (hp : ptrsL l = []) (hO : ∀ b ∈ O, b ∉ Oin) (h : RepE w X s l vals O) : RepE w' X' s l vals O :=
  RepE.ext (he.ext hd []) s l vals O (by rw [hp]; simp) hO h
theorem seg_alloc {w1 : World} (ha : Alike w w1) (vals rest : List Value) (t : TypeId) : Seg (w1.alloc (.cells (vals ++ rest).toArray t)) w.heap.size 0 vals := by
  intro i v hi
  rw [← ha.heap, World.cell?_alloc_new]
  have hlt := (List.getElem?_eq_some_iff.1 hi).1
  simp only [Nat.zero_add, List.getElem?_toArray]
  rw [List.getElem?_append_left hlt]; exact hi

/-- a slice in a new block, owned -/
theorem rep_new {w1 : World} (ha : Alike w w1) (hd : Dom w X) {s cap : Nat} {l : List V} {vals rest : List Value} {O : List Nat} (t : TypeId) (hp : ptrsL l = []) (hs : 0 < s) (hl : vals.length = l.length * s) (hxs : ∀ x ∈ l, x.cells.length = s)
    (hcap : l.length ≤ cap) (hsz : cap * s ≤ (vals ++ rest).length) (h0 : l.length = 0 → cap = 0) (h : RepE w X s l vals O) (hO : ∀ b ∈ O, b < w.heap.size) :
    Rep (w1.alloc (.cells (vals ++ rest).toArray t)) (X.new w.heap.size vals.length) (.sl .own false l) (.slice (some ⟨w.heap.size, 0, none⟩) l.length cap) (w.heap.size :: O) := by
  have he := eff_alloc ha hd (.cells (vals ++ rest).toArray t) vals.length []
  simp only [Rep]
  refine ⟨hp, .inr ⟨w.heap.size, 0, cap, s, vals, O, rfl, hcap, by simp, hl, hs, hxs, seg_alloc ha vals rest t, ?_, repE_ext he hd hp (by simp) h, fun _ => rfl, fun hn => absurd rfl hn⟩⟩
  refine ⟨vals.length, false, by simp [Cx.new], by simp, rfl, by simp, ⟨_, t, by rw [← ha.heap]; exact heap_alloc_new _ _, by simpa using hsz⟩, fun hz => h0 ?_⟩
  rw [hl] at hz
  rcases Nat.mul_eq_zero.1 hz with h | h <;> omega

mutual
/-- what is owned lies in the world -/
theorem rep_dom (hd : Dom w X) : ∀ (x : V) (v : Value) (O : List Nat), Rep w X x v O → ∀ b ∈ O, b < w.heap.size
  | .undef, _, _, h => by simp only [Rep] at h; simp [h]
  | .val _, _, _, h => by simp only [Rep] at h; simp [h.2]
  | .ptr .., _, _, h => by simp only [Rep] at h; simp [h.1]
  | .yld _, _, _, h => by simp only [Rep] at h; simp [h.1]
  | .cptr _, _, _, h => by simp only [Rep] at h; simp [h.1]
  | .sl f c l, v, O, h => by
    simp only [Rep] at h
    obtain ⟨_, h⟩ := h
    rcases h with ⟨_, h0, _⟩ | ⟨b, off, cap, s, vals, O', _, _, _, _, _, _, _, ⟨e, fz, hω, _⟩, he, ho, ho'⟩
    · simp [h0]
    · have ih := repE_dom hd s l vals O' he
      by_cases hf : f = .own
      · rw [ho hf]
        intro b' hb'
        rcases List.mem_cons.1 hb' with rfl | hb'
        · exact hd _ _ _ hω
        · exact ih _ hb'
      · simp [(ho' hf).1]
  | .fn f a c, v, O, h => by
    simp only [Rep] at h
    obtain ⟨va, vc, O1, O2, _, rfl, h1, h2⟩ := h
    intro b hb
    rcases List.mem_append.1 hb with hb | hb
    · exact repL_dom hd a va O1 h1 b hb
    · exact repL_dom hd c vc O2 h2 b hb
  | .iface t x, v, O, h => by simp only [Rep] at h; obtain ⟨u, _, h1⟩ := h; exact rep_dom hd x u O h1
  | .agg l, v, O, h => by simp only [Rep] at h; obtain ⟨vals, _, h1⟩ := h; exact repL_dom hd l vals O h1
  | .tuple l, v, O, h => by simp only [Rep] at h; obtain ⟨vals, _, h1⟩ := h; exact repL_dom hd l vals O h1
  | .lp .., _, _, h => by simp only [Rep] at h
theorem repL_dom (hd : Dom w X) : ∀ (l : List V) (vals : List Value) (O : List Nat), RepL w X l vals O → ∀ b ∈ O, b < w.heap.size
  | [], _, _, h => by simp only [RepL] at h; simp [h.2]
  | x :: l, vals, O, h => by
    simp only [RepL] at h
    obtain ⟨u, vs, O1, O2, _, rfl, h1, h2⟩ := h
    intro b hb
    rcases List.mem_append.1 hb with hb | hb
    · exact rep_dom hd x u O1 h1 b hb
    · exact repL_dom hd l vs O2 h2 b hb
theorem repE_dom (hd : Dom w X) (s : Nat) : ∀ (l : List V) (vals : List Value) (O : List Nat), RepE w X s l vals O → ∀ b ∈ O, b < w.heap.size
  | [], _, _, h => by simp only [RepE] at h; simp [h.2]
  | x :: l, vals, O, h => by
    simp only [RepE] at h
    obtain ⟨u, vs, O1, O2, _, _, rfl, h1, h2⟩ := h
    intro b hb
    rcases List.mem_append.1 hb with hb | hb
    · exact rep_dom hd x u O1 h1 b hb
    · exact repE_dom hd s l vs O2 h2 b hb
end


theorem repE_append {s : Nat} : ∀ {l l' : List V} {vals vals' : List Value} {O O' : List Nat}, RepE w X s l vals O → RepE w X s l' vals' O' → RepE w X s (l ++ l') (vals ++ vals') (O ++ O')
  | [], _, vals, _, O, _, h, h' => by simp only [RepE] at h; simpa [h.1, h.2] using h'
  | x :: l, _, vals, _, O, _, h, h' => by
    simp only [RepE] at h
    obtain ⟨u, vs, O1, O2, rfl, hs, rfl, h1, h2⟩ := h
    simp only [List.cons_append, RepE]
    exact ⟨u, vs ++ _, O1, O2 ++ _, by simp, hs, by simp, h1, repE_append h2 h'⟩
theorem repE_length {s : Nat} : ∀ {l : List V} {vals : List Value} {O : List Nat}, RepE w X s l vals O → vals.length = l.length * s
  | [], vals, O, h => by simp only [RepE] at h; simp [h.1]
  | x :: l, vals, O, h => by
    simp only [RepE] at h
    obtain ⟨u, vs, O1, O2, rfl, hs, rfl, h1, h2⟩ := h
    simp [repE_length h2, hs, Nat.succ_mul]; omega
theorem repE_ones {s : Nat} : ∀ {l : List V} {vals : List Value} {O : List Nat}, (∀ x ∈ l, x.oks = true) → RepE w X s l vals O → ∀ u ∈ vals, u.oneCell' = true
  | [], vals, O, _, h => by simp only [RepE] at h; simp [h.1]
  | x :: l, vals, O, ha, h => by
    simp only [RepE] at h
    obtain ⟨u, vs, O1, O2, rfl, hs, rfl, h1, h2⟩ := h
    intro y hy
    rcases List.mem_append.1 hy with hy | hy
    · exact (rep_cells (ha x (by simp)) h1).2 y hy
    · exact repE_ones (fun z hz => ha z (by simp [hz])) h2 y hy

theorem ptrsL_append : ∀ (a b : List V), ptrsL (a ++ b) = ptrsL a ++ ptrsL b
  | [], b => rfl
  | x :: a, b => by simp [ptrsL, ptrsL_append a b]
theorem ptrs_cells (x : V) (h : ptrsL x.cells = []) : x.ptrs = [] := by
  cases x <;> simp_all [V.cells, V.ptrs, ptrsL]
theorem ptrsL_take (n : Nat) (l : List V) (h : ptrsL l = []) : ptrsL (l.take n) = [] ∧ ptrsL (l.drop n) = [] := by
  have e : ptrsL (l.take n ++ l.drop n) = [] := by rw [List.take_append_drop]; exact h
  rw [ptrsL_append] at e
  exact List.append_eq_nil_iff.1 e

/-- elements out of cells -/
theorem repE_chunk {agg : Bool} {s : Nat} (hs : agg = false → s = 1) : ∀ (n : Nat) (cs : List V) (vals : List Value) (O : List Nat), cs.length = n * s → cs.all V.one = true → ptrsL cs = [] → RepL w X cs vals O →
    ∃ O', RepE w X s (chunk agg s n cs) vals O' ∧ (∀ b, O'.count b ≤ O.count b) ∧ ptrsL (chunk agg s n cs) = [] ∧ (∀ x ∈ chunk agg s n cs, x.cells.length = s)
  | 0, cs, vals, O, hl, _, _, h => by
    have : cs = [] := by apply List.eq_nil_of_length_eq_zero; simpa using hl
    subst this
    simp only [RepL] at h
    exact ⟨[], by simp [chunk, RepE, h.1], fun b => by simp, rfl, by simp [chunk]⟩
  | n + 1, cs, vals, O, hl, ho, hp, h => by
    have hvl := repL_length _ _ _ h
    obtain ⟨O1, O2, rfl, h1, h2⟩ := repL_split s h
    rw [Nat.succ_mul] at hl
    have hall : ∀ x ∈ cs, x.one = true := by simpa [List.all_eq_true] using ho
    obtain ⟨O2', hE, hc, hp', hx⟩ := repE_chunk hs n (cs.drop s) (vals.drop s) O2 (by simp [hl]) (by rw [List.all_eq_true]; intro x hx; exact hall x (List.mem_of_mem_drop hx)) (ptrsL_take s cs hp).2 h2
    have hvs : vals = vals.take s ++ vals.drop s := (List.take_append_drop s vals).symm
    have htl : (vals.take s).length = s := by rw [List.length_take, ← hvl, hl]; omega
    cases agg with
    | true =>
      refine ⟨O1 ++ O2', ?_, fun b => by have := hc b; simp only [count_app]; omega, ?_, ?_⟩
      · simp only [chunk, RepE, if_true]
        refine ⟨.agg (vals.take s).toArray, vals.drop s, O1, O2', by simp [Value.cells], by simpa [Value.cells] using htl, rfl, by simp only [Rep]; exact ⟨_, rfl, h1⟩, hE⟩
      · simp only [chunk, ptrsL, if_true, V.ptrs, hp', (ptrsL_take s cs hp).1, List.append_nil]
      · simp only [chunk, if_true]
        intro x hx'
        rcases List.mem_cons.1 hx' with rfl | hx'
        · simp [V.cells, hl]
        · exact hx x hx'
    | false =>
      have hs1 := hs rfl
      subst hs1
      cases cs with
      | nil => simp at hl
      | cons y cs =>
        have hy1 : y.one = true := hall y (by simp)
        have hyc : y.cells = [y] := cells_of_not_agg (fun l e => by subst e; simp [V.one] at hy1)
        simp only [RepL] at h
        obtain ⟨u, vs, A, B, rfl, hO, hu, hvs'⟩ := h
        have hu1 := rep_one hy1 hu
        simp only [List.take_succ_cons, List.take_zero, RepL] at h1
        obtain ⟨u', vs', A', B', he, rfl, hu', hn, hb⟩ := h1
        simp at he
        obtain ⟨rfl, rfl⟩ := he
        refine ⟨A' ++ O2', ?_, fun b => by have := hc b; simp only [count_app]; omega, ?_, ?_⟩
        · simp only [chunk, RepE, Bool.false_eq_true, if_false, List.headD_cons]
          refine ⟨u, vs, A', O2', by simp [cells_of_one hu1], by simp [cells_of_one hu1], rfl, hu', by simpa using hE⟩
        · simp only [chunk, ptrsL, Bool.false_eq_true, if_false, List.headD_cons, hp', List.append_nil]
          have : ptrsL [y] = [] := by have := (ptrsL_take 1 (y :: cs) hp).1; simpa using this
          simpa [ptrsL] using this
        · simp only [chunk, Bool.false_eq_true, if_false, List.headD_cons]
          intro x hx'
          rcases List.mem_cons.1 hx' with rfl | hx'
          · simp [hyc]
          · exact hx x hx'

theorem cyc (l : List Value) (hl : 0 < l.length) : ∀ n, ((Array.range (n * l.length)).map (l.toArray[· % l.toArray.size]!)).toList = (List.replicate n l).flatten
  | 0 => by simp
  | n + 1 => by
    have ih := cyc l hl n
    simp only [Array.toList_map, Array.toList_range] at ih ⊢
    rw [Nat.succ_mul, Nat.add_comm, List.range_add, List.map_append, List.map_map]
    rw [List.replicate_succ, List.flatten_cons, ← ih]
    congr 1
    · apply List.ext_getElem
      · simp
      · intro i h1 h2
        simp at h1
        simp [Nat.mod_eq_of_lt h1, h1]
    · apply List.map_congr_left
      intro i _
      simp [Function.comp]

theorem repL_replicate {cs : List V} {vals : List Value} (h : RepL w X cs vals []) : ∀ n, RepL w X (List.replicate n cs).flatten (List.replicate n vals).flatten []
  | 0 => by simp [RepL]
  | n + 1 => by
    simp only [List.replicate_succ, List.flatten_cons]
    exact repL_append h (repL_replicate h n)

theorem fillV_length {place : Nat → Option (Nat × Nat)} : ∀ (ps : List (Nat × V)) (cs cs' : List V), fillV place cs ps = some cs' → cs'.length = cs.length
  | [], cs, cs', h => by simp only [fillV, Option.some.injEq] at h; rw [h]
  | (i, v) :: ps, cs, cs', h => by
    simp only [fillV] at h
    split at h
    · simp at h
    · split at h
      · simp at h
      · rename_i hc
        simp only [not_or, Decidable.not_not, Nat.not_lt, gt_iff_lt] at hc
        rw [fillV_length ps _ _ h]
        simp [splice]; omega

theorem op_buildSlice {t : TypeId} {len : Nat} {parts : Array (Nat × Operand)} {xs : List V} {z : V} {ρ : Operand → Value} {O : List Nat} (hd : Dom w X) (hlin : Lin O) (hz : vbuildSlice P H f t len ((parts.toList.map (·.1)).zip xs) = some z)
    (h : RepL w X xs ((parts.toList.map (·.2)).map ρ) O) :
    OpOk P (do pure (Next.value (← Instr.buildSlice t len (parts.map fun x => (x.1, ρ x.2))))) w X z O := by
  have hxl : xs.length = parts.size := by rw [repL_length _ _ _ h]; simp
  have hzip : (parts.map fun x => (x.1, ρ x.2)).toList = (parts.toList.map (·.1)).zip ((parts.toList.map (·.2)).map ρ) := by
    rw [Array.toList_map, List.map_map, List.zip_map_right, ← List.map_prod_right_eq_zip]
    simp
  unfold vbuildSlice at hz
  split at hz
  · rename_i elem hu
    split at hz
    · rename_i ie z0 hie hzero
      obtain ⟨i, u, hi, hiz, rfl⟩ := zero_info hzero
      obtain rfl : i = ie := by rw [hi] at hie; exact Option.some.inj hie
      split at hz
      · simp at hz
      · rename_i hc
        simp only [not_or, not_and, Decidable.not_not, Nat.not_lt, gt_iff_lt] at hc
        obtain ⟨hs0, hs1, hzl, hsmall⟩ := hc
        split at hz
        · rename_i cs' hfv
          split at hz
          · rename_i hones
            obtain ⟨hone, hptr⟩ := hones
            simp only [Option.some.injEq] at hz; subst hz
            have hcz := rep_constCells (w := w) (X := X) (H.precise f) u
            have hul : u.cells.toList.length = i.size := by rw [← repL_length _ _ _ hcz]; exact hzl
            obtain ⟨vals', O', hfill, hr, hcnt⟩ := fill_rep _ xs _ _ cs' _ [] O (by simp [hxl]) hfv h (repL_replicate hcz len)
            have hcl : cs'.length = len * i.size := by
              rw [fillV_length _ _ _ hfv]
              simp [List.length_flatten, hzl]
            have hptr' : ptrsL cs' = [] := by simpa using hptr
            obtain ⟨O'', hE, hc2, hp2, hx2⟩ := repE_chunk (agg := isAggT P elem) (fun hh => hs1 hh) len cs' vals' O' hcl hone hptr' hr
            have hvl : vals'.length = len * i.size := by rw [← repL_length _ _ _ hr]; exact hcl
            have hchl : ∀ (n : Nat) (cs : List V), (chunk (isAggT P elem) i.size n cs).length = n := by
              intro n; induction n with
              | zero => intro cs; rfl
              | succ n ih => intro cs; simp [chunk, ih]
            have hrun : (Instr.buildSlice t len (parts.map fun x => (x.1, ρ x.2))).run P w = .ok (.slice (some ⟨w.heap.size, 0, none⟩) len len) (w.alloc (.cells vals'.toArray elem)) := by
              have hcy : ((Array.range (len * i.size)).map (u.cells[· % u.cells.size]!)) = (List.replicate len u.cells.toList).flatten.toArray := by
                apply Array.ext'
                have := cyc u.cells.toList (by omega) len
                rw [hul] at this
                simpa [hul] using this
              by_cases hpos : len * i.size = 0
              · have hlen : len = 0 := by rcases Nat.mul_eq_zero.1 hpos with h | h <;> omega
                subst hlen
                have hf2 : Instr.fill (fun j => some (j * i.size, i.size)) #[] (parts.map fun x => (x.1, ρ x.2)).toList = some vals'.toArray := by rw [hzip]; simpa using hfill
                have e0 : Array.range 0 = #[] := by apply Array.ext'; simp
                rw [Array.toList_map] at hf2
                simp [Instr.buildSlice, run_underlying hu, sizeOf, typeInfo, hi, newRow, e0, hf2]
              · refine run_buildSlice w t elem len _ _ i u hu hi hiz (by omega) hpos ?_
                rw [hcy, hzip]; exact hfill
            have hO'' : ∀ b ∈ O'', b ∈ O := fun b hb => by
              have h1 := List.count_pos_iff.2 hb; have h2 := hc2 b; have h3 := hcnt b
              simp only [List.count_nil] at h3
              exact List.count_pos_iff.1 (by omega)
            have hO : ∀ b ∈ O, b < w.heap.size := repL_dom hd xs _ O h
            have hrep := rep_new (rest := []) (cap := len) (Alike.refl w) hd elem hp2 (Nat.pos_of_ne_zero hs0) (by rw [hchl]; exact hvl) hx2 (by rw [hchl]; exact Nat.le_refl _) (by simp [hvl]) (by rw [hchl]; exact id) hE (fun b hb => hO b (hO'' b hb))
            rw [hchl] at hrep
            refine ⟨_, _, _, w.heap.size :: O'', sem_v hrun, ?_, by simpa using hrep, ?_, ?_⟩
            · simpa using eff_alloc (Alike.refl w) hd (.cells vals'.toArray elem) vals'.length O
            · intro b
              rw [List.count_cons]
              have h2 := hc2 b; have h3 := hcnt b; have h4 := hlin b
              simp only [List.count_nil] at h3
              split
              · rename_i hb
                have hb : w.heap.size = b := by simpa using hb
                have : O''.count b = 0 := by
                  apply List.count_eq_zero.2
                  intro hm; have := hO b (hO'' b hm); omega
                omega
              · omega
            · intro b hb
              rcases List.mem_cons.1 hb with rfl | hb
              · exact .inr (Nat.le_refl _)
              · exact .inl (hO'' b hb)
          · simp at hz
        · simp at hz
    · simp at hz
  · simp at hz
end Go.Ab
