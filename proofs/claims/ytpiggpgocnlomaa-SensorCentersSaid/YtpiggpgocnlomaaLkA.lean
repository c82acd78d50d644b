/-
  A STORE INTO AN OWNER's ELEMENTS: what becomes of the owner's value, and of all others.
-/
import Derived.Test.YtpiggpgocnlomaaAbT
set_option linter.unusedVariables false
namespace Go.Ab
open Go
variable {P : Program} {w w' : World} {X : Cx}

/-- cells of an owner's block are written -/
structure Wrote (w : World) (X : Cx) (w' : World) (b : Nat) : Prop where
  ω : ∃ e, X.ω b = some (e, false)
  kept : ∀ k, k ≠ b → w'.heap[k]? = w.heap[k]?

mutual
theorem Rep.other {b : Nat} (h : Wrote w X w' b) : ∀ (x : V) (v : Value) (O : List Nat), x.soft = false → b ∉ O → Rep w X x v O → Rep w' X x v O
  | .undef, _, _, _, _, hr => by simpa only [Rep] using hr
  | .val _, _, _, _, _, hr => by simpa only [Rep] using hr
  | .ptr .., _, _, _, _, hr => by simpa only [Rep] using hr
  | .yld _, _, _, _, _, hr => by simpa only [Rep] using hr
  | .cptr _, _, _, hs, _, _ => by simp [V.soft] at hs
  | .sl f c l, v, O, hs, hb, hr => by
    simp only [V.soft, Bool.or_eq_false_iff] at hs
    obtain ⟨hs1, hs2⟩ := hs
    simp only [Rep] at hr ⊢
    obtain ⟨hnp, hr⟩ := hr
    refine ⟨hnp, ?_⟩
    rcases hr with hr | ⟨b1, off, cap, s, vals, O', hv, hcap, hc, hlen, hs0, hxs, hsg, hf, he, ho, ho'⟩
    · exact .inl hr
    · have hne : l ≠ [] ∨ f = .own → b1 ≠ b := by
        intro hor e
        subst e
        obtain ⟨e0, hω0⟩ := h.ω
        obtain ⟨e1, fz, hω1, _, hm⟩ := hf
        rw [hω0] at hω1; cases hω1
        cases f with
        | own => exact hb (by rw [ho rfl]; simp)
        | shared => cases hm
        | dull =>
          rcases hor with hl | hl
          · cases l with
            | nil => exact hl rfl
            | cons a l => simp at hs1
          · cases hl
      refine .inr ⟨b1, off, cap, s, vals, O', hv, hcap, hc, hlen, hs0, hxs, ?_, ?_, RepE.other h s l vals O' hs2 ?_ he, ho, ho'⟩
      · intro i u hi
        cases l with
        | nil =>
          have : vals = [] := List.eq_nil_of_length_eq_zero (by simpa using hlen)
          subst this; simp at hi
        | cons a l =>
          have := hne (.inl (by simp))
          rw [cell_of_heap (h.kept b1 this)]; exact hsg i u hi
      · obtain ⟨e1, fz, hω1, hle, hm⟩ := hf
        refine ⟨e1, fz, hω1, hle, ?_⟩
        cases f with
        | own =>
          obtain ⟨h1, h2, ⟨c', t, h3, h4⟩, h5⟩ := hm
          exact ⟨h1, h2, ⟨c', t, by rw [h.kept b1 (hne (.inr rfl))]; exact h3, h4⟩, h5⟩
        | dull => trivial
        | shared => exact hm
      · intro hb'
        by_cases hown : f = .own
        · exact hb (by rw [ho hown]; simp [hb'])
        · rw [(ho' hown).2] at hb'; simp at hb'
  | .fn f a c, v, O, hs, hb, hr => by
    simp only [V.soft, Bool.or_eq_false_iff] at hs
    simp only [Rep] at hr ⊢
    obtain ⟨va, vc, O1, O2, hv, rfl, h1, h2⟩ := hr
    simp only [List.mem_append, not_or] at hb
    exact ⟨va, vc, O1, O2, hv, rfl, RepL.other h a va O1 hs.1 hb.1 h1, RepL.other h c vc O2 hs.2 hb.2 h2⟩
  | .iface t x, v, O, hs, hb, hr => by
    simp only [V.soft] at hs
    simp only [Rep] at hr ⊢
    obtain ⟨u, hv, h1⟩ := hr
    exact ⟨u, hv, Rep.other h x u O hs hb h1⟩
  | .agg l, v, O, hs, hb, hr => by
    simp only [V.soft] at hs
    simp only [Rep] at hr ⊢
    obtain ⟨vals, hv, h1⟩ := hr
    exact ⟨vals, hv, RepL.other h l vals O hs hb h1⟩
  | .tuple l, v, O, hs, hb, hr => by
    simp only [V.soft] at hs
    simp only [Rep] at hr ⊢
    obtain ⟨vals, hv, h1⟩ := hr
    exact ⟨vals, hv, RepL.other h l vals O hs hb h1⟩
  | .lp .., _, _, _, _, hr => by simp only [Rep] at hr
theorem RepL.other {b : Nat} (h : Wrote w X w' b) : ∀ (l : List V) (vals : List Value) (O : List Nat), softL l = false → b ∉ O → RepL w X l vals O → RepL w' X l vals O
  | [], _, _, _, _, hr => by simpa only [RepL] using hr
  | x :: l, vals, O, hs, hb, hr => by
    simp only [softL, Bool.or_eq_false_iff] at hs
    simp only [RepL] at hr ⊢
    obtain ⟨u, vs, O1, O2, hv, rfl, h1, h2⟩ := hr
    simp only [List.mem_append, not_or] at hb
    exact ⟨u, vs, O1, O2, hv, rfl, Rep.other h x u O1 hs.1 hb.1 h1, RepL.other h l vs O2 hs.2 hb.2 h2⟩
theorem RepE.other {b : Nat} (h : Wrote w X w' b) (s : Nat) : ∀ (l : List V) (vals : List Value) (O : List Nat), softL l = false → b ∉ O → RepE w X s l vals O → RepE w' X s l vals O
  | [], _, _, _, _, hr => by simpa only [RepE] using hr
  | x :: l, vals, O, hs, hb, hr => by
    simp only [softL, Bool.or_eq_false_iff] at hs
    simp only [RepE] at hr ⊢
    obtain ⟨u, vs, O1, O2, hv, hsz, rfl, h1, h2⟩ := hr
    simp only [List.mem_append, not_or] at hb
    exact ⟨u, vs, O1, O2, hv, hsz, rfl, Rep.other h x u O1 hs.1 hb.1 h1, RepE.other h s l vs O2 hs.2 hb.2 h2⟩
end

theorem softL_mem {l : List V} (h : softL l = false) : ∀ x ∈ l, x.soft = false := by
  induction l with
  | nil => simp
  | cons a l ih =>
    simp only [softL, Bool.or_eq_false_iff] at h
    intro x hx
    rcases List.mem_cons.1 hx with rfl | hx
    · exact h.1
    · exact ih h.2 x hx
theorem softL_of {l : List V} (h : ∀ x ∈ l, x.soft = false) : softL l = false := by
  induction l with
  | nil => rfl
  | cons a l ih =>
    simp only [softL, Bool.or_eq_false_iff]
    exact ⟨h a (by simp), ih fun x hx => h x (by simp [hx])⟩

/-! ### one of many changes -/
theorem RepE.hole {s : Nat} : ∀ {l : List V} {vals : List Value} {O : List Nat} (j : Nat) {e : V}, RepE w X s l vals O → l[j]? = some e →
    ∃ u O1 Oe O2, O = O1 ++ Oe ++ O2 ∧ Rep w X e u Oe ∧ u.cells.size = s ∧ (∀ i, i < s → vals[j * s + i]? = u.cells.toList[i]?) ∧ j * s + s ≤ vals.length ∧
      ∀ (w' : World) (b : Nat) (e' : V) (u' : Value) (Oe' : List Nat), Wrote w X w' b → b ∉ O1 → b ∉ O2 → softL (l.set j e') = false → Rep w' X e' u' Oe' → u'.cells.size = s →
        ∃ vals', RepE w' X s (l.set j e') vals' (O1 ++ Oe' ++ O2) ∧ vals'.length = vals.length ∧ ∀ i, vals'[i]? = if j * s ≤ i ∧ i < j * s + s then u'.cells.toList[i - j * s]? else vals[i]?
  | [], vals, O, j, e, h, hj => by simp at hj
  | y :: l, vals, O, 0, e, h, hj => by
    simp only [RepE] at h
    obtain ⟨u, vs, A, B, rfl, hsz, rfl, h1, h2⟩ := h
    simp at hj; subst hj
    have hl : u.cells.toList.length = s := by simpa using hsz
    refine ⟨u, [], A, B, by simp, h1, hsz, fun i hi => ?_, by simp [hsz], fun w' b e' u' Oe' hw hb1 hb2 hs hr hsz' => ?_⟩
    · rw [Nat.zero_mul, Nat.zero_add, List.getElem?_append_left (by omega)]
    · simp only [List.set_cons_zero, softL, Bool.or_eq_false_iff] at hs
      have hl' : u'.cells.toList.length = s := by simpa using hsz'
      refine ⟨u'.cells.toList ++ vs, ?_, by simp [hsz, hsz'], fun i => ?_⟩
      · simp only [List.set_cons_zero, RepE, List.nil_append]
        exact ⟨u', vs, Oe', B, rfl, hsz', rfl, hr, RepE.other hw s l vs B hs.2 hb2 h2⟩
      · simp only [Nat.zero_mul, Nat.zero_add, Nat.zero_le, true_and, Nat.sub_zero]
        split
        · rw [List.getElem?_append_left (by omega)]
        · rw [List.getElem?_append_right (by omega), List.getElem?_append_right (by omega), hl, hl']
  | y :: l, vals, O, j + 1, e, h, hj => by
    simp only [RepE] at h
    obtain ⟨u0, vs, A, B, rfl, hsz0, rfl, h1, h2⟩ := h
    obtain ⟨u, O1, Oe, O2, rfl, hr, hsz, hc, hle, hk⟩ := RepE.hole (j := j) h2 (by simpa using hj)
    have hl : u0.cells.toList.length = s := by simpa using hsz0
    refine ⟨u, A ++ O1, Oe, O2, by simp, hr, hsz, fun i hi => ?_, by rw [List.length_append, hl, Nat.succ_mul]; omega, fun w' b e' u' Oe' hw hb1 hb2 hs hr' hsz' => ?_⟩
    · rw [show (j + 1) * s + i = s + (j * s + i) by rw [Nat.succ_mul]; omega, List.getElem?_append_right (by omega), hl, Nat.add_sub_cancel_left]
      exact hc i hi
    · simp only [List.set_cons_succ, softL, Bool.or_eq_false_iff] at hs
      simp only [List.mem_append, not_or] at hb1
      obtain ⟨vals', h3, h4, h5⟩ := hk w' b e' u' Oe' hw hb1.2 hb2 hs.2 hr' hsz'
      refine ⟨u0.cells.toList ++ vals', ?_, by simp [h4], fun i => ?_⟩
      · simp only [List.set_cons_succ, RepE]
        exact ⟨u0, vals', A, O1 ++ Oe' ++ O2, rfl, hsz0, by simp, Rep.other hw y u0 A hs.1 hb1.1 h1, h3⟩
      · rw [Nat.succ_mul]
        by_cases hi : i < s
        · rw [if_neg (by omega), List.getElem?_append_left (by omega), List.getElem?_append_left (by omega)]
        · rw [List.getElem?_append_right (by omega), List.getElem?_append_right (by omega), h5 (i - u0.cells.toList.length), hl]
          by_cases h6 : j * s ≤ i - s ∧ i - s < j * s + s
          · rw [if_pos h6, if_pos (by omega)]
            congr 1; omega
          · rw [if_neg h6, if_neg (by omega)]

theorem RepL.hole : ∀ {l : List V} {vals : List Value} {O : List Nat} (j : Nat) {z : V}, RepL w X l vals O → l[j]? = some z →
    ∃ u O1 Oz O2, O = O1 ++ Oz ++ O2 ∧ Rep w X z u Oz ∧ vals[j]? = some u ∧
      ∀ (w' : World) (b : Nat) (z' : V) (Oz' : List Nat), Wrote w X w' b → b ∉ O1 → b ∉ O2 → softL (l.set j z') = false → Rep w' X z' u Oz' → RepL w' X (l.set j z') vals (O1 ++ Oz' ++ O2)
  | [], vals, O, j, z, h, hj => by simp at hj
  | y :: l, vals, O, 0, z, h, hj => by
    simp only [RepL] at h
    obtain ⟨u, vs, A, B, rfl, rfl, h1, h2⟩ := h
    simp at hj; subst hj
    refine ⟨u, [], A, B, by simp, h1, by simp, fun w' b z' Oz' hw hb1 hb2 hs hr => ?_⟩
    simp only [List.set_cons_zero, softL, Bool.or_eq_false_iff] at hs
    simp only [List.set_cons_zero, RepL, List.nil_append]
    exact ⟨u, vs, Oz', B, rfl, rfl, hr, RepL.other hw l vs B hs.2 hb2 h2⟩
  | y :: l, vals, O, j + 1, z, h, hj => by
    simp only [RepL] at h
    obtain ⟨u0, vs, A, B, rfl, rfl, h1, h2⟩ := h
    obtain ⟨u, O1, Oz, O2, rfl, hr, hv, hk⟩ := RepL.hole (j := j) h2 (by simpa using hj)
    refine ⟨u, A ++ O1, Oz, O2, by simp, hr, by simpa using hv, fun w' b z' Oz' hw hb1 hb2 hs hr' => ?_⟩
    simp only [List.set_cons_succ, softL, Bool.or_eq_false_iff] at hs
    simp only [List.mem_append, not_or] at hb1
    simp only [List.set_cons_succ, RepL]
    exact ⟨u0, vs, A, O1 ++ Oz' ++ O2, rfl, by simp, Rep.other hw y u0 A hs.1 hb1.1 h1, hk w' b z' Oz' hw hb1.2 hb2 hs.2 hr'⟩

/-! ### an element of new cells -/
theorem one_cells {c : V} (h : c.one = true) : c.cells = [c] := by cases c <;> first | rfl | (simp [V.one] at h)
theorem recell_agg {e : V} {cs : List V} (h : ∃ l, e = .agg l) : recell e cs = .agg cs := by obtain ⟨l, rfl⟩ := h; rfl
theorem recell_one {e : V} {cs : List V} (h : ∀ l, e ≠ .agg l) : recell e cs = cs.headD .undef := by cases e <;> first | rfl | exact absurd rfl (h _)
theorem rep_recell {e : V} {cs : List V} {vals : List Value} {O : List Nat} (hlen : cs.length = e.cells.length) (hone : cs.all V.one = true) (h : RepL w X cs vals O) :
    ∃ u, Rep w X (recell e cs) u O ∧ u.cells.toList = vals ∧ (recell e cs).cells = cs ∧ (recell e cs).soft = softL cs ∧ (recell e cs).ptrs = ptrsL cs ∧ (recell e cs).oks = true := by
  by_cases hx : ∃ l, e = .agg l
  · rw [recell_agg hx]
    refine ⟨.agg vals.toArray, ?_, by simp [Value.cells], rfl, by simp [V.soft], by simp [V.ptrs], by simpa [V.oks, V.cells] using hone⟩
    simp only [Rep]; exact ⟨vals, rfl, h⟩
  · have hx' : ∀ l, e ≠ .agg l := fun l e' => hx ⟨l, e'⟩
    rw [cells_of_not_agg hx'] at hlen
    rw [recell_one hx']
    match cs, hlen with
    | [c], _ =>
      simp only [List.all_cons, List.all_nil, Bool.and_true] at hone
      simp only [RepL] at h
      obtain ⟨u, vs, O1, O2, rfl, rfl, h1, rfl, rfl⟩ := h
      refine ⟨u, by simpa using h1, by rw [cells_of_one (rep_one hone h1)], one_cells hone, by simp [softL], by simp [ptrsL], ?_⟩
      show c.oks = true
      unfold V.oks; rw [one_cells hone]; simp [hone]

/-! ### paths in memory -/
def SlF (w : World) : Value → Path → Value → Prop
  | v, [], u => u = v
  | v, (j, o, s) :: p, u => ∃ b off len cap z, v = .slice (some ⟨b, off, none⟩) len cap ∧ j < len ∧ w.cell? ⟨b, off + j * s + o, none⟩ = some z ∧ SlF w z p u
theorem SlF.snoc {j o s : Nat} {z : Value} {b off len cap : Nat} : ∀ {p : Path} {v : Value}, SlF w v p (.slice (some ⟨b, off, none⟩) len cap) → j < len → w.cell? ⟨b, off + j * s + o, none⟩ = some z → SlF w v (p ++ [(j, o, s)]) z
  | [], v, h, hj, hc => by
    simp only [SlF] at h; subst h
    exact ⟨b, off, len, cap, z, rfl, hj, hc, rfl⟩
  | (j1, o1, s1) :: p, v, h, hj, hc => by
    simp only [SlF] at h
    obtain ⟨b1, off1, len1, cap1, z1, h1, h2, h3, h4⟩ := h
    exact ⟨b1, off1, len1, cap1, z1, h1, h2, h3, SlF.snoc h4 hj hc⟩

/-! ### rows of values of which some are replaced -/
theorem spliceV_at {α : Type} {cs new : List α} {off : Nat} (h : off + new.length ≤ cs.length) (i : Nat) : (cs.take off ++ new ++ cs.drop (off + new.length))[i]? = if off ≤ i ∧ i < off + new.length then new[i - off]? else cs[i]? := by
  have h1 : (cs.take off).length = off := by simp; omega
  by_cases hi : i < off
  · rw [if_neg (by omega), List.append_assoc, List.getElem?_append_left (by omega), List.getElem?_take, if_pos hi]
  · by_cases hj : i < off + new.length
    · rw [if_pos ⟨by omega, hj⟩, List.getElem?_append_left (by simp; omega), List.getElem?_append_right (by omega), h1]
    · rw [if_neg (by omega), List.getElem?_append_right (by simp; omega), List.getElem?_drop]
      congr 1
      simp; omega

/-- an owner with an element, opened -/
theorem own_open {c : Bool} {l : List V} {v : Value} {O : List Nat} {j s : Nat} {e : V} (h : Rep w X (.sl .own c l) v O) (he : l[j]? = some e) (hs : e.cells.length = s) :
    ∃ b off cap vals O', v = .slice (some ⟨b, off, none⟩) l.length cap ∧ O = b :: O' ∧ l.length ≤ cap ∧ (c = true → cap = l.length) ∧ vals.length = l.length * s ∧ 0 < s ∧ (∀ x ∈ l, x.cells.length = s) ∧ Seg w b off vals ∧
      X.ω b = some (off + vals.length, false) ∧ Spare w b off cap s ∧ (vals.length = 0 → cap = 0) ∧ RepE w X s l vals O' ∧ ptrsL l = [] := by
  simp only [Rep] at h
  obtain ⟨hnp, h⟩ := h
  rcases h with ⟨rfl, _⟩ | ⟨b, off, cap, s', vals, O', hv, hcap, hc, hlen, hs0, hxs, hsg, ⟨e1, fz, hω, hle, h1, h2, h3, h4⟩, hE, ho, _⟩
  · simp at he
  · have : s' = s := by rw [← hs]; exact (hxs e (List.mem_of_getElem? he)).symm
    subst this
    subst h1
    exact ⟨b, off, cap, vals, O', hv, ho trivial, hcap, hc, hlen, hs0, hxs, hsg, by rw [hω, h2], h3, h4, hE, hnp⟩

theorem own_close {c : Bool} {l : List V} {j s b off cap : Nat} {e' : V} {vals vals' : List Value} {O'' : List Nat} (hcap : l.length ≤ cap) (hc : c = true → cap = l.length) (hlen : vals.length = l.length * s) (hs0 : 0 < s) (hxs : ∀ x ∈ l, x.cells.length = s)
    (hω : X.ω b = some (off + vals.length, false)) (h0 : vals.length = 0 → cap = 0) (hnp : ptrsL l = []) (he : e'.cells.length = s) (hep : e'.ptrs = []) (hlen' : vals'.length = vals.length) (hsg : Seg w' b off vals') (hsp : Spare w' b off cap s) (hE : RepE w' X s (l.set j e') vals' O'') :
    Rep w' X (.sl .own c (l.set j e')) (.slice (some ⟨b, off, none⟩) l.length cap) (b :: O'') := by
  simp only [Rep, List.length_set]
  refine ⟨?_, .inr ⟨b, off, cap, s, vals', O'', rfl, hcap, hc, by rw [hlen', hlen], hs0, ?_, hsg, ⟨off + vals.length, false, hω, by omega, rfl, by omega, hsp, fun h => h0 (by omega)⟩, hE, fun _ => rfl, fun h => absurd rfl h⟩⟩
  · rw [List.eq_nil_iff_forall_not_mem]
    intro r hr
    obtain ⟨x, hx, hr1⟩ := mem_ptrsL.1 hr
    rcases List.mem_or_eq_of_mem_set hx with hx | rfl
    · have : r ∈ ptrsL l := mem_ptrsL.2 ⟨x, hx, hr1⟩
      rw [hnp] at this; simp at this
    · rw [hep] at hr1; simp at hr1
  · intro x hx
    rcases List.mem_or_eq_of_mem_set hx with hx | rfl
    · exact hxs x hx
    · exact he

theorem ptrs_noelem {l : List V} (h : ptrsL l = []) {e : V} (he : e ∈ l) : e.ptrs = [] := by
  rw [List.eq_nil_iff_forall_not_mem]
  intro r hr
  have : r ∈ ptrsL l := mem_ptrsL.2 ⟨e, he, hr⟩
  rw [h] at this; simp at this
theorem ptrsL_nil_of {l : List V} (h : ∀ x ∈ l, x.ptrs = []) : ptrsL l = [] := by
  rw [List.eq_nil_iff_forall_not_mem]
  intro r hr
  obtain ⟨x, hx, hr⟩ := mem_ptrsL.1 hr
  rw [h x hx] at hr; simp at hr
theorem cells_ptrs {e : V} (h : e.ptrs = []) : ptrsL e.cells = [] := by
  cases e <;> simp_all [V.cells, V.ptrs, ptrsL]

theorem upd_ok {ys : List V} {yv : List Value} {Oy : List Nat} (hyr : RepL w X ys yv Oy) (hyone : ys.all V.one = true) (hyp : ptrsL ys = []) {j o s : Nat} : ∀ (p : Path) (x y : V) (v : Value) (O : List Nat) {b off len cap : Nat},
    updF ys (p ++ [(j, o, s)]) x = some y → y.soft = false → Rep w X x v O → Lin (O ++ Oy) → SlF w v p (.slice (some ⟨b, off, none⟩) len cap) →
    b ∈ O ∧ j < len ∧ (∃ e, X.ω b = some (e, false)) ∧ (∃ arr ty, w.heap[b]? = some (.cells arr ty (0, 0)) ∧ off + j * s + o + ys.length ≤ arr.size) ∧ y.one = true ∧ y.ptrs = [] ∧
    ∀ w', Wrote w X w' b → (∀ i, w'.cell? ⟨b, i, none⟩ = if off + j * s + o ≤ i ∧ i < off + j * s + o + ys.length then yv[i - (off + j * s + o)]? else w.cell? ⟨b, i, none⟩) →
      (∀ c t, w.heap[b]? = some (.cells c t (0, 0)) → ∃ c', w'.heap[b]? = some (.cells c' t (0, 0)) ∧ c'.size = c.size) → ∃ O', Rep w' X y v O' ∧ ∀ k, O'.count k ≤ O.count k + Oy.count k
  | [], x, y, v, O, b, off, len, cap, hu, hsoft, hr, hlin, hsl => by
    simp only [List.nil_append] at hu
    simp only [SlF] at hsl
    unfold updF at hu
    split at hu
    · rename_i heq; cases heq
    · rename_i j' o' s' p' c l heq
      simp only [List.cons.injEq, Prod.mk.injEq] at heq
      obtain ⟨⟨rfl, rfl, rfl⟩, rfl⟩ := heq
      split at hu
      · rename_i e he
        split at hu
        · rename_i hck
          obtain ⟨hes, hok⟩ := hck
          simp only at hu
          split at hu
          · rename_i hle
            simp only [Option.some.injEq] at hu
            subst hu
            obtain ⟨b1, off1, cap1, vals, O1, rfl, rfl, hcap, hc, hlen, hs0, hxs, hsg, hω, hsp, h0, hE, hnp⟩ := own_open hr he hes
            cases hsl
            obtain ⟨u, A, Oe, B, rfl, hre, husz, hval, hjle, hclose⟩ := RepE.hole j hE he
            obtain ⟨hcells, _⟩ := rep_cells hok hre
            have hjl : j < l.length := (List.getElem?_eq_some_iff.1 he).1
            have hul : u.cells.toList.length = s := by simpa using husz
            have hyl : yv.length = ys.length := (repL_length _ _ _ hyr).symm
            have hbig : off + j * s + o + ys.length ≤ off + cap * s := by
              have : (j + 1) * s ≤ cap * s := Nat.mul_le_mul_right s (by omega)
              rw [Nat.succ_mul] at this; omega
            obtain ⟨arr, ty, harr, hsize⟩ := hsp
            have hone : (splice e.cells o ys).all V.one = true := by
              rw [List.all_eq_true]
              intro z hz
              unfold splice at hz
              simp only [List.mem_append] at hz
              have hok' : ∀ z ∈ e.cells, z.one = true := List.all_eq_true.1 hok
              rcases hz with (hz | hz) | hz
              · exact hok' z (List.mem_of_mem_take hz)
              · exact List.all_eq_true.1 hyone z hz
              · exact hok' z (List.mem_of_mem_drop hz)
            have hlen2 : (splice e.cells o ys).length = e.cells.length := splice_length (by omega)
            have hep : ∀ z ∈ splice e.cells o ys, z.ptrs = [] := by
              intro z hz
              have hecp := cells_ptrs (ptrs_noelem hnp (List.mem_of_getElem? he))
              unfold splice at hz
              simp only [List.mem_append] at hz
              rcases hz with (hz | hz) | hz
              · exact ptrs_noelem hecp (List.mem_of_mem_take hz)
              · exact ptrs_noelem hyp hz
              · exact ptrs_noelem hecp (List.mem_of_mem_drop hz)
            refine ⟨by simp, hjl, ⟨_, hω⟩, ⟨arr, ty, harr, by omega⟩, rfl, by simp [V.ptrs], fun w' hw hcell hobj => ?_⟩
            obtain ⟨Ob, hspl, hcnt⟩ := repL_splice (off := o) hcells hyr
            have hsoft2 : softL (l.set j (recell e (splice e.cells o ys))) = false := by
              simp only [V.soft, Bool.or_eq_false_iff] at hsoft; exact hsoft.2
            have hlt : j < (l.set j (recell e (splice e.cells o ys))).length := by simpa using hjl
            have hbO : ∀ k, (b :: (A ++ Oe ++ B) ++ Oy).count k ≤ 1 := hlin
            have hb1 := hbO b
            simp only [List.cons_append, List.count_cons_self, List.count_append] at hb1
            have hbOb : b ∉ Ob := fun hm => by
              have := hcnt b; have := List.count_pos_iff.2 hm; omega
            obtain ⟨u0, hu0, _, _, hsf, _⟩ := rep_recell (e := e) hlen2 hone hspl
            have hcs : softL (splice e.cells o ys) = false := by
              rw [← hsf]
              exact softL_mem hsoft2 _ (List.mem_of_getElem? (by rw [List.getElem?_set_self hjl]))
            have hspl' := RepL.other hw _ _ _ hcs hbOb hspl
            obtain ⟨u', hu', hu'c, hrc, _, hrp, _⟩ := rep_recell (e := e) hlen2 hone hspl'
            obtain ⟨vals', hE', hl', hget⟩ := hclose w' b _ u' Ob hw (fun hm => by have := List.count_pos_iff.2 hm; omega) (fun hm => by have := List.count_pos_iff.2 hm; omega) hsoft2 hu' (by
              have : u'.cells.toList.length = s := by rw [hu'c]; simp; omega
              simpa using this)
            refine ⟨b :: (A ++ Ob ++ B), own_close hcap hc hlen hs0 hxs hω h0 hnp (by rw [hrc, hlen2, hes]) (by rw [hrp]; exact ptrsL_nil_of hep) hl' ?_ ?_ hE', fun k => ?_⟩
            · intro i z hz
              rw [hget i] at hz
              rw [hcell (off + i)]
              by_cases hi : j * s ≤ i ∧ i < j * s + s
              · rw [if_pos hi, hu'c, spliceV_at (by omega)] at hz
                by_cases hi2 : o ≤ i - j * s ∧ i - j * s < o + yv.length
                · rw [if_pos hi2] at hz
                  rw [if_pos (by omega)]
                  rw [← hz]; congr 1; omega
                · rw [if_neg hi2] at hz
                  rw [if_neg (by omega)]
                  refine hsg i z ?_
                  have := hval (i - j * s) (by omega)
                  rw [show j * s + (i - j * s) = i by omega] at this
                  rw [this]; exact hz
              · rw [if_neg hi] at hz
                rw [if_neg (by omega)]
                exact hsg i z hz
            · obtain ⟨c', hc1, hc2⟩ := hobj arr ty harr
              exact ⟨c', ty, hc1, by omega⟩
            · have := hcnt k
              simp only [List.count_cons, List.count_append] at this ⊢
              omega
          · cases hu
        · cases hu
      · cases hu
    · cases hu
  | (j1, o1, s1) :: p, x, y, v, O, b, off, len, cap, hu, hsoft, hr, hlin, hsl => by
    obtain ⟨q, qs, hq⟩ : ∃ q qs, p ++ [(j, o, s)] = q :: qs := by
      cases p with
      | nil => exact ⟨_, _, rfl⟩
      | cons a p => exact ⟨_, _, rfl⟩
    simp only [List.cons_append] at hu
    unfold updF at hu
    split at hu
    · rename_i heq; cases heq
    · rename_i j' o' s' p' c l heq
      simp only [List.cons.injEq, Prod.mk.injEq] at heq
      obtain ⟨⟨rfl, rfl, rfl⟩, rfl⟩ := heq
      split at hu
      · rename_i e he
        split at hu
        · rename_i hck
          obtain ⟨hes, hok⟩ := hck
          split at hu
          · rename_i hnil; rw [hq] at hnil; cases hnil
          · split at hu
            · rename_i z hz
              obtain ⟨z', hz', rfl⟩ := Option.map_eq_some_iff.1 hu
              obtain ⟨b1, off1, cap1, vals, O1, rfl, rfl, hcap, hc, hlen, hs0, hxs, hsg, hω, hsp, h0, hE, hnp⟩ := own_open hr he hes
              obtain ⟨u, A, Oe, B, rfl, hre, husz, hval, hjle, hclose⟩ := RepE.hole j1 hE he
              obtain ⟨hcells, _⟩ := rep_cells hok hre
              have hjl : j1 < l.length := (List.getElem?_eq_some_iff.1 he).1
              have hul : u.cells.toList.length = s1 := by simpa using husz
              obtain ⟨uz, A2, Oz, B2, rfl, hrz, huz, hclose2⟩ := RepL.hole o1 hcells hz
              have ho1 : o1 < s1 := by rw [← hul]; exact (List.getElem?_eq_some_iff.1 huz).1
              simp only [SlF] at hsl
              obtain ⟨b2, off2, len2, cap2, zz, heq, hj2, hc2, hsl2⟩ := hsl
              cases heq
              have hcell1 : w.cell? ⟨b1, off1 + j1 * s1 + o1, none⟩ = some uz := by
                rw [Nat.add_assoc]
                exact hsg _ _ (by rw [hval o1 ho1]; exact huz)
              rw [hcell1] at hc2; cases hc2
              have hsoft2 : softL (l.set j1 (recell e (e.cells.set o1 z'))) = false := by
                simp only [V.soft, Bool.or_eq_false_iff] at hsoft; exact hsoft.2
              have hbO : ∀ k, (b1 :: (A ++ (A2 ++ Oz ++ B2) ++ B) ++ Oy).count k ≤ 1 := hlin
              have hoz : o1 < e.cells.length := (List.getElem?_eq_some_iff.1 hz).1
              -- the inner list
              have hstep : ∀ (hz's : z'.soft = false), _ := fun hz's => upd_ok hyr hyone hyp p z z' uz Oz (b := b) (off := off) (len := len) (cap := cap) hz' hz's hrz (fun k => by
                have := hbO k; simp only [List.cons_append, List.count_cons, List.count_append] at this ⊢; omega) hsl2
              have hz's : z'.soft = false := by
                have h1 : (recell e (e.cells.set o1 z')).soft = false := softL_mem hsoft2 _ (List.mem_of_getElem? (by rw [List.getElem?_set_self hjl]))
                have hm : z' ∈ e.cells.set o1 z' := List.mem_of_getElem? (i := o1) (by rw [List.getElem?_set_self hoz])
                by_cases hx : ∃ l0, e = .agg l0
                · rw [recell_agg hx] at h1
                  simp only [V.soft] at h1
                  exact softL_mem h1 _ hm
                · have hx' : ∀ l0, e ≠ .agg l0 := fun l0 e' => hx ⟨l0, e'⟩
                  rw [recell_one hx'] at h1
                  rw [cells_of_not_agg hx'] at h1 hoz
                  have : o1 = 0 := by simpa using hoz
                  subst this
                  simpa using h1
              obtain ⟨hbz, hjlen, hωb, harr, hone', hptr', hk⟩ := hstep hz's
              have hbc := hbO b
              have hbpos := List.count_pos_iff.2 hbz
              simp only [List.cons_append, List.count_cons, List.count_append] at hbc
              have hbne : b ≠ b1 := fun e' => by subst e'; simp at hbc; omega
              refine ⟨by simp [hbz], hjlen, hωb, harr, rfl, by simp [V.ptrs], fun w' hw hcell hobj => ?_⟩
              obtain ⟨Oz', hrz', hcnt⟩ := hk w' hw hcell hobj
              have hone : (e.cells.set o1 z').all V.one = true := by
                rw [List.all_eq_true]
                intro y hy
                rcases List.mem_or_eq_of_mem_set hy with hy | rfl
                · exact List.all_eq_true.1 hok y hy
                · exact hone'
              have hcs : softL (e.cells.set o1 z') = false := by
                have h1 : (recell e (e.cells.set o1 z')).soft = false := softL_mem hsoft2 _ (List.mem_of_getElem? (by rw [List.getElem?_set_self hjl]))
                by_cases hx : ∃ l0, e = .agg l0
                · rw [recell_agg hx] at h1
                  simpa only [V.soft] using h1
                · have hx' : ∀ l0, e ≠ .agg l0 := fun l0 e' => hx ⟨l0, e'⟩
                  rw [cells_of_not_agg hx'] at hoz ⊢
                  have : o1 = 0 := by simpa using hoz
                  subst this
                  simp [softL, hz's]
              have hcl := hclose2 w' b z' Oz' hw (fun hm => by have := List.count_pos_iff.2 hm; omega) (fun hm => by have := List.count_pos_iff.2 hm; omega) hcs hrz'
              obtain ⟨u', hu', hu'c, hrc, _, hrp, _⟩ := rep_recell (e := e) (by simp) hone hcl
              obtain ⟨vals', hE', hl', hget⟩ := hclose w' b _ u' _ hw (fun hm => by have := List.count_pos_iff.2 hm; omega) (fun hm => by have := List.count_pos_iff.2 hm; omega) hsoft2 hu' (by
                have : u'.cells.toList.length = s1 := by rw [hu'c]; exact hul
                simpa using this)
              have hvals : ∀ i : Nat, vals'[i]? = vals[i]? := fun i => by
                rw [hget i]
                split
                · rename_i hi
                  rw [hu'c]
                  have := hval (i - j1 * s1) (by omega)
                  rw [show j1 * s1 + (i - j1 * s1) = i by omega] at this
                  exact this.symm
                · rfl
              have hepc := cells_ptrs (ptrs_noelem hnp (List.mem_of_getElem? he))
              refine ⟨b1 :: (A ++ (A2 ++ Oz' ++ B2) ++ B), own_close hcap hc hlen hs0 hxs hω h0 hnp (by rw [hrc]; simpa using hes) (by
                rw [hrp]
                refine ptrsL_nil_of fun y hy => ?_
                rcases List.mem_or_eq_of_mem_set hy with hy | rfl
                · exact ptrs_noelem hepc hy
                · exact hptr') hl' ?_ ?_ hE', fun k => ?_⟩
              · intro i y hy
                rw [hvals i] at hy
                rw [cell_of_heap (hw.kept b1 (Ne.symm hbne))]
                exact hsg i y hy
              · obtain ⟨arr1, ty1, ha1, ha2⟩ := hsp
                exact ⟨arr1, ty1, by rw [hw.kept b1 (Ne.symm hbne)]; exact ha1, ha2⟩
              · have := hcnt k
                simp only [List.count_cons, List.count_append] at this ⊢
                omega
            · cases hu
        · cases hu
      · cases hu
    · cases hu
end Go.Ab
