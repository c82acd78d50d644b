/-
  A STORE INTO AN OWNER's ELEMENTS: the state behind it.
-/
import Derived.Test.YtpiggpgocnlomaaLkA
set_option linter.unusedVariables false
namespace Go.Ab
open Go
variable {P : Program} {H : Hints} {f : FuncId} {w w' : World} {X : Cx}

/-! ### a state whose places own no more -/
theorem rel_shrink {st' : St} {tmps : Array Value} {Ob : Pl → List Nat} (hsize : tmps.size = st'.E.length)
    (henv : ∀ t x, st'.E[t]? = some x → ∃ v, tmps[t]? = some v ∧ ∃ A, Rep w' X x v A ∧ ∀ k, A.count k ≤ (Ob (.tmp t)).count k)
    (hbox : ∀ r c, st'.box r = some c → ∃ b, X.β r = some b ∧ b < w'.heap.size ∧ X.ω b = none ∧ ∃ A, BoxR w' X b c A ∧ ∀ k, A.count k ≤ (Ob (.box r)).count k)
    (inj : ∀ r r' b, (st'.box r).isSome = true → (st'.box r').isSome = true → X.β r = some b → X.β r' = some b → r = r') (hlin : ∀ p, Lin (Ob p)) (hdis : ∀ p q, p ≠ q → ∀ b ∈ Ob p, b ∉ Ob q)
    (ptrE : ∀ r ∈ ptrsL st'.E, (st'.box r).isSome = true) (ptrB : ∀ r c, st'.box r = some c → ∀ r' ∈ ptrsL c, (st'.box r').isSome = true) (up : ∀ r c, st'.box r = some c → ∀ r' ∈ ptrsL c, r'.lvl ≤ r.lvl) (dom : Dom w' X) :
    ∃ O', Rel st' tmps w' X O' ∧ ∀ p k, (O' p).count k ≤ (Ob p).count k := by
  have key : ∀ p : Pl, ∃ A : List Nat, (∀ k, A.count k ≤ (Ob p).count k) ∧ (match p with
      | .tmp t => (∀ x, st'.E[t]? = some x → ∃ v, tmps[t]? = some v ∧ Rep w' X x v A) ∧ (st'.E[t]? = none → A = [])
      | .box r => (∀ c, st'.box r = some c → ∃ b, X.β r = some b ∧ b < w'.heap.size ∧ X.ω b = none ∧ BoxR w' X b c A) ∧ (st'.box r = none → A = [])) := by
    intro p
    cases p with
    | tmp t =>
      cases hx : st'.E[t]? with
      | none => exact ⟨[], by simp, And.intro (fun x hx' => by rw [hx] at hx'; cases hx') (fun _ => rfl)⟩
      | some x =>
        obtain ⟨v, hv, A, hr, hc⟩ := henv t x hx
        exact ⟨A, hc, And.intro (fun y hy => by rw [hx] at hy; cases hy; exact ⟨v, hv, hr⟩) (fun h => by rw [hx] at h; cases h)⟩
    | box r =>
      cases hx : st'.box r with
      | none => exact ⟨[], by simp, And.intro (fun x hx' => by rw [hx] at hx'; cases hx') (fun _ => rfl)⟩
      | some c =>
        obtain ⟨b, h1, h2, h3, A, h4, hc⟩ := hbox r c hx
        exact ⟨A, hc, And.intro (fun y hy => by rw [hx] at hy; cases hy; exact ⟨b, h1, h2, h3, h4⟩) (fun h => by rw [hx] at h; cases h)⟩
  obtain ⟨O', hO'⟩ := Classical.axiomOfChoice key
  have hR : Rel st' tmps w' X O' := {
    size := hsize
    env := fun t x hx => (hO' (.tmp t)).2.1 x hx
    envD := fun t ht => (hO' (.tmp t)).2.2 (List.getElem?_eq_none ht)
    box := fun r c hr => (hO' (.box r)).2.1 c hr
    boxD := fun r hr => (hO' (.box r)).2.2 hr
    inj := inj
    lin := fun p k => Nat.le_trans ((hO' p).1 k) (hlin p k)
    dis := fun p q hpq b hb hq => hdis p q hpq b (List.count_pos_iff.1 (Nat.lt_of_lt_of_le (List.count_pos_iff.2 hb) ((hO' p).1 b))) (List.count_pos_iff.1 (Nat.lt_of_lt_of_le (List.count_pos_iff.2 hq) ((hO' q).1 b)))
    ptrE := ptrE
    ptrB := ptrB
    up := up
    dom := dom }
  exact ⟨O', hR, fun p k => (hO' p).1 k⟩

/-! ### what is soft is forgotten -/
theorem rep_hard {b : Nat} (h : Wrote w X w' b) {x : V} {v : Value} {O : List Nat} (hb : b ∉ O) (hr : Rep w X x v O) : ∃ A, Rep w' X x.hard v A ∧ ∀ k, A.count k ≤ O.count k := by
  unfold V.hard
  cases hs : x.soft with
  | true => exact ⟨[], by simp [Rep], by simp⟩
  | false => exact ⟨O, by simpa using Rep.other h x v O hs hb hr, fun _ => Nat.le_refl _⟩
theorem repL_hard {b : Nat} (h : Wrote w X w' b) : ∀ {l : List V} {vals : List Value} {O : List Nat}, b ∉ O → RepL w X l vals O → ∃ A, RepL w' X (l.map V.hard) vals A ∧ ∀ k, A.count k ≤ O.count k
  | [], vals, O, hb, hr => ⟨[], by simp only [RepL] at hr; simp [RepL, hr.1], by simp⟩
  | x :: l, vals, O, hb, hr => by
    simp only [RepL] at hr
    obtain ⟨u, vs, O1, O2, rfl, rfl, h1, h2⟩ := hr
    simp only [List.mem_append, not_or] at hb
    obtain ⟨A, h3, h4⟩ := rep_hard h hb.1 h1
    obtain ⟨B, h5, h6⟩ := repL_hard h hb.2 h2
    refine ⟨A ++ B, by simp only [List.map_cons, RepL]; exact ⟨u, vs, A, B, rfl, rfl, h3, h5⟩, fun k => ?_⟩
    have := h4 k; have := h6 k
    simp only [List.count_append]; omega
theorem repL_hardHole : ∀ {l : List V} {vals : List Value} {O : List Nat} (j : Nat) {z : V}, RepL w X l vals O → l[j]? = some z →
    ∃ u O1 Oz O2, O = O1 ++ Oz ++ O2 ∧ Rep w X z u Oz ∧ vals[j]? = some u ∧
      ∀ (w' : World) (b : Nat) (z' : V) (Oz' : List Nat), Wrote w X w' b → b ∉ O1 → b ∉ O2 → Rep w' X z' u Oz' → ∃ A, RepL w' X ((l.map V.hard).set j z') vals A ∧ ∀ k, A.count k ≤ O1.count k + Oz'.count k + O2.count k
  | [], vals, O, j, z, h, hj => by simp at hj
  | y :: l, vals, O, 0, z, h, hj => by
    simp only [RepL] at h
    obtain ⟨u, vs, A, B, rfl, rfl, h1, h2⟩ := h
    simp at hj; subst hj
    refine ⟨u, [], A, B, by simp, h1, by simp, fun w' b z' Oz' hw hb1 hb2 hr => ?_⟩
    obtain ⟨C, h3, h4⟩ := repL_hard hw hb2 h2
    refine ⟨Oz' ++ C, by simp only [List.map_cons, List.set_cons_zero, RepL]; exact ⟨u, vs, Oz', C, rfl, rfl, hr, h3⟩, fun k => ?_⟩
    have := h4 k
    simp only [List.count_append, List.count_nil]; omega
  | y :: l, vals, O, j + 1, z, h, hj => by
    simp only [RepL] at h
    obtain ⟨u0, vs, A, B, rfl, rfl, h1, h2⟩ := h
    obtain ⟨u, O1, Oz, O2, rfl, hr, hv, hk⟩ := repL_hardHole (j := j) h2 (by simpa using hj)
    refine ⟨u, A ++ O1, Oz, O2, by simp, hr, by simpa using hv, fun w' b z' Oz' hw hb1 hb2 hr' => ?_⟩
    simp only [List.mem_append, not_or] at hb1
    obtain ⟨C, h3, h4⟩ := hk w' b z' Oz' hw hb1.2 hb2 hr'
    obtain ⟨D, h5, h6⟩ := rep_hard hw hb1.1 h1
    refine ⟨D ++ C, by simp only [List.map_cons, List.set_cons_succ, RepL]; exact ⟨u0, vs, D, C, rfl, rfl, h5, h3⟩, fun k => ?_⟩
    have := h4 k; have := h6 k
    simp only [List.count_append]; omega

theorem hard_ptrs {x : V} {r : Root} (h : r ∈ x.hard.ptrs) : r ∈ x.ptrs := by
  unfold V.hard at h
  split at h
  · simp [V.ptrs] at h
  · exact h
theorem hardL_ptrs {l : List V} {r : Root} (h : r ∈ ptrsL (l.map V.hard)) : r ∈ ptrsL l := by
  obtain ⟨x, hx, hr⟩ := mem_ptrsL.1 h
  obtain ⟨y, hy, rfl⟩ := List.mem_map.1 hx
  exact mem_ptrsL.2 ⟨y, hy, hard_ptrs hr⟩
theorem lookB_hard (s : Nat) : ∀ B : Level, lookB (hardB B) s = (lookB B s).map (List.map V.hard)
  | [] => rfl
  | (k, c) :: B => by
    simp only [hardB, List.map_cons, lookB]
    split
    · rfl
    · exact lookB_hard s B
theorem lookB_noLp {s : Nat} {c : List V} : ∀ {B : Level}, noLpB B = true → lookB B s = some c → isLp c = false
  | [], _, h => by simp [lookB] at h
  | (k, c') :: B, hn, h => by
    simp only [noLpB, List.all_cons, Bool.and_eq_true, Bool.not_eq_true'] at hn
    simp only [lookB] at h
    split at h
    · cases h; exact hn.1
    · exact lookB_noLp hn.2 h

/-! ### the store -/
def RootVal (w : World) (X : Cx) (tmps : Array Value) : Rt → Value → Prop
  | .tmp r, v => tmps.getD r undef = v
  | .box q off, v => ∃ b, X.β q = some b ∧ w.cell? ⟨b, off, none⟩ = some v
/-- the cell behind a path (last step first) -/
def PtrR (w : World) (v0 : Value) : Path → Nat → Nat → Prop
  | [], _, _ => False
  | (j, o, s) :: p, b, k => ∃ off len cap, SlF w v0 p.reverse (.slice (some ⟨b, off, none⟩) len cap) ∧ j < len ∧ k = off + j * s + o

/-- the block's row of cells -/
def rowAt (arr : Array Value) (k : Nat) (yv : List Value) : Array Value := (arr.toList.take k ++ yv ++ arr.toList.drop (k + yv.length)).toArray

theorem wrote_row {b k : Nat} {arr : Array Value} {ty : TypeId} {yv : List Value} (hω : ∃ e, X.ω b = some (e, false)) (ha : w.heap[b]? = some (.cells arr ty (0, 0))) (hle : k + yv.length ≤ arr.size) :
    Wrote w X (w.setRow b (rowAt arr k yv)) b ∧ (∀ i, (w.setRow b (rowAt arr k yv)).cell? ⟨b, i, none⟩ = if k ≤ i ∧ i < k + yv.length then yv[i - k]? else w.cell? ⟨b, i, none⟩) ∧
      (∀ c t, w.heap[b]? = some (.cells c t (0, 0)) → ∃ c', (w.setRow b (rowAt arr k yv)).heap[b]? = some (.cells c' t (0, 0)) ∧ c'.size = c.size) := by
  have hset := setRow_heap w b arr (rowAt arr k yv) ty (0, 0) ha
  refine ⟨⟨hω, fun k' hk' => setRow_other w b k' _ hk'⟩, fun i => ?_, fun c t hc => ?_⟩
  · simp only [World.cell?, hset, ha]
    have h1 : (rowAt arr k yv)[i]? = (rowAt arr k yv).toList[i]? := by simp
    have h2 : arr[i]? = arr.toList[i]? := by simp
    simp only [h1, h2]
    unfold rowAt
    exact spliceV_at (by simpa using hle) i
  · rw [ha] at hc; cases hc
    refine ⟨_, hset, ?_⟩
    unfold rowAt; simp; omega

theorem reverse_snoc {a : Nat × Nat × Nat} {p : Path} : (a :: p).reverse = p.reverse ++ [a] := by simp

theorem ls_world {w0 : World} {X0 : Cx} {Md : Md} {n : Nat} {st st' : St} {D : List Deferred} {tmps : Array Value} {O : Pl → List Nat} (h : Rel st tmps w X O) (hF : Fr w0 X0 Md n st w X O) (hz : n = 0 → ∀ b e fz, X0.ω b = some (e, fz) → fz = true) (hM : MarkOk w0 w X D) (hL : st.L = []) {b : Nat}
    (hw : Wrote w X w' b) (hbO : ∃ p, b ∈ O p) (hsz : w'.heap.size = w.heap.size) (hos : w'.os = w.os) (hout : w'.output = w.output) (htape : w'.tape = w.tape)
    {Ob : Pl → List Nat} (hOb : ∀ p k, k ∈ Ob p → ∃ q, k ∈ O q) {O' : Pl → List Nat} (hO' : ∀ p k, (O' p).count k ≤ (Ob p).count k) (hL' : st'.L = []) (hlive : ∀ r, (st'.box r).map isLp = (st.box r).map isLp) :
    Fr w0 X0 Md n st' w' X O' ∧ MarkOk w0 w' X D := by
  obtain ⟨p0, hp0⟩ := hbO
  obtain ⟨e0, hω⟩ := hw.ω
  have hn : n = 0 := by rw [← hF.lev, hL]; rfl
  refine ⟨{ size := by rw [hsz]; exact hF.size, kept := ?_, grew := ?_, β := hF.β, own := ?_, boxM := ?_, lev := by rw [hL', hn]; rfl, live := ?_, os := by rw [hos, hF.os], out := by rw [hout, hF.out], tape := by rw [htape, hF.tape] }, ?_⟩
  · intro k hk hMk
    obtain ⟨h1, h2⟩ := hF.kept k hk hMk
    refine ⟨?_, h2⟩
    by_cases hkb : k = b
    · subst hkb
      rcases hF.own p0 k hp0 with h3 | h3
      · omega
      · exact absurd h3 hMk
    · rw [hw.kept k hkb, h1]
  · intro k e fz hω0
    obtain ⟨e1, fz1, h1, h2, h3, h4⟩ := hF.grew k e fz hω0
    refine ⟨e1, fz1, h1, h2, h3, fun i v hi hc => ?_⟩
    by_cases hkb : k = b
    · subst hkb
      have := h3 (hz hn _ _ _ hω0)
      rw [hω] at h1
      cases h1; cases this
    · rw [cell_of_heap (hw.kept k hkb)]; exact h4 i v hi hc
  · intro p k hk
    obtain ⟨q, hq⟩ := hOb p k (List.count_pos_iff.1 (Nat.lt_of_lt_of_le (List.count_pos_iff.2 hk) (hO' p k)))
    exact hF.own q k hq
  · intro r k hr hb
    refine hF.boxM r k ?_ hb
    have := congrArg Option.isSome (hlive r)
    simpa [hr] using this.symm
  · intro r hr; rw [hlive]; exact hF.live r hr
  · exact hM.of fun k hk hωk _ => ⟨hw.kept k (fun e => by subst e; rw [hω] at hωk; cases hωk), rfl⟩

theorem box_L0 {st : St} (hL : st.L = []) (r : Root) : st.box r = if r.lvl = 0 then lookB st.B r.slot else none := by
  unfold St.box; simp [hL]
theorem lookB_setB (s s' : Nat) (c : List V) : ∀ B : Level, lookB (setB B s c) s' = if s' = s then (lookB B s).map (fun _ => c) else lookB B s'
  | [] => by simp [setB, lookB]
  | (k, d) :: B => by
    simp only [setB]
    by_cases h1 : k = s
    · subst h1
      simp only [if_true, lookB]
      by_cases h2 : s' = k
      · simp [h2]
      · simp [h2, Ne.symm h2]
    · simp only [h1, if_false, lookB]
      rw [lookB_setB s s' c B]
      by_cases h2 : s' = s
      · subst h2; simp [h1]
      · by_cases h3 : k = s'
        · simp [h3, h2]
        · simp [h3, h2]

theorem isLp_hard {c : List V} (h : isLp c = false) : isLp (c.map V.hard) = false := by
  match c with
  | [] => rfl
  | x :: l =>
    simp only [List.map_cons]
    unfold V.hard
    split
    · rfl
    · cases x <;> first | rfl | (simp [isLp] at h)

/-- the state behind the store -/
theorem ls_state {w0 : World} {X0 : Cx} {Md : Md} {n : Nat} {st st' : St} {D : List Deferred} {tmps : Array Value} {O : Pl → List Nat} (h : Rel st tmps w X O) (hF : Fr w0 X0 Md n st w X O) (hz : n = 0 → ∀ b e fz, X0.ω b = some (e, fz) → fz = true) (hM : MarkOk w0 w X D) (hL : st.L = []) (hnl : noLpB st.B = true)
    {b : Nat} (hw : Wrote w X w' b) (hsz : w'.heap.size = w.heap.size) (hos : w'.os = w.os) (hout : w'.output = w.output) (htape : w'.tape = w.tape)
    {T : List Tmp} {Ox : List Nat} (hin : ∀ k ∈ Ox, ∃ t ∈ T, k ∈ O (.tmp t)) (hlx : Lin Ox) {pl : Pl} (hpl : ∀ t ∈ T, pl ≠ .tmp t) (hb : b ∈ O pl) (hlen : st'.E.length = st.E.length) (hL' : st'.L = [])
    (henv : ∀ t x', st'.E[t]? = some x' → (pl ≠ .tmp t ∧ ∃ x0, (dullAt st.E T)[t]? = some x0 ∧ x' = x0.hard) ∨ (pl = .tmp t ∧ x'.ptrs = [] ∧ ∃ v, tmps[t]? = some v ∧ ∃ A, Rep w' X x' v A ∧ ∀ k, A.count k ≤ (O pl).count k + Ox.count k))
    (hbs : ∀ q, (st'.box q).isSome = (st.box q).isSome)
    (hbox : ∀ q c', st'.box q = some c' → ∃ c, st.box q = some c ∧ ((pl ≠ .box q ∧ c' = c.map V.hard) ∨ (pl = .box q ∧ isLp c' = false ∧ (∀ r ∈ ptrsL c', r ∈ ptrsL c) ∧ ∀ arr : List Value, RepL w X c arr (O (.box q)) → (∀ bq, X.β q = some bq → ∀ i, w.cell? ⟨bq, i, none⟩ = arr[i]?) → ∃ A, RepL w' X c' arr A ∧ ∀ k, A.count k ≤ (O pl).count k + Ox.count k))) :
    ∃ O', Rel st' tmps w' X O' ∧ Fr w0 X0 Md n st' w' X O' ∧ MarkOk w0 w' X D := by
  have h1 := h.taken T
  generalize hO1 : putO O T none st.E.length [] = O1 at h1
  have hO1' : ∀ p k, k ∈ O1 p → k ∈ O p ∧ ∀ t ∈ T, p ≠ .tmp t := fun p k hk => by
    rw [← hO1] at hk
    cases p with
    | tmp t =>
      simp only [putO] at hk
      rw [if_neg (by simp)] at hk
      split at hk
      · simp at hk
      · rename_i hn
        exact ⟨hk, fun t' ht' e => hn (by cases e; exact ht')⟩
    | box r => exact ⟨hk, fun t' _ e => by cases e⟩
  have hO1c : ∀ p k, (O1 p).count k ≤ (O p).count k := fun p k => by
    rw [← hO1]
    cases p with
    | tmp t =>
      simp only [putO]
      rw [if_neg (by simp)]
      split
      · simp
      · exact Nat.le_refl _
    | box r => exact Nat.le_refl _
  have hbn : ∀ p, p ≠ pl → b ∉ O1 p := fun p hp hk => h.dis p pl hp b (hO1' p b hk).1 hb
  have hxpl : ∀ k ∈ Ox, k ∉ O pl := fun k hk hkp => by
    obtain ⟨t, ht, hkt⟩ := hin k hk
    exact h.dis pl (.tmp t) (hpl t ht) k hkp hkt
  have hx1 : ∀ k ∈ Ox, ∀ p, k ∉ O1 p := fun k hk p hkp => by
    obtain ⟨t, ht, hkt⟩ := hin k hk
    obtain ⟨h2, h3⟩ := hO1' p k hkp
    exact h.dis p (.tmp t) (h3 t ht) k h2 hkt
  have hlpB : ∀ q c, st.box q = some c → isLp c = false := fun q c hq => by
    rw [box_L0 hL] at hq
    split at hq
    · exact lookB_noLp hnl hq
    · cases hq
  have hrel := rel_shrink (w' := w') (X := X) (tmps := tmps) (st' := st') (Ob := fun p => if p = pl then O pl ++ Ox else O1 p) (by rw [hlen]; exact h.size) ?_ ?_ ?_ ?_ ?_ ?_ ?_ ?_ ?_
  · obtain ⟨O', hR, hc⟩ := hrel
    obtain ⟨hF', hM'⟩ := ls_world (st' := st') (O' := O') h hF hz hM hL hw ⟨pl, hb⟩ hsz hos hout htape (Ob := fun p => if p = pl then O pl ++ Ox else O1 p) (fun p k hk => by
      by_cases hp : p = pl
      · simp only [hp, if_true, List.mem_append] at hk
        rcases hk with hk | hk
        · exact ⟨pl, hk⟩
        · obtain ⟨t, _, hkt⟩ := hin k hk; exact ⟨_, hkt⟩
      · simp only [hp, if_false] at hk
        exact ⟨p, (hO1' p k hk).1⟩) hc hL' (fun q => by
      cases hq : st.box q with
      | none =>
        have := hbs q
        rw [hq] at this
        cases hq' : st'.box q with
        | none => rfl
        | some c => rw [hq'] at this; simp at this
      | some c =>
        have := hbs q
        rw [hq] at this
        obtain ⟨c', hc'⟩ := Option.isSome_iff_exists.1 (by simpa using this : (st'.box q).isSome = true)
        obtain ⟨c2, h2, h3⟩ := hbox q c' hc'
        rw [hq] at h2; cases h2
        rw [hc', Option.map_some, Option.map_some, hlpB q c hq]
        rcases h3 with ⟨_, rfl⟩ | ⟨_, h3, _⟩
        · rw [isLp_hard (hlpB q c hq)]
        · rw [h3])
    exact ⟨O', hR, hF', hM'⟩
  · intro t x' hx'
    rcases henv t x' hx' with ⟨hne, x0, h2, rfl⟩ | ⟨rfl, _, v, hv, A, hr, hA⟩
    · obtain ⟨v, hv, hr⟩ := h1.env t x0 h2
      obtain ⟨A, h3, h4⟩ := rep_hard hw (hbn _ (Ne.symm hne)) hr
      exact ⟨v, hv, A, h3, by simpa [Ne.symm hne] using h4⟩
    · exact ⟨v, hv, A, hr, fun k => by have := hA k; simp only [if_true, List.count_append]; exact this⟩
  · intro q c' hq
    obtain ⟨c, hc, hcase⟩ := hbox q c' hq
    obtain ⟨bq, hβ, hlt, hω, hbx⟩ := h.box q c hc
    obtain ⟨arr, ty, harr, hl⟩ := hbx.cells (hlpB q c hc)
    obtain ⟨e0, hω0⟩ := hw.ω
    have hne : bq ≠ b := fun e => by subst e; rw [hω0] at hω; cases hω
    refine ⟨bq, hβ, by omega, hω, ?_⟩
    rcases hcase with ⟨hp, rfl⟩ | ⟨rfl, _, _, hk⟩
    · obtain ⟨A, h3, h4⟩ := repL_hard hw (fun hm => h.dis (.box q) pl (Ne.symm hp) b hm hb) hl
      refine ⟨A, .inl ⟨arr, ty, by rw [hw.kept bq hne]; exact harr, h3⟩, fun k => ?_⟩
      rw [if_neg (Ne.symm hp), ← hO1]; exact h4 k
    · obtain ⟨A, h3, h4⟩ := hk arr.toList hl (fun bq' hβ' i => by rw [hβ] at hβ'; cases hβ'; simp [World.cell?, harr])
      refine ⟨A, .inl ⟨arr, ty, by rw [hw.kept bq hne]; exact harr, h3⟩, fun k => ?_⟩
      have := h4 k
      simp only [if_true, List.count_append]; exact this
  · intro r r' k h2 h3 h4 h5
    rw [hbs] at h2 h3
    exact h.inj r r' k h2 h3 h4 h5
  · intro p k
    by_cases hp : p = pl
    · simp only [hp, if_true, List.count_append]
      have h2 := h.lin pl k; have h3 := hlx k
      by_cases hk : k ∈ Ox
      · have := List.count_eq_zero.2 (hxpl k hk); omega
      · have := List.count_eq_zero.2 hk; omega
    · simp only [hp, if_false]
      exact Nat.le_trans (hO1c p k) (h.lin p k)
  · intro p q hpq k hkp hkq
    by_cases hp : p = pl
    · have hq : q ≠ pl := fun e => hpq (by rw [hp, e])
      simp only [hp, if_true, List.mem_append] at hkp
      simp only [hq, if_false] at hkq
      rcases hkp with hkp | hkp
      · exact h.dis pl q (Ne.symm hq) k hkp (hO1' q k hkq).1
      · exact hx1 k hkp q hkq
    · simp only [hp, if_false] at hkp
      by_cases hq : q = pl
      · simp only [hq, if_true, List.mem_append] at hkq
        rcases hkq with hkq | hkq
        · exact h.dis p pl hp k (hO1' p k hkp).1 hkq
        · exact hx1 k hkq p hkp
      · simp only [hq, if_false] at hkq
        exact h.dis p q hpq k (hO1' p k hkp).1 (hO1' q k hkq).1
  · intro r hr
    rw [hbs]
    obtain ⟨x', hx', hr'⟩ := mem_ptrsL.1 hr
    obtain ⟨t, ht⟩ := List.mem_iff_getElem?.1 hx'
    rcases henv t x' ht with ⟨_, x0, h2, rfl⟩ | ⟨_, h2, _⟩
    · exact h1.ptrE r (mem_ptrsL.2 ⟨x0, List.mem_of_getElem? h2, hard_ptrs hr'⟩)
    · rw [h2] at hr'; simp at hr'
  · intro q c' hq r' hr'
    rw [hbs]
    obtain ⟨c, hc, ⟨_, rfl⟩ | ⟨_, _, hp, _⟩⟩ := hbox q c' hq
    · exact h.ptrB q c hc r' (hardL_ptrs hr')
    · exact h.ptrB q c hc r' (hp r' hr')
  · intro q c' hq r' hr'
    obtain ⟨c, hc, ⟨_, rfl⟩ | ⟨_, _, hp, _⟩⟩ := hbox q c' hq
    · exact h.up q c hc r' (hardL_ptrs hr')
    · exact h.up q c hc r' (hp r' hr')
  · intro k e fz hk; rw [hsz]; exact h.dom k e fz hk
end Go.Ab
