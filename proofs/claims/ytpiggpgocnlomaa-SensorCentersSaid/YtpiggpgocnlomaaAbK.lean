/-
  THE STATE: what an abstract state says of an activation's temporaries and of the world; what an operation's value does to it.
-/
import Derived.Test.YtpiggpgocnlomaaAbJ
set_option linter.unusedVariables false
namespace Go.Ab
open Go

inductive Pl where
  | tmp (t : Nat)
  | box (r : Root)
  deriving DecidableEq

def BoxR (w : World) (X : Cx) (b : Nat) (c : List V) (O : List Nat) : Prop :=
  (∃ cs t, w.heap[b]? = some (.cells cs t (0, 0)) ∧ RepL w X c cs.toList O) ∨
  (∃ s pe g env ps asg body lo, c = [.lp s pe g env ps asg body] ∧ w.heap[b]? = some (.loop lo) ∧ lo.state = s ∧ lo.pending = pe ∧ g = g ∧ lo.params.toList = ps ∧ lo.assign = asg ∧ lo.body = body ∧
    RepL w X env lo.tmps.toList [] ∧ O = [])

structure Rel (st : St) (tmps : Array Value) (w : World) (X : Cx) (O : Pl → List Nat) : Prop where
  size : tmps.size = st.E.length
  env : ∀ t x, st.E[t]? = some x → ∃ v, tmps[t]? = some v ∧ Rep w X x v (O (.tmp t))
  envD : ∀ t, st.E.length ≤ t → O (.tmp t) = []
  box : ∀ r c, st.box r = some c → ∃ b, X.β r = some b ∧ b < w.heap.size ∧ X.ω b = none ∧ BoxR w X b c (O (.box r))
  boxD : ∀ r, st.box r = none → O (.box r) = []
  inj : ∀ r r' b, (st.box r).isSome = true → (st.box r').isSome = true → X.β r = some b → X.β r' = some b → r = r'
  lin : ∀ p, Lin (O p)
  dis : ∀ p q, p ≠ q → ∀ b ∈ O p, b ∉ O q
  ptrE : ∀ r ∈ ptrsL st.E, (st.box r).isSome = true
  ptrB : ∀ r c, st.box r = some c → ∀ r' ∈ ptrsL c, (st.box r').isSome = true
  up : ∀ r c, st.box r = some c → ∀ r' ∈ ptrsL c, r'.lvl ≤ r.lvl
  dom : Dom w X

/-- what an activation may write of what was there; which boxes were there -/
structure Md where
  may : Nat → Prop
  kind : Root → Option Bool
instance : CoeFun Md (fun _ => Nat → Prop) := ⟨Md.may⟩

/-- since the activation began: what may not be written is as it was -/
structure Fr (w0 : World) (X0 : Cx) (M : Md) (n : Nat) (st : St) (w : World) (X : Cx) (O : Pl → List Nat) : Prop where
  size : w0.heap.size ≤ w.heap.size
  kept : ∀ b, b < w0.heap.size → ¬ M b → w.heap[b]? = w0.heap[b]? ∧ X.ω b = X0.ω b
  grew : ∀ b e fz, X0.ω b = some (e, fz) → ∃ e' fz', X.ω b = some (e', fz') ∧ e ≤ e' ∧ (fz = true → fz' = true) ∧ ∀ i v, i < e → w0.cell? ⟨b, i, none⟩ = some v → w.cell? ⟨b, i, none⟩ = some v
  β : ∀ r, r.lvl < n → X.β r = X0.β r
  own : ∀ p, ∀ b ∈ O p, w0.heap.size ≤ b ∨ M b
  boxM : ∀ r b, (st.box r).isSome = true → X.β r = some b → w0.heap.size ≤ b ∨ M b
  lev : st.L.length = n
  live : ∀ r, r.lvl < n → (st.box r).map isLp = M.kind r
  os : w.os = w0.os
  out : w.output = w0.output
  tape : w.tape = w0.tape

variable {P : Program} {H : Hints} {f : FuncId} {w : World} {X : Cx}

mutual
theorem rep_own : ∀ (x : V) (v : Value) (O : List Nat), Rep w X x v O → ∀ b ∈ O, ∃ e, X.ω b = some (e, false)
  | .undef, _, _, h => by simp only [Rep] at h; simp [h]
  | .val _, _, _, h => by simp only [Rep] at h; simp [h.2]
  | .ptr .., _, _, h => by simp only [Rep] at h; simp [h.1]
  | .yld _, _, _, h => by simp only [Rep] at h; simp [h.1]
  | .cptr _, _, _, h => by simp only [Rep] at h; simp [h.1]
  | .sl f c l, v, O, h => by
    simp only [Rep] at h
    obtain ⟨_, h⟩ := h
    rcases h with ⟨_, h0, _⟩ | ⟨b, off, cap, s, vals, O', _, _, _, _, _, _, _, ⟨e, fz, hω, _, hf⟩, he, ho, ho'⟩
    · simp [h0]
    · have ih := repE_own s l vals O' he
      by_cases hown : f = .own
      · subst hown
        rw [ho rfl]
        intro b' hb'
        rcases List.mem_cons.1 hb' with rfl | hb'
        · obtain ⟨rfl, _⟩ := hf; exact ⟨e, hω⟩
        · exact ih _ hb'
      · simp [(ho' hown).1]
  | .fn f a c, v, O, h => by
    simp only [Rep] at h
    obtain ⟨va, vc, O1, O2, _, rfl, h1, h2⟩ := h
    intro b hb
    rcases List.mem_append.1 hb with hb | hb
    · exact repL_own a va O1 h1 b hb
    · exact repL_own c vc O2 h2 b hb
  | .iface t x, v, O, h => by simp only [Rep] at h; obtain ⟨u, _, h1⟩ := h; exact rep_own x u O h1
  | .agg l, v, O, h => by simp only [Rep] at h; obtain ⟨vals, _, h1⟩ := h; exact repL_own l vals O h1
  | .tuple l, v, O, h => by simp only [Rep] at h; obtain ⟨vals, _, h1⟩ := h; exact repL_own l vals O h1
  | .lp .., _, _, h => by simp only [Rep] at h
theorem repL_own : ∀ (l : List V) (vals : List Value) (O : List Nat), RepL w X l vals O → ∀ b ∈ O, ∃ e, X.ω b = some (e, false)
  | [], _, _, h => by simp only [RepL] at h; simp [h.2]
  | x :: l, vals, O, h => by
    simp only [RepL] at h
    obtain ⟨u, vs, O1, O2, _, rfl, h1, h2⟩ := h
    intro b hb
    rcases List.mem_append.1 hb with hb | hb
    · exact rep_own x u O1 h1 b hb
    · exact repL_own l vs O2 h2 b hb
theorem repE_own (s : Nat) : ∀ (l : List V) (vals : List Value) (O : List Nat), RepE w X s l vals O → ∀ b ∈ O, ∃ e, X.ω b = some (e, false)
  | [], _, _, h => by simp only [RepE] at h; simp [h.2]
  | x :: l, vals, O, h => by
    simp only [RepE] at h
    obtain ⟨u, vs, O1, O2, _, _, rfl, h1, h2⟩ := h
    intro b hb
    rcases List.mem_append.1 hb with hb | hb
    · exact rep_own x u O1 h1 b hb
    · exact repE_own s l vs O2 h2 b hb
end

theorem BoxR.own {b : Nat} {c : List V} {O : List Nat} (h : BoxR w X b c O) : ∀ k ∈ O, ∃ e, X.ω k = some (e, false) := by
  rcases h with ⟨cs, t, _, h⟩ | ⟨s, pe, g, env, ps, asg, body, lo, _, _, _, _, _, _, _, _, _, rfl⟩
  · exact repL_own c _ O h
  · simp

theorem Rel.ownω {st : St} {tmps : Array Value} {O : Pl → List Nat} (h : Rel st tmps w X O) : ∀ p, ∀ b ∈ O p, ∃ e, X.ω b = some (e, false) := by
  intro p b hb
  cases p with
  | tmp t =>
    by_cases hlt : t < st.E.length
    · obtain ⟨v, _, hr⟩ := h.env t _ (List.getElem?_eq_getElem hlt)
      exact rep_own _ _ _ hr b hb
    · rw [h.envD t (by omega)] at hb; simp at hb
  | box r =>
    cases hr : st.box r with
    | none => rw [h.boxD r hr] at hb; simp at hb
    | some c => obtain ⟨k, _, _, _, hbx⟩ := h.box r c hr; exact hbx.own b hb
theorem Rel.ownlt {st : St} {tmps : Array Value} {O : Pl → List Nat} (h : Rel st tmps w X O) : ∀ p, ∀ b ∈ O p, b < w.heap.size := fun p b hb => by
  obtain ⟨e, he⟩ := h.ownω p b hb; exact h.dom _ _ _ he

/-! ### taking -/
theorem dullAt_length : ∀ (T : List Tmp) (E : List V), (dullAt E T).length = E.length
  | [], E => rfl
  | t :: T, E => by simp only [dullAt, List.foldl_cons]; rw [show (T.foldl (fun E t => E.modify t V.dull) (E.modify t V.dull)) = dullAt (E.modify t V.dull) T from rfl, dullAt_length T]; simp
theorem dullAt_get : ∀ (T : List Tmp) (E : List V) (t : Nat) (x' : V), (dullAt E T)[t]? = some x' →
    ∃ x, E[t]? = some x ∧ x'.ptrs = x.ptrs ∧ ((t ∉ T ∧ x' = x) ∨ (t ∈ T ∧ ∀ (w : World) (X : Cx) v O, Rep w X x v O → Rep w X x' v []))
  | [], E, t, x', h => ⟨x', by simpa [dullAt] using h, rfl, .inl ⟨by simp, rfl⟩⟩
  | s :: T, E, t, x', h => by
    have h' : (dullAt (E.modify s V.dull) T)[t]? = some x' := h
    obtain ⟨y, hy, hp, hc⟩ := dullAt_get T _ t x' h'
    rw [List.getElem?_modify] at hy
    by_cases hst : s = t
    · subst hst
      simp only [if_true] at hy
      cases hE : E[s]? with
      | none => simp [hE] at hy
      | some x =>
        simp [hE] at hy; subst hy
        refine ⟨x, rfl, by rw [hp, ptrs_dull], .inr ⟨by simp, fun w X v O hr => ?_⟩⟩
        rcases hc with ⟨_, rfl⟩ | ⟨_, hd⟩
        · exact rep_dull hr
        · exact hd w X v [] (rep_dull hr)
    · simp only [hst, if_false, Option.map_eq_map] at hy
      refine ⟨y, by simpa using hy, hp, ?_⟩
      rcases hc with ⟨h1, h2⟩ | ⟨h1, h2⟩
      · exact .inl ⟨by simp [h1, Ne.symm hst], h2⟩
      · exact .inr ⟨by simp [h1], h2⟩

theorem mem_set {r : Root} {l : List V} {d : Nat} {z : V} (h : r ∈ ptrsL (l.set d z)) : r ∈ ptrsL l ∨ r ∈ z.ptrs := by
  obtain ⟨x, hx, hr⟩ := mem_ptrsL.1 h
  rcases List.mem_or_eq_of_mem_set hx with hx | rfl
  · exact .inl (mem_ptrsL.2 ⟨x, hx, hr⟩)
  · exact .inr hr
theorem mem_dullAt {r : Root} {E : List V} {T : List Tmp} (h : r ∈ ptrsL (dullAt E T)) : r ∈ ptrsL E := by
  obtain ⟨x, hx, hr⟩ := mem_ptrsL.1 h
  obtain ⟨t, ht, hx⟩ := List.mem_iff_getElem.1 hx
  obtain ⟨y, hy, hp, _⟩ := dullAt_get T E t x (by rw [List.getElem?_eq_getElem ht, hx])
  exact mem_ptrsL.2 ⟨y, List.mem_of_getElem? hy, by rw [← hp]; exact hr⟩

/-- the owners after a value was put -/
def putO (O : Pl → List Nat) (T : List Tmp) (d : Option Tmp) (len : Nat) (O' : List Nat) : Pl → List Nat
  | .tmp t => if d = some t ∧ t < len then O' else if t ∈ T then [] else O (.tmp t)
  | .box r => O (.box r)

theorem box_put (st : St) (d : Option Tmp) (z : V) (r : Root) : (st.put d z).box r = st.box r := by
  cases d <;> rfl
theorem box_E (st : St) (E : List V) (r : Root) : ({ st with E := E } : St).box r = st.box r := rfl

theorem BoxR.keep {w' : World} {X' : Cx} {b : Nat} {c : List V} {O : List Nat} (h : BoxR w X b c O) (hb : w'.heap[b]? = w.heap[b]?) (hr : ∀ l vals O', (∀ r ∈ ptrsL l, r ∈ ptrsL c) → (∀ k ∈ O', k ∈ O) → RepL w X l vals O' → RepL w' X' l vals O') : BoxR w' X' b c O := by
  rcases h with ⟨cs, t, h1, h2⟩ | ⟨s, pe, g, env, ps, asg, body, lo, rfl, h1, h2, h3, h4, h5, h6, h7, h8, rfl⟩
  · exact .inl ⟨cs, t, by rw [hb]; exact h1, hr _ _ _ (fun _ h => h) (fun _ h => h) h2⟩
  · exact .inr ⟨s, pe, g, env, ps, asg, body, lo, rfl, by rw [hb]; exact h1, h2, h3, h4, h5, h6, h7, hr _ _ _ (fun r hr => by simpa [ptrsL, V.ptrs] using hr) (fun _ h => h) h8, rfl⟩

def putT (tmps : Array Value) (d : Option Tmp) (v : Value) : Array Value := match d with | some d => tmps.setIfInBounds d v | none => tmps

/-- A VALUE IS PUT: what an operation that touches no box comes to -/
theorem Rel.put {st : St} {tmps : Array Value} {O : Pl → List Nat} (h : Rel st tmps w X O) {T : List Tmp} {Oin O' : List Nat} {w' : World} {X' : Cx} {z : V} {v : Value} (d : Option Tmp)
    (hin : ∀ b ∈ Oin, ∃ t ∈ T, b ∈ O (.tmp t)) (he : Eff w X w' X' Oin) (hz : Rep w' X' z v O') (hl : Lin O') (hfree : ∀ b ∈ O', ∀ q, (∀ t ∈ T, q ≠ .tmp t) → b ∉ O q) (hp : ∀ r ∈ z.ptrs, (st.box r).isSome = true) :
    Rel (({ st with E := dullAt st.E T } : St).put d z) (putT tmps d v) w' X' (putO O T d st.E.length O') := by
  have hext : ∀ {l : List V} {vals : List Value} {A : List Nat}, (∀ b ∈ A, b ∉ Oin) → RepL w X l vals A → RepL w' X' l vals A := fun hA hr => RepL.ext (he.ext h.dom (ptrsL _)) _ _ _ (fun _ h => h) hA hr
  have hext1 : ∀ {x : V} {u : Value} {A : List Nat}, (∀ b ∈ A, b ∉ Oin) → Rep w X x u A → Rep w' X' x u A := fun hA hr => Rep.ext (he.ext h.dom (V.ptrs _)) _ _ _ (fun _ h => h) hA hr
  have hnotin : ∀ p, (∀ t ∈ T, p ≠ .tmp t) → ∀ b ∈ O p, b ∉ Oin := fun p hp b hb hbi => by
    obtain ⟨t, ht, hbt⟩ := hin b hbi
    exact h.dis p (.tmp t) (hp t ht) b hb hbt
  have henv1 : ∀ t x, (dullAt st.E T)[t]? = some x → ∃ u, tmps[t]? = some u ∧ Rep w' X' x u (if t ∈ T then [] else O (.tmp t)) := by
    intro t x hx
    obtain ⟨y, hy, _, hc⟩ := dullAt_get T st.E t x hx
    obtain ⟨u, hu, hr⟩ := h.env t y hy
    refine ⟨u, hu, ?_⟩
    rcases hc with ⟨hn, rfl⟩ | ⟨hm, hd⟩
    · rw [if_neg hn]; exact hext1 (hnotin (.tmp t) (fun s hs e => hn (by cases e; exact hs))) hr
    · rw [if_pos hm]; exact hext1 (by simp) (hd w X u _ hr)
  have hlenE : (({ st with E := dullAt st.E T } : St).put d z).E.length = st.E.length := by cases d <;> simp [St.put, dullAt_length]
  refine { size := ?_, env := ?_, envD := ?_, box := ?_, boxD := ?_, inj := ?_, lin := ?_, dis := ?_, ptrE := ?_, ptrB := ?_, up := fun r c hr => by rw [box_put] at hr; exact h.up r c hr, dom := he.dom }
  · rw [hlenE, ← h.size]; cases d <;> simp [putT]
  · intro t x hx
    cases d with
    | none =>
      obtain ⟨u, hu, hr⟩ := henv1 t x (by simpa [St.put] using hx)
      exact ⟨u, by simpa [putT] using hu, by simpa [putO] using hr⟩
    | some d =>
      have hx' : ((dullAt st.E T).set d z)[t]? = some x := hx
      have hlt : t < st.E.length := by have := (List.getElem?_eq_some_iff.1 hx').1; simpa [dullAt_length] using this
      by_cases hdt : d = t
      · subst hdt
        rw [List.getElem?_set_self (by rw [dullAt_length]; exact hlt)] at hx'
        cases hx'
        refine ⟨v, by simp [putT, h.size, hlt], by simpa [putO, hlt] using hz⟩
      · rw [List.getElem?_set_ne hdt] at hx'
        obtain ⟨u, hu, hr⟩ := henv1 t x hx'
        refine ⟨u, by simp [putT, hdt, hu], by simpa [putO, hdt] using hr⟩
  · intro t ht
    rw [hlenE] at ht
    simp only [putO]
    rw [if_neg (by omega)]
    split
    · rfl
    · exact h.envD t ht
  · intro r c hr
    rw [box_put] at hr
    obtain ⟨b, hb, hlt, hω, hbx⟩ := h.box r c hr
    have hnb : b ∉ Oin := fun hbi => by
      obtain ⟨t, _, hbt⟩ := hin b hbi
      obtain ⟨e, he⟩ := h.ownω _ b hbt
      rw [hω] at he; cases he
    refine ⟨b, by rw [he.β]; exact hb, Nat.lt_of_lt_of_le hlt he.size, by rw [he.ωk b hlt hnb]; exact hω, hbx.keep (he.kept b hlt hnb) (fun l vals A _ hA hr => hext (fun k hk => hnotin (.box r) (fun t _ e => by cases e) k (hA k hk)) hr)⟩
  · intro r hr; rw [box_put] at hr; exact h.boxD r hr
  · intro r r' b h1 h2 h3 h4
    rw [box_put] at h1 h2; rw [he.β] at h3 h4
    exact h.inj r r' b h1 h2 h3 h4
  · intro p
    cases p with
    | tmp t => simp only [putO]; split; exact hl; split; exact Lin.nil; exact h.lin _
    | box r => exact h.lin _
  · have key : ∀ t, d = some t → t < st.E.length → ∀ b ∈ O', ∀ q, q ≠ .tmp t → b ∉ putO O T d st.E.length O' q := by
      intro t hd hlt b hb q hq hbq
      have hbO : (∀ s ∈ T, q ≠ .tmp s) ∧ b ∈ O q := by
        cases q with
        | tmp s =>
          simp only [putO] at hbq
          rw [if_neg (by rintro ⟨e, _⟩; rw [hd] at e; cases e; exact hq rfl)] at hbq
          split at hbq
          · simp at hbq
          · rename_i hn; exact ⟨fun s' hs' e => by cases e; exact hn hs', hbq⟩
        | box r => exact ⟨fun _ _ e => (by cases e), hbq⟩
      exact hfree b hb q hbO.1 hbO.2
    have hsub : ∀ p b, b ∈ putO O T d st.E.length O' p → (∃ t, p = .tmp t ∧ d = some t ∧ t < st.E.length ∧ b ∈ O') ∨ b ∈ O p := by
      intro p b hb
      cases p with
      | tmp t =>
        simp only [putO] at hb
        split at hb
        · rename_i hc; exact .inl ⟨t, rfl, hc.1, hc.2, hb⟩
        · split at hb
          · simp at hb
          · exact .inr hb
      | box r => exact .inr hb
    intro p q hpq b hb hbq
    rcases hsub p b hb with ⟨t, rfl, hd, hlt, hbO⟩ | hbp
    · exact key t hd hlt b hbO q (Ne.symm hpq) hbq
    · rcases hsub q b hbq with ⟨t, rfl, hd, hlt, hbO⟩ | hbq'
      · exact key t hd hlt b hbO p hpq hb
      · exact h.dis p q hpq b hbp hbq'
  · intro r hr
    rw [box_put]
    cases d with
    | none => exact h.ptrE r (mem_dullAt hr)
    | some d =>
      rcases mem_set (l := dullAt st.E T) hr with hr | hr
      · exact h.ptrE r (mem_dullAt hr)
      · exact hp r hr
  · intro r c hr r' hr'
    rw [box_put] at hr ⊢
    exact h.ptrB r c hr r' hr'

theorem Rel.free {st : St} {tmps : Array Value} {O : Pl → List Nat} (h : Rel st tmps w X O) {T : List Tmp} {Oin O' : List Nat} (hin : ∀ b ∈ Oin, ∃ t ∈ T, b ∈ O (.tmp t)) (hO' : ∀ b ∈ O', b ∈ Oin ∨ w.heap.size ≤ b) :
    ∀ b ∈ O', ∀ q, (∀ t ∈ T, q ≠ .tmp t) → b ∉ O q := fun b hb q hq hbq => by
  rcases hO' b hb with h1 | h1
  · obtain ⟨t, ht, hbt⟩ := hin b h1
    exact h.dis q (.tmp t) (hq t ht) b hbq hbt
  · have := h.ownlt q b hbq; omega

theorem Fr.put {w0 : World} {X0 : Cx} {M : Md} {n : Nat} {st : St} {tmps : Array Value} {O : Pl → List Nat} (h : Rel st tmps w X O) (hF : Fr w0 X0 M n st w X O) {T : List Tmp} {Oin O' : List Nat} {w' : World} {X' : Cx} {z : V} (d : Option Tmp)
    (hin : ∀ b ∈ Oin, ∃ t ∈ T, b ∈ O (.tmp t)) (he : Eff w X w' X' Oin) (hO' : ∀ b ∈ O', b ∈ Oin ∨ w.heap.size ≤ b) :
    Fr w0 X0 M n (({ st with E := dullAt st.E T } : St).put d z) w' X' (putO O T d st.E.length O') where
  size := Nat.le_trans hF.size he.size
  kept := fun b hb hM => by
    have hnb : b ∉ Oin := fun hbi => by
      obtain ⟨t, _, hbt⟩ := hin b hbi
      rcases hF.own _ b hbt with h1 | h1
      · omega
      · exact hM h1
    have hlt := Nat.lt_of_lt_of_le hb hF.size
    obtain ⟨h1, h2⟩ := hF.kept b hb hM
    exact ⟨by rw [he.kept b hlt hnb, h1], by rw [he.ωk b hlt hnb, h2]⟩
  grew := fun b e fz hω => by
    obtain ⟨e1, fz1, h1, h2, h3, h4⟩ := hF.grew b e fz hω
    by_cases hb : b ∈ Oin
    · obtain ⟨e2, fz2, h5, h6, h6', h7, _⟩ := he.own b hb e1 fz1 h1
      exact ⟨e2, fz2, h5, by omega, fun hz => h6' (h3 hz), fun i v hi hc => h7 i v (by omega) (h4 i v hi hc)⟩
    · have hlt := h.dom b e1 fz1 h1
      exact ⟨e1, fz1, by rw [he.ωk b hlt hb]; exact h1, h2, h3, fun i v hi hc => by rw [cell_of_heap (he.kept b hlt hb)]; exact h4 i v hi hc⟩
  β := fun r hr => by rw [he.β]; exact hF.β r hr
  own := fun p b hb => by
    have hO : b ∈ O' ∨ b ∈ O p := by
      cases p with
      | tmp t =>
        simp only [putO] at hb
        split at hb
        · exact .inl hb
        · split at hb
          · simp at hb
          · exact .inr hb
      | box r => exact .inr hb
    rcases hO with hb | hb
    · rcases hO' b hb with h1 | h1
      · obtain ⟨t, _, hbt⟩ := hin b h1; exact hF.own _ b hbt
      · exact .inl (Nat.le_trans hF.size h1)
    · exact hF.own p b hb
  boxM := fun r b hr hb => by rw [box_put] at hr; rw [he.β] at hb; exact hF.boxM r b hr hb
  lev := by cases d <;> exact hF.lev
  live := fun r hr => by rw [box_put]; exact hF.live r hr
  os := by rw [he.os, hF.os]
  out := by rw [he.out, hF.out]
  tape := by rw [he.tape, hF.tape]
end Go.Ab
