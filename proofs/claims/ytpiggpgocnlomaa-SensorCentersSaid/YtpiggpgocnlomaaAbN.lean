/-
  CALLS: what is said of a called function; what its call does to the caller's state.
-/
import Derived.Test.YtpiggpgocnlomaaAbM
set_option linter.unusedVariables false
namespace Go.Ab
open Go
variable {P : Program} {H : Hints} {f : FuncId} {w : World} {X : Cx}

def boxL (M : List Level) (r : Root) : Option (List V) := match M[r.lvl]? with | some b => lookB b r.slot | none => none

theorem box_boxL (st : St) (r : Root) : st.box r = boxL (st.L ++ [st.B]) r := by
  unfold St.box boxL
  by_cases h : r.lvl = st.L.length
  · simp [h]
  · simp only [h, if_false]
    by_cases hlt : r.lvl < st.L.length
    · rw [List.getElem?_append_left hlt]; rfl
    · rw [List.getElem?_eq_none (by omega), List.getElem?_eq_none (by simp; omega)]

/-- the boxes of levels -/
structure LRel (M : List Level) (w : World) (X : Cx) (O : Root → List Nat) : Prop where
  box : ∀ r c, boxL M r = some c → ∃ b, X.β r = some b ∧ b < w.heap.size ∧ X.ω b = none ∧ BoxR w X b c (O r)
  boxD : ∀ r, boxL M r = none → O r = []
  inj : ∀ r r' b, (boxL M r).isSome = true → (boxL M r').isSome = true → X.β r = some b → X.β r' = some b → r = r'
  lin : ∀ r, Lin (O r)
  dis : ∀ r r', r ≠ r' → ∀ b ∈ O r, b ∉ O r'
  ptrB : ∀ r c, boxL M r = some c → ∀ r' ∈ ptrsL c, (boxL M r').isSome = true
  up : ∀ r c, boxL M r = some c → ∀ r' ∈ ptrsL c, r'.lvl ≤ r.lvl
  dom : Dom w X

theorem Rel.lrel {st : St} {tmps : Array Value} {O : Pl → List Nat} (h : Rel st tmps w X O) : LRel (st.L ++ [st.B]) w X (fun r => O (.box r)) where
  box := fun r c hr => h.box r c (by rw [box_boxL]; exact hr)
  boxD := fun r hr => h.boxD r (by rw [box_boxL]; exact hr)
  inj := fun r r' b h1 h2 => h.inj r r' b (by rw [box_boxL]; exact h1) (by rw [box_boxL]; exact h2)
  lin := fun r => h.lin _
  dis := fun r r' hne => h.dis _ _ (fun e => hne (by cases e; rfl))
  ptrB := fun r c hr r' hr' => by rw [← box_boxL]; exact h.ptrB r c (by rw [box_boxL]; exact hr) r' hr'
  up := fun r c hr => h.up r c (by rw [box_boxL]; exact hr)
  dom := h.dom

theorem LRel.own {M : List Level} {O : Root → List Nat} (h : LRel M w X O) : ∀ r, ∀ b ∈ O r, ∃ e, X.ω b = some (e, false) := fun r b hb => by
  cases hr : boxL M r with
  | none => rw [h.boxD r hr] at hb; simp at hb
  | some c => obtain ⟨k, _, _, _, hbx⟩ := h.box r c hr; exact hbx.own b hb

/-- what a called function may write: the boxes, and what they own -/
def Mod (M : List Level) (X : Cx) (O : Root → List Nat) : Md where
  may := fun b => (∃ r, (boxL M r).isSome = true ∧ X.β r = some b) ∨ ∃ r, b ∈ O r
  kind := fun r => (boxL M r).map isLp

/-- what a call leaves -/
structure Aft (w : World) (X : Cx) (Md : Md) (n : Nat) (w' : World) (X' : Cx) (own : Nat → Prop) : Prop where
  size : w.heap.size ≤ w'.heap.size
  kept : ∀ b, b < w.heap.size → ¬ Md b → w'.heap[b]? = w.heap[b]? ∧ X'.ω b = X.ω b
  grew : ∀ b e fz, X.ω b = some (e, fz) → ∃ e' fz', X'.ω b = some (e', fz') ∧ e ≤ e' ∧ (fz = true → fz' = true) ∧ ∀ i v, i < e → w.cell? ⟨b, i, none⟩ = some v → w'.cell? ⟨b, i, none⟩ = some v
  β : ∀ r, r.lvl < n → X'.β r = X.β r
  own : ∀ b, own b → w.heap.size ≤ b ∨ Md b
  os : w'.os = w.os
  out : w'.output = w.output
  tape : w'.tape = w.tape

def Post (M : List Level) (r : V) (M' : List Level) (w : World) (X : Cx) (O : Root → List Nat) (v : Value) (w' : World) : Prop :=
  ∃ X' O' Or, Rep w' X' r v Or ∧ LRel M' w' X' O' ∧ Lin Or ∧ (∀ q, ∀ b ∈ Or, b ∉ O' q) ∧ (∀ q ∈ r.ptrs, (boxL M' q).isSome = true) ∧ M'.length = M.length ∧ (∀ q, (boxL M' q).map isLp = (boxL M q).map isLp) ∧
    Aft w X (Mod M X O) M.length w' X' (fun b => b ∈ Or ∨ ∃ q, b ∈ O' q)

/-- a call is made, and comes to R -/
def Does (ext : Prop) (P : Program) (g : FuncId) (args : Array Value) (w : World) (R : Value → World → Prop) : Prop :=
  ((callFunc g args).run P w = .ok (.enter g args) w ∧ Calls P g args w fun e w' => ∃ v, e = .returned v ∧ R v w') ∨
  (ext ∧ ∃ v w', (callFunc g args).run P w = .ok (.value v) w' ∧ R v w')
theorem Does.mono {ext ext' : Prop} {P : Program} {g : FuncId} {args : Array Value} {w : World} {R R' : Value → World → Prop} (h : Does ext P g args w R) (he : ext → ext') (hr : ∀ v w', R v w' → R' v w') : Does ext' P g args w R' := by
  rcases h with ⟨h1, h2⟩ | ⟨h0, v, w', h1, h2⟩
  · exact .inl ⟨h1, h2.mono fun e w' ⟨v, he, hR⟩ => ⟨v, he, hr _ _ hR⟩⟩
  · exact .inr ⟨he h0, v, w', h1, hr _ _ h2⟩

def CallOk (P : Program) (g : FuncId) (args : List V) (M : List Level) (r : V) (M' : List Level) : Prop :=
  ∀ (w : World) (X : Cx) (vals : List Value) (O : Root → List Nat), RepL w X args vals [] → LRel M w X O → (∀ q ∈ ptrsL args, (boxL M q).isSome = true) → (M = [] → ∀ b e fz, X.ω b = some (e, fz) → fz = true) →
    Does (M = []) P g vals.toArray w fun v w' => Post M r M' w X O v w'

/-! ### what the called function is handed -/
/-- some blocks are frozen for good -/
def Cx.freeze (X : Cx) (F : List Nat) : Cx := { X with ω := fun b => if b ∈ F then (X.ω b).map (fun p => (p.1, true)) else X.ω b }
/-- the callee's view: what it may not write is frozen; what is not frozen and not handed over is not there (unless something loose is handed) -/
def Cx.callee (X : Cx) (loose : Bool) (own : Nat → Bool) : Cx :=
  { X with ω := fun b => if own b then X.ω b else (X.ω b).bind fun p => if p.2 || loose then some (p.1, true) else none }

theorem frozen_ω {F : List Nat} {b e : Nat} {fz : Bool} (h : X.ω b = some (e, fz)) : (X.freeze F).ω b = some (e, decide (b ∈ F) || fz) := by
  simp only [Cx.freeze]; rw [h]; split <;> simp [*]
theorem callee_ω {loose : Bool} {own : Nat → Bool} {b e : Nat} {fz : Bool} (h : X.ω b = some (e, fz)) : (X.callee loose own).ω b = if own b then some (e, fz) else if fz || loose then some (e, true) else none := by
  simp only [Cx.callee, h]; split <;> simp

theorem repL_share {args : List V} {vals : List Value} {Oa : List Nat} {own : Nat → Bool} (h : RepL w X args vals Oa) (hown : ∀ b ∈ Oa, own b = false) (hol : looseL args = true → ∀ b, own b = false) :
    RepL w ((X.freeze Oa).callee (looseL args) own) (reflagL flShare args) vals [] := by
  refine RepL.flags (X := X) (S := fun b => b ∈ Oa) (D := looseL args) ?_ args vals Oa (fun _ h => h) (fun h => h) h
  refine { β := rfl, own := fun f => by simp [flShare], dul := fun f hf => by simp [flShare] at hf, ω := ?_, sh := ?_ }
  · intro hD b e fz hω
    rw [callee_ω (frozen_ω hω), hol hD b, hD]
    simp
  · intro fl b e fz hω hS hsh hd _
    rw [callee_ω (frozen_ω hω)]
    cases fl with
    | own =>
      have hb := hS rfl
      rw [hown b hb]; simp [hb]
    | shared =>
      have := hsh rfl; subst this
      split <;> simp
    | dull =>
      have hD := hd rfl
      rw [hol hD b, hD]; simp

/-- behind the call: the caller's view again -/
def Cx.back (X X' : Cx) (sz : Nat) (own : Nat → Bool) : Cx := { β := X.β, ω := fun b => if b < sz ∧ own b = false then X.ω b else X'.ω b }

theorem flags_loosen (X X' : Cx) (S : Nat → Prop) (hβ : X'.β = X.β) (hω : ∀ b e fz, X.ω b = some (e, fz) → ∃ fz', X'.ω b = some (e, fz') ∧ (S b → fz' = fz)) : Flags' flLoosen X X' S where
  β := hβ
  own := fun f => by cases f <;> simp [flLoosen]
  ω := hω
  sh := fun f b e fz _ _ _ hg => by cases f <;> simp [flLoosen] at hg

theorem boxL_append_lt {L L' : List Level} {r : Root} (h : r.lvl < L.length) : boxL (L ++ L') r = boxL L r := by
  unfold boxL; rw [List.getElem?_append_left h]

theorem lastSplit_eq : ∀ {M L : List Level} {B : Level}, lastSplit M = some (L, B) → M = L ++ [B]
  | [b], L, B, h => by simp only [lastSplit, Option.some.injEq, Prod.mk.injEq] at h; obtain ⟨rfl, rfl⟩ := h; rfl
  | b :: c :: l, L, B, h => by
    simp only [lastSplit] at h
    obtain ⟨⟨L1, B1⟩, h1, h2⟩ := Option.map_eq_some_iff.1 h
    simp only [Prod.mk.injEq] at h2
    obtain ⟨rfl, rfl⟩ := h2
    rw [lastSplit_eq h1]; rfl

theorem Aft.ext {Md : Md} {n : Nat} {w' : World} {X' : Cx} {own : Nat → Prop} (h : Aft w X Md n w' X' own) (hd : Dom w X) {R : List Root} (hR : ∀ r ∈ R, r.lvl < n) : Ext R w X w' X' (fun b => Md b) where
  β := fun r hr => h.β r (hR r hr)
  ω := fun b e fz hω => by
    obtain ⟨e', fz', h1, h2, h3, _⟩ := h.grew b e fz hω
    refine ⟨e', fz', h1, h2, h3, fun hn => ?_⟩
    rw [(h.kept b (hd b e fz hω) hn).2, hω] at h1
    cases h1; exact ⟨rfl, rfl⟩
  cell := fun b e fz i v hω hi hc => by
    obtain ⟨_, _, _, _, _, h4⟩ := h.grew b e fz hω
    exact h4 i v hi hc
  obj := fun b e fz c t hU hω hc => ⟨c, by rw [(h.kept b (hd b e fz hω) hU).1]; exact hc, rfl⟩

/-- the owners behind a call -/
def backO (O : Pl → List Nat) (O' : Root → List Nat) : Pl → List Nat
  | .tmp t => O (.tmp t)
  | .box q => O' q

/-- BACK FROM A CALL: the boxes are what the call left -/
theorem call_back {w0 : World} {X0 : Cx} {Md : Md} {n : Nat} {st : St} {tmps : Array Value} {O : Pl → List Nat} (h : Rel st tmps w X O) (hF : Fr w0 X0 Md n st w X O) {M' : List Level} {w' : World} {L : List Level} {B : Level} {X' : Cx} {O' : Root → List Nat} {ow : Nat → Prop}
    (hlr : LRel M' w' X' O') (hlen : M'.length = (st.L ++ [st.B]).length) (hkind : ∀ q, (boxL M' q).map isLp = (boxL (st.L ++ [st.B]) q).map isLp) (how : ∀ q, ∀ b ∈ O' q, ow b)
    (haft : Aft w X (Mod (st.L ++ [st.B]) X (fun q => O (.box q))) (st.L ++ [st.B]).length w' X' ow) (hM : M' = L ++ [B]) :
    Rel { st with L := L, B := B } tmps w' X' (backO O O') ∧ Fr w0 X0 Md n { st with L := L, B := B } w' X' (backO O O') := by
  subst hM
  have hlive : ∀ q, (boxL (L ++ [B]) q).isSome = (boxL (st.L ++ [st.B]) q).isSome := fun q => by
    have := hkind q; cases h1 : boxL (L ++ [B]) q <;> cases h2 : boxL (st.L ++ [st.B]) q <;> simp_all
  have hLl : L.length = st.L.length := by simpa using hlen
  have hbox : ∀ q, ({ st with L := L, B := B } : St).box q = boxL (L ++ [B]) q := fun q => box_boxL _ q
  have hliv : ∀ q, (({ st with L := L, B := B } : St).box q).isSome = (st.box q).isSome := fun q => by rw [hbox, hlive, ← box_boxL]
  have hMd : ∀ b, Mod (st.L ++ [st.B]) X (fun q => O (.box q)) b → (∃ r, (st.box r).isSome = true ∧ X.β r = some b) ∨ ∃ r, b ∈ O (.box r) := fun b hb => by
    rcases hb with ⟨r, h1, h2⟩ | h1
    · exact .inl ⟨r, by rw [box_boxL]; exact h1, h2⟩
    · exact .inr h1
  have hωb : ∀ b, (∃ r, (st.box r).isSome = true ∧ X.β r = some b) → X.ω b = none := by
    rintro b ⟨r, h1, h2⟩
    obtain ⟨c, hc⟩ := Option.isSome_iff_exists.1 h1
    obtain ⟨b', hb', _, hω, _⟩ := h.box r c hc
    rw [h2] at hb'; cases hb'; exact hω
  have hnot : ∀ t, ∀ b ∈ O (.tmp t), ¬ Mod (st.L ++ [st.B]) X (fun q => O (.box q)) b := fun t b hb hm => by
    rcases hMd b hm with h1 | ⟨r, h1⟩
    · obtain ⟨e, he⟩ := h.ownω _ b hb
      rw [hωb b h1] at he; cases he
    · exact h.dis (.tmp t) (.box r) (by simp) b hb h1
  have hO' : ∀ q, ∀ b ∈ O' q, w.heap.size ≤ b ∨ (∃ r, (st.box r).isSome = true ∧ X.β r = some b) ∨ ∃ r, b ∈ O (.box r) := fun q b hb => by
    rcases haft.own b (how q b hb) with h1 | h1
    · exact .inl h1
    · exact .inr (hMd b h1)
  have hlv : ∀ q, (st.box q).isSome = true → q.lvl < (st.L ++ [st.B]).length := fun q hq => by simpa using box_lt hq
  constructor
  · refine { size := h.size, env := ?_, envD := h.envD, box := ?_, boxD := ?_, inj := ?_, lin := ?_, dis := ?_, ptrE := ?_, ptrB := ?_, up := fun r c hr => by rw [hbox] at hr; exact hlr.up r c hr, dom := hlr.dom }
    · intro t x hx
      obtain ⟨v, hv, hr⟩ := h.env t x hx
      exact ⟨v, hv, Rep.ext (haft.ext h.dom (R := x.ptrs) fun r hr => hlv r (h.ptrE r (mem_ptrsL.2 ⟨x, List.mem_of_getElem? hx, hr⟩))) _ _ _ (fun _ h => h) (hnot t) hr⟩
    · intro r c hr; rw [hbox] at hr; exact hlr.box r c hr
    · intro r hr; rw [hbox] at hr; exact hlr.boxD r hr
    · intro r r' b h1 h2; rw [hbox] at h1 h2; exact hlr.inj r r' b h1 h2
    · intro p; cases p with
      | tmp t => exact h.lin _
      | box r => exact hlr.lin r
    · have hc : ∀ t r, ∀ b ∈ O (.tmp t), b ∉ O' r := fun t r b hb hb' => by
        rcases hO' r b hb' with h1 | h1 | ⟨r', h1⟩
        · have := h.ownlt _ b hb; omega
        · obtain ⟨e, he⟩ := h.ownω _ b hb
          rw [hωb b h1] at he; cases he
        · exact h.dis (.tmp t) (.box r') (by simp) b hb h1
      intro p q hpq b hb hbq
      cases p with
      | tmp t => cases q with
        | tmp s => exact h.dis _ _ hpq b hb hbq
        | box r => exact hc t r b hb hbq
      | box r => cases q with
        | tmp s => exact hc s r b hbq hb
        | box r' => exact hlr.dis r r' (fun e => hpq (by rw [e])) b hb hbq
    · intro r hr; rw [hliv]; exact h.ptrE r hr
    · intro r c hr r' hr'; rw [hbox] at hr ⊢; exact hlr.ptrB r c hr r' hr'
  · have hMd0 : ∀ b, b < w0.heap.size → Mod (st.L ++ [st.B]) X (fun q => O (.box q)) b → Md b := fun b hb hm => by
      rcases hMd b hm with ⟨r, h1, h2⟩ | ⟨r, h1⟩
      · rcases hF.boxM r b h1 h2 with h3 | h3
        · omega
        · exact h3
      · rcases hF.own _ b h1 with h3 | h3
        · omega
        · exact h3
    exact {
      size := Nat.le_trans hF.size haft.size
      kept := fun b hb hM => by
        obtain ⟨h1, h2⟩ := hF.kept b hb hM
        obtain ⟨h3, h4⟩ := haft.kept b (Nat.lt_of_lt_of_le hb hF.size) (fun hm => hM (hMd0 b hb hm))
        exact ⟨by rw [h3, h1], by rw [h4, h2]⟩
      grew := fun b e fz hω => by
        obtain ⟨e1, fz1, h1, h2, h3, h4⟩ := hF.grew b e fz hω
        obtain ⟨e2, fz2, h5, h6, h7, h8⟩ := haft.grew b e1 fz1 h1
        exact ⟨e2, fz2, h5, by omega, fun hz => h7 (h3 hz), fun i v hi hc => h8 i v (by omega) (h4 i v hi hc)⟩
      β := fun r hr => by rw [haft.β r (by have := hF.lev; simp; omega), hF.β r hr]
      own := fun p b hb => by
        cases p with
        | tmp t => exact hF.own _ b hb
        | box r =>
          rcases hO' r b hb with h1 | ⟨r', h1, h2⟩ | ⟨r', h1⟩
          · exact .inl (Nat.le_trans hF.size h1)
          · exact hF.boxM r' b h1 h2
          · exact hF.own _ b h1
      boxM := fun r b hr hb => by
        rw [hliv] at hr
        rw [haft.β r (hlv r hr)] at hb
        exact hF.boxM r b hr hb
      lev := by show L.length = n; rw [hLl]; exact hF.lev
      live := fun r hr => by rw [hbox, hkind, ← box_boxL]; exact hF.live r hr
      os := by rw [haft.os, hF.os]
      out := by rw [haft.out, hF.out]
      tape := by rw [haft.tape, hF.tape] }

theorem repL_hand {args : List V} {vals : List Value} {Oa : List Nat} (h : RepL w X args vals Oa) : RepL w (X.freeze Oa) (reflagL flHand args) vals [] := by
  refine RepL.flags (X := X) (S := fun b => b ∈ Oa) (D := true) ?_ args vals Oa (fun _ h => h) (fun _ => rfl) h
  refine { β := rfl, own := fun f => by cases f <;> simp [flHand], dul := fun _ _ => rfl, ω := fun _ b e fz hω => ⟨_, frozen_ω hω⟩, sh := ?_ }
  intro fl b e fz hω hS hsh _ hg
  rw [frozen_ω hω]
  cases fl with
  | own => simp [hS rfl]
  | shared => simp [hsh rfl]
  | dull => simp [flHand] at hg

/-- what was handed over is frozen -/
theorem eff_freeze {Oa : List Nat} (hd : Dom w X) (hOa : ∀ b ∈ Oa, ∃ e, X.ω b = some (e, false)) : Eff w X w (X.freeze Oa) Oa where
  size := Nat.le_refl _
  kept := fun _ _ _ => rfl
  ωk := fun b _ hn => by simp [Cx.freeze, hn]
  own := fun b hb e fz hω => ⟨e, true, by rw [frozen_ω hω]; simp [hb], Nat.le_refl _, fun _ => rfl, fun _ _ _ h => h, fun c t hc => ⟨c, hc, rfl⟩⟩
  β := rfl
  dom := fun b e fz hω => by
    simp only [Cx.freeze] at hω
    split at hω
    · rename_i hb; obtain ⟨e', he'⟩ := hOa b hb; exact hd b e' _ he'
    · exact hd b e fz hω
  os := rfl
  out := rfl
  tape := rfl

/-- THE CALL OF A FUNCTION WITH ITS VALUES -/
theorem call_ok {C : Orc} (hC : ∀ g args M r M', C.call g args M = some (r, M') → CallOk P g args M r M') {w0 : World} {X0 : Cx} {Md : Md} {n : Nat} {st st1 : St} {tmps : Array Value} {O : Pl → List Nat} {g : FuncId} {args : List V} {vals : List Value} {Oa : List Nat} {T : List Tmp} {z : V} {s : St} {d : Option Tmp}
    (h : Rel st tmps w X O) (hF : Fr w0 X0 Md n st w X O) (hst1 : st1 = { st with E := dullAt st.E T }) (ha : RepL w X args vals Oa) (hin : ∀ b ∈ Oa, ∃ t ∈ T, b ∈ O (.tmp t)) (hla : Lin Oa) (hpa : ∀ q ∈ ptrsL args, (st.box q).isSome = true)
    (hx : vcall C g args st1 = some (z, s)) :
    Does (ptrsL args = []) P g vals.toArray w fun v w' => ∃ X' O', Rel (s.put d z) (putT tmps d v) w' X' O' ∧ Fr w0 X0 Md n (s.put d z) w' X' O' ∧ ∀ r, r.lvl ≤ st.L.length → X'.β r = X.β r := by
  subst hst1
  unfold vcall at hx
  have hOaω := repL_own args vals Oa ha
  have hOalt := repL_dom h.dom args vals Oa ha
  split at hx
  · -- nothing but values
    rename_i hnp
    split at hx
    · rename_i r hr
      obtain ⟨rfl, rfl⟩ := Prod.mk.inj (Option.some.inj hx)
      have hok := hC _ _ _ _ _ hr w ((X.freeze Oa).callee (looseL args) fun _ => false) vals (fun _ => [])
        (by rw [show args.map V.share = reflagL flShare args from (reflagL_eq_map _ _).symm]; exact repL_share ha (fun _ _ => rfl) (fun _ _ => rfl))
        { box := fun r c hc => by simp [boxL] at hc, boxD := fun _ _ => rfl, inj := fun r r' b h1 => by simp [boxL] at h1, lin := fun _ => Lin.nil, dis := fun _ _ _ _ h => by simp at h, ptrB := fun r c hc => by simp [boxL] at hc, up := fun r c hc => by simp [boxL] at hc
          dom := fun b e fz hω => by
            simp only [Cx.callee, Cx.freeze, Bool.false_eq_true, if_false] at hω
            by_cases hb : b ∈ Oa
            · exact hOalt b hb
            · rw [if_neg hb] at hω
              obtain ⟨p, hp, _⟩ := Option.bind_eq_some_iff.1 hω
              exact h.dom b p.1 p.2 hp }
        (fun q hq => by rw [show args.map V.share = reflagL flShare args from (reflagL_eq_map _ _).symm, ptrsL_reflag] at hq; rw [show ptrsL args = [] by simpa using hnp] at hq; simp at hq)
        (fun _ b e fz hω => by
          simp only [Cx.callee, Bool.false_eq_true, if_false] at hω
          obtain ⟨p, _, hc⟩ := Option.bind_eq_some_iff.1 hω
          split at hc
          · cases hc; rfl
          · cases hc)
      refine hok.mono (fun _ => by simpa using hnp) ?_
      rintro v w' ⟨X', O', Or, hrep, hlr, hlin, hfree, hpr, _, _, haft⟩
      have hOr : ∀ b ∈ Or, w.heap.size ≤ b := fun b hb => by
        rcases haft.own b (.inl hb) with h1 | ⟨q, h1, _⟩ | ⟨q, h1⟩
        · exact h1
        · simp [boxL] at h1
        · simp at h1
      have hnoM : ∀ b, ¬ Mod [] ((X.freeze Oa).callee (looseL args) fun _ => false) (fun _ => []) b := fun b hb => by
        rcases hb with ⟨q, h1, _⟩ | ⟨q, h1⟩
        · simp [boxL] at h1
        · simp at h1
      have hrp : r.ptrs = [] := by
        cases hrr : r.ptrs with
        | nil => rfl
        | cons q l => have := hpr q (by rw [hrr]; simp); simp [boxL] at this
      let X2 : Cx := (X.freeze Oa).back X' w.heap.size fun _ => false
      have hX2 : ∀ b, X2.ω b = if b < w.heap.size then (X.freeze Oa).ω b else X'.ω b := fun b => by simp [X2, Cx.back]
      have heff : Eff w X w' X2 Oa := {
        size := haft.size
        kept := fun b hb _ => (haft.kept b hb (hnoM b)).1
        ωk := fun b hb hn => by rw [hX2, if_pos hb]; simp [Cx.freeze, hn]
        own := fun b hb e fz hω => by
          have hlt := hOalt b hb
          refine ⟨e, true, by rw [hX2, if_pos hlt, frozen_ω hω]; simp [hb], Nat.le_refl _, fun _ => rfl, fun i v _ hc => by rw [cell_of_heap (haft.kept b hlt (hnoM b)).1]; exact hc, fun c t hc => ⟨c, by rw [(haft.kept b hlt (hnoM b)).1]; exact hc, rfl⟩⟩
        β := rfl
        dom := fun b e fz hω => by
          rw [hX2] at hω
          split at hω
          · have := haft.size; omega
          · exact hlr.dom b e fz hω
        os := haft.os
        out := haft.out
        tape := haft.tape }
      -- the result, seen by the caller
      have hold : ∀ b e fz, X'.ω b = some (e, fz) → b < w.heap.size → fz = true ∧ ∃ fz1, (X.freeze Oa).ω b = some (e, fz1) ∧ (looseL args = false → fz1 = true) := fun b e fz hω hlt => by
        rw [(haft.kept b hlt (hnoM b)).2] at hω
        simp only [Cx.callee, Bool.false_eq_true, if_false] at hω
        obtain ⟨p, hp, hc⟩ := Option.bind_eq_some_iff.1 hω
        split at hc
        · rename_i h1
          cases hc
          refine ⟨rfl, p.2, hp, fun hl => by simpa [hl] using h1⟩
        · cases hc
      have hrep1 : Rep w' { X' with β := X.β } r v Or := Rep.ext (X := X') (X' := { X' with β := X.β }) (w' := w') (R := []) (U := fun _ => False)
        { β := by simp, ω := fun b e fz h => ⟨e, fz, h, Nat.le_refl _, id, fun _ => ⟨rfl, rfl⟩⟩, cell := fun _ _ _ _ _ _ _ h => h, obj := fun b e fz c t _ _ h => ⟨c, h, rfl⟩ } _ _ _ (by rw [hrp]; simp) (by simp) hrep
      have hz : Rep w' X2 (if looseL args = true then r.loosen else r) v Or := by
        by_cases hl : looseL args = true
        · rw [if_pos hl]
          refine Rep.flags' (flags_loosen { X' with β := X.β } X2 (fun b => b ∈ Or) rfl fun b e fz hω => ?_) _ _ _ (fun _ h => h) hrep1
          rw [hX2]
          split
          · rename_i hlt
            obtain ⟨_, fz1, h1, _⟩ := hold b e fz hω hlt
            exact ⟨fz1, h1, fun hb => by have := hOr b hb; omega⟩
          · exact ⟨fz, hω, fun _ => rfl⟩
        · rw [if_neg hl]
          have hl' : looseL args = false := by simpa using hl
          refine Rep.ext (R := []) (U := fun _ => False) { β := by simp, ω := fun b e fz hω => ?_, cell := fun _ _ _ _ _ _ _ h => h, obj := fun b e fz c t _ _ h => ⟨c, h, rfl⟩ } _ _ _ (by rw [hrp]; simp) (by simp) hrep1
          refine ⟨e, fz, ?_, Nat.le_refl _, id, fun _ => ⟨rfl, rfl⟩⟩
          rw [hX2]
          split
          · rename_i hlt
            obtain ⟨rfl, fz1, h1, h2⟩ := hold b e fz hω hlt
            rw [h1, h2 hl']
          · exact hω
      refine ⟨X2, _, h.put (T := T) d hin heff hz hlin (h.free hin fun b hb => .inr (hOr b hb)) (fun q hq => ?_), Fr.put h hF (T := T) d hin heff (fun b hb => .inr (hOr b hb)), fun _ _ => rfl⟩
      have : (if looseL args = true then r.loosen else r).ptrs = [] := by split <;> simp [V.loosen, ptrs_reflag, hrp]
      rw [this] at hq; simp at hq
    · cases hx
  · -- with boxes
    split at hx
    · rename_i r M' hr
      split at hx
      · rename_i L B hsp
        split at hx
        · rename_i hll
          obtain ⟨rfl, rfl⟩ := Prod.mk.inj (Option.some.inj hx)
          have heff := eff_freeze h.dom hOaω
          have h1 := h.put (T := T) (d := none) (z := .undef) (v := undef) (O' := []) hin heff (by simp [Rep]) Lin.nil (by simp) (by simp [V.ptrs])
          have hF1 := Fr.put (z := .undef) h hF (T := T) (O' := []) none hin heff (by simp)
          change Rel { st with E := dullAt st.E T } tmps w _ _ at h1
          change Fr w0 X0 Md n { st with E := dullAt st.E T } w _ _ at hF1
          have hok := hC _ _ _ _ _ hr w (X.freeze Oa) vals _ (by rw [show args.map V.hand = reflagL flHand args from (reflagL_eq_map _ _).symm]; exact repL_hand ha) h1.lrel
            (fun q hq => by
              rw [show args.map V.hand = reflagL flHand args from (reflagL_eq_map _ _).symm, ptrsL_reflag] at hq
              rw [← box_boxL]; exact hpa q hq) (fun e => by simp at e)
          refine hok.mono (fun e => by simp at e) ?_
          rintro v w' ⟨X', O', Or, hrep, hlr, hlin, hfree, hpr, hlen, hlive, haft⟩
          obtain ⟨h2, hF2⟩ := call_back h1 hF1 hlr hlen hlive (fun q b hb => .inr ⟨q, hb⟩) haft (lastSplit_eq hsp)
          have hOr : ∀ b ∈ Or, ∀ q, b ∉ backO (putO O T none st.E.length []) O' q := fun b hb q hbq => by
            cases q with
            | box r' => exact hfree r' b hb hbq
            | tmp t =>
              rcases haft.own b (.inl hb) with h3 | ⟨q, h3, h4⟩ | ⟨q, h3⟩
              · have := h1.ownlt (.tmp t) b hbq; omega
              · obtain ⟨c, hc⟩ := Option.isSome_iff_exists.1 h3
                obtain ⟨b', hb', _, hω, _⟩ := h1.lrel.box q c hc
                rw [h4] at hb'; cases hb'
                obtain ⟨e, he⟩ := h1.ownω (.tmp t) b hbq
                rw [hω] at he; cases he
              · exact h1.dis (.tmp t) (.box q) (by simp) b hbq h3
          refine ⟨X', _, h2.put0 d hrep hlin hOr (fun q hq => ?_), hF2.put0 d (fun b hb => ?_), fun q hq => haft.β q (by simp; omega)⟩
          · rw [box_boxL]; show (boxL (L ++ [B]) q).isSome = true; rw [← lastSplit_eq hsp]; exact hpr q hq
          · rcases haft.own b (.inl hb) with h3 | ⟨q, h3, h4⟩ | ⟨q, h3⟩
            · exact .inl (Nat.le_trans hF1.size h3)
            · have h3' : (({ st with E := dullAt st.E T } : St).box q).isSome = true := by rw [box_boxL]; exact h3
              exact hF1.boxM q b h3' h4
            · exact hF1.own _ b h3
        · cases hx
      · cases hx
    · cases hx
end Go.Ab
