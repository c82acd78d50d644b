/-
  AN ACTIVATION: its beginning; its end; rounds of a loop over a function; one operation.
-/
import Derived.Test.YtpiggpgocnlomaaAbN
import Derived.RangeFuncLeaves
import Derived.RangeFuncNested
import Derived.RangeFuncRecord
set_option linter.unusedVariables false
namespace Go.Ab
open Go
variable {P : Program} {H : Hints} {f : FuncId} {w : World} {X : Cx}

def Ex.exit' : Ex → Exit
  | .normal => .normal
  | .exit id => .exit id
  | .ret => .ret

/-- the marks of loops among the deferred calls -/
def MarkOk (w0 w : World) (X : Cx) (D : List Deferred) : Prop :=
  ∃ ks : List Nat, D = ks.map (fun k => { target := .collected k, args := #[] }) ∧ ks.Nodup ∧ ∀ k ∈ ks, w0.heap.size ≤ k ∧ w.heap[k]? = some (.deferred (some [])) ∧ X.ω k = none

def SimD (w0 : World) (X0 : Cx) (Md : Md) (n : Nat) (st : St) (a : Act) (w : World) : Prop :=
  ∃ X O, Rel st a.tmps w X O ∧ Fr w0 X0 Md n st w X O ∧ MarkOk w0 w X a.defers

/-- within a round, or not -/
def FOk (F : Fence) (X0 : Cx) (Md : Md) (n : Nat) : Prop :=
  (F = Fence.wide ∨ ∃ r l, F = Fence.wide.inRound l ∧ r.lvl < n ∧ X0.β r = some l ∧ Md.kind r = some true) ∧ (n = 0 → ∀ b e fz, X0.ω b = some (e, fz) → fz = true)

/-- a loop comes to its end -/
def LoopOk (F : Fence) (P : Program) (c : Code) (Q : Exit → Act → World → Prop) (a : Act) (w : World) : Prop :=
  ∀ I : Act → World → Prop, (∀ a w, c.wpIn F 0 P (Exit.then I Q) a w → I a w) → I a w
def codeOk (F : Fence) (P : Program) (c : Code) (Q : Exit → Act → World → Prop) (a : Act) (w : World) : Prop :=
  match c with
  | .loop c => LoopOk F P c Q a w
  | c => c.wpIn F 0 P Q a w

theorem then_mono {I I' : Act → World → Prop} {Q Q' : Exit → Act → World → Prop} (h : ∀ a w, I a w → I' a w) (hq : ∀ e a w, Q e a w → Q' e a w) : ∀ e a w, Exit.then I Q e a w → Exit.then I' Q' e a w := by
  intro e a w he
  cases e <;> first | exact h _ _ he | exact hq _ _ _ he

theorem LoopOk.close {F : Fence} {c : Code} {Q : Exit → Act → World → Prop} {a : Act} {w : World} (h : c.wpIn F 0 P (Exit.then (LoopOk F P c Q) Q) a w) : LoopOk F P c Q a w :=
  fun I hI => hI a w (wpIn_mono h (then_mono (fun a w h => h I hI) (fun _ _ _ h => h)))
theorem LoopOk.mono {F : Fence} {c : Code} {Q Q' : Exit → Act → World → Prop} {a : Act} {w : World} (h : LoopOk F P c Q a w) (hq : ∀ e a w, Q e a w → Q' e a w) : LoopOk F P c Q' a w :=
  fun I hI => h I fun a w ha => hI a w (wpIn_mono ha (then_mono (fun _ _ h => h) hq))
theorem LoopOk.wp {F : Fence} {c : Code} {Q : Exit → Act → World → Prop} {a : Act} {w : World} (h : LoopOk F P c Q a w) : (Code.loop c).wpIn F 0 P Q a w := by
  intro b k cs hro hb hr
  have key := h (fun a w => ∃ e a' w', Q e a' w' ∧ ArrivesIn (Machine.fenced P F) P (lone (b.atR a (.code c :: .inLoop c :: k)) cs w) b k cs e a' w') (by
    intro a w ha
    obtain ⟨e, a₁, w₁, hq, harr⟩ := ha b (.inLoop c :: k) cs hro hb hr
    cases e with
    | normal =>
      obtain ⟨e₂, a₂, w₂, hq₂, harr₂⟩ := hq
      exact ⟨e₂, a₂, w₂, hq₂, .of_steps (StepsIn.trans harr (.one (fenced_calm hb hr rfl) stepR_inLoop)) harr₂⟩
    | exit id => exact ⟨_, a₁, w₁, hq, .pass (x := .inLoop c) rfl (fun _ _ => .inl (by simp)) harr⟩
    | goto l => exact ⟨_, a₁, w₁, hq, .pass (x := .inLoop c) rfl (fun _ _ => .inl (by simp)) harr⟩
    | ret => exact ⟨_, a₁, w₁, hq, .pass (x := .inLoop c) rfl (fun _ _ => .inl (by simp)) harr⟩
    | panic ch => exact ⟨_, a₁, w₁, hq, .pass (x := .inLoop c) rfl (fun _ _ => .inl (by simp)) harr⟩
    | outgrown => exact ⟨_, a₁, w₁, hq, .pass (x := .inLoop c) rfl (fun _ _ => .inl (by simp)) harr⟩)
  obtain ⟨e, a', w', hq, harr⟩ := key
  exact ⟨e, a', w', hq, .of_steps (.one (fenced_calm hb hr rfl) stepR_loop) harr⟩
theorem codeOk.wp {F : Fence} {c : Code} {Q : Exit → Act → World → Prop} {a : Act} {w : World} (h : codeOk F P c Q a w) : c.wpIn F 0 P Q a w := by
  cases c with
  | loop c => exact LoopOk.wp h
  | _ => exact h

def CodeOk (P : Program) (c : Code) (st : St) (e : Ex) (st' : St) : Prop :=
  ∀ (F : Fence) (w0 : World) (X0 : Cx) (Md : Md) (n : Nat) (a : Act) (w : World), FOk F X0 Md n → SimD w0 X0 Md n st a w →
    codeOk F P c (fun e' a' w' => e' = e.exit' ∧ SimD w0 X0 Md n st' a' w') a w

structure OrcOk (P : Program) (C : Orc) : Prop where
  call : ∀ g args M r M', C.call g args M = some (r, M') → CallOk P g args M r M'
  code : ∀ f bid c st e st', C.code f bid c st = some (e, st') → CodeOk P c st e st'

/-! ### an activation begins -/
def frameO (O : Root → List Nat) : Pl → List Nat
  | .tmp _ => []
  | .box r => O r

theorem box_frame (E : List V) (M : List Level) (r : Root) : ({ E := E, L := M, B := [] } : St).box r = boxL M r := by
  unfold St.box boxL
  by_cases h : r.lvl = M.length
  · simp [h, lookB]
  · simp only [h, if_false]
    cases M[r.lvl]? <;> rfl

theorem rel_frame {M : List Level} {O : Root → List Nat} (h : LRel M w X O) {E : List V} {tmps : Array Value} (hE : RepL w X E tmps.toList []) (hp : ∀ r ∈ ptrsL E, (boxL M r).isSome = true) :
    Rel { E := E, L := M, B := [] } tmps w X (frameO O) ∧ Fr w X (Mod M X O) M.length { E := E, L := M, B := [] } w X (frameO O) := by
  constructor
  · exact {
      size := by rw [repL_length _ _ _ hE]; simp
      env := fun t x hx => by
        obtain ⟨v, Oi, hv, hr, hc⟩ := repL_get t hE hx
        have : Oi = [] := by
          cases Oi with
          | nil => rfl
          | cons b l => have := hc b; simp at this
        subst this
        exact ⟨v, by simpa using hv, hr⟩
      envD := fun _ _ => rfl
      box := fun r c hr => by rw [box_frame] at hr; exact h.box r c hr
      boxD := fun r hr => by rw [box_frame] at hr; exact h.boxD r hr
      inj := fun r r' b h1 h2 => by rw [box_frame] at h1 h2; exact h.inj r r' b h1 h2
      lin := fun p => by cases p with | tmp t => exact Lin.nil | box r => exact h.lin r
      dis := fun p q hpq b hb hbq => by
        cases p with
        | tmp t => simp [frameO] at hb
        | box r => cases q with
          | tmp t => simp [frameO] at hbq
          | box r' => exact h.dis r r' (fun e => hpq (by rw [e])) b hb hbq
      ptrE := fun r hr => by rw [box_frame]; exact hp r hr
      ptrB := fun r c hr r' hr' => by rw [box_frame] at hr ⊢; exact h.ptrB r c hr r' hr'
      up := fun r c hr => by rw [box_frame] at hr; exact h.up r c hr
      dom := h.dom }
  · exact {
      size := Nat.le_refl _
      kept := fun _ _ _ => ⟨rfl, rfl⟩
      grew := fun b e fz hω => ⟨e, fz, hω, Nat.le_refl _, id, fun _ _ _ h => h⟩
      β := fun _ _ => rfl
      own := fun p b hb => by
        cases p with
        | tmp t => simp [frameO] at hb
        | box r => exact .inr (.inr ⟨r, hb⟩)
      boxM := fun r b hr hb => by rw [box_frame] at hr; exact .inr (.inl ⟨r, hr, hb⟩)
      lev := rfl
      live := fun r _ => by rw [box_frame]; rfl
      os := rfl
      out := rfl
      tape := rfl }

/-! ### an activation ends -/
theorem boxL_lt {M : List Level} {r : Root} (h : (boxL M r).isSome = true) : r.lvl < M.length := by
  unfold boxL at h
  rcases Nat.lt_or_ge r.lvl M.length with h1 | h1
  · exact h1
  · rw [List.getElem?_eq_none h1] at h; simp at h

theorem boxL_of_box {st : St} {r : Root} : boxL st.L r = if r.lvl < st.L.length then st.box r else none := by
  unfold St.box boxL
  by_cases h : r.lvl < st.L.length
  · rw [if_pos h, if_neg (by omega)]; rfl
  · rw [if_neg h, List.getElem?_eq_none (by omega)]

def leaveO (n : Nat) (O : Pl → List Nat) : Root → List Nat := fun r => if r.lvl < n then O (.box r) else []

theorem rel_leave {w0 : World} {X0 : Cx} {M : List Level} {O0 : Root → List Nat} {st : St} {tmps : Array Value} {O : Pl → List Nat} (h : Rel st tmps w X O) (hF : Fr w0 X0 (Mod M X0 O0) M.length st w X O) :
    LRel st.L w X (leaveO M.length O) ∧ st.L.length = M.length ∧ (∀ q, (boxL st.L q).map isLp = (boxL M q).map isLp) := by
  have hl := hF.lev
  have hb : ∀ r c, boxL st.L r = some c → r.lvl < M.length ∧ st.box r = some c := fun r c hr => by
    have h1 := boxL_lt (M := st.L) (r := r) (by simp [hr])
    rw [boxL_of_box, if_pos h1] at hr
    exact ⟨by omega, hr⟩
  refine ⟨{ box := ?_, boxD := ?_, inj := ?_, lin := ?_, dis := ?_, ptrB := ?_, up := ?_, dom := h.dom }, hl, ?_⟩
  · intro r c hr
    obtain ⟨h1, h2⟩ := hb r c hr
    simpa [leaveO, h1] using h.box r c h2
  · intro r hr
    rw [boxL_of_box] at hr
    unfold leaveO
    split
    · rename_i h1; rw [if_pos (by omega)] at hr; exact h.boxD r hr
    · rfl
  · intro r r' b h1 h2
    obtain ⟨c, hc⟩ := Option.isSome_iff_exists.1 h1
    obtain ⟨c', hc'⟩ := Option.isSome_iff_exists.1 h2
    exact h.inj r r' b (by simp [(hb r c hc).2]) (by simp [(hb r' c' hc').2])
  · intro r; unfold leaveO; split
    · exact h.lin _
    · exact Lin.nil
  · intro r r' hne b hb1 hb2
    unfold leaveO at hb1 hb2
    split at hb1
    · split at hb2
      · exact h.dis (.box r) (.box r') (by simpa using hne) b hb1 hb2
      · simp at hb2
    · simp at hb1
  · intro r c hr r' hr'
    obtain ⟨h1, h2⟩ := hb r c hr
    have h3 := h.up r c h2 r' hr'
    rw [boxL_of_box, if_pos (by omega)]
    exact h.ptrB r c h2 r' hr'
  · intro r c hr
    exact h.up r c (hb r c hr).2
  · intro q
    by_cases hq : q.lvl < M.length
    · rw [boxL_of_box, if_pos (by omega)]
      exact hF.live q hq
    · have h1 : boxL st.L q = none := by rw [boxL_of_box, if_neg (by omega)]
      have h2 : boxL M q = none := by
        cases hh : boxL M q with
        | none => rfl
        | some c => have := boxL_lt (M := M) (r := q) (by simp [hh]); omega
      rw [h1, h2]

theorem fr_aft {w0 : World} {X0 : Cx} {M : List Level} {O0 : Root → List Nat} {st : St} {O : Pl → List Nat} (hF : Fr w0 X0 (Mod M X0 O0) M.length st w X O) {ow : Nat → Prop} (how : ∀ b, ow b → ∃ p, b ∈ O p) :
    Aft w0 X0 (Mod M X0 O0) M.length w X ow where
  size := hF.size
  kept := hF.kept
  grew := hF.grew
  β := hF.β
  own := fun b hb => by obtain ⟨p, hp⟩ := how b hb; exact hF.own p b hp
  os := hF.os
  out := hF.out
  tape := hF.tape

theorem mem_leaveO {n : Nat} {O : Pl → List Nat} {r : Root} {b : Nat} (h : b ∈ leaveO n O r) : b ∈ O (.box r) := by
  unfold leaveO at h; split at h
  · exact h
  · simp at h

/-! ### marks -/
theorem MarkOk.of {w0 w' : World} {X' : Cx} {D : List Deferred} (h : MarkOk w0 w X D) (hk : ∀ k, w.heap[k]? = some (.deferred (some [])) → X.ω k = none → w0.heap.size ≤ k → w'.heap[k]? = w.heap[k]? ∧ X'.ω k = X.ω k) : MarkOk w0 w' X' D := by
  obtain ⟨ks, h1, h2, h3⟩ := h
  refine ⟨ks, h1, h2, fun k hks => ?_⟩
  obtain ⟨h4, h5, h6⟩ := h3 k hks
  obtain ⟨h7, h8⟩ := hk k h5 h6 h4
  exact ⟨h4, by rw [h7, h5], by rw [h8, h6]⟩

theorem not_mark {b k : Nat} {c : List V} {O : List Nat} (h : BoxR w X b c O) (hk : w.heap[k]? = some (.deferred (some []))) : k ≠ b := fun e => by
  subst e
  rcases h with ⟨cs, t, h1, _⟩ | ⟨s, pe, g, env, ps, asg, body, lo, _, h1, _⟩ <;> rw [h1] at hk <;> cases hk

/-- A NEW BASE: what is done from here on is done from the beginning on; marks are kept -/
theorem rebaseF {w0 : World} {X0 : Cx} {Md' : Md} {n : Nat} {st : St} {tmps : Array Value} {df : List Deferred} {O : Pl → List Nat} (hR : Rel st tmps w X O) (hF : Fr w0 X0 Md' n st w X O) (hM : MarkOk w0 w X df) :
    ∃ Md2 : Md, Fr w X Md2 n st w X O ∧ Md2.kind = Md'.kind ∧
      ∀ st' w' X' O', Fr w X Md2 n st' w' X' O' → Fr w0 X0 Md' n st' w' X' O' ∧ MarkOk w0 w' X' df := by
  obtain ⟨ks, hD, hnd, hks⟩ := hM
  let Md2 : Md := { may := fun b => (b < w0.heap.size → Md' b) ∧ b ∉ ks, kind := Md'.kind }
  have hbk : ∀ r b, (st.box r).isSome = true → X.β r = some b → b ∉ ks := fun r b hr hb hbk => by
    obtain ⟨c, hc⟩ := Option.isSome_iff_exists.1 hr
    obtain ⟨b', hb', _, _, hbx⟩ := hR.box r c hc
    rw [hb] at hb'; cases hb'
    exact not_mark hbx (hks b hbk).2.1 rfl
  refine ⟨Md2, ?_, rfl, ?_⟩
  · exact {
      size := Nat.le_refl _
      kept := fun _ _ _ => ⟨rfl, rfl⟩
      grew := fun b e fz hω => ⟨e, fz, hω, Nat.le_refl _, id, fun _ _ _ h => h⟩
      β := fun _ _ => rfl
      own := fun p b hb => by
        refine .inr ⟨fun hlt => ?_, fun hbk => ?_⟩
        · rcases hF.own p b hb with h1 | h1
          · omega
          · exact h1
        · obtain ⟨e, he⟩ := hR.ownω p b hb
          rw [(hks b hbk).2.2] at he; cases he
      boxM := fun r b hr hb => by
        refine .inr ⟨fun hlt => ?_, hbk r b hr hb⟩
        rcases hF.boxM r b hr hb with h1 | h1
        · omega
        · exact h1
      lev := hF.lev
      live := hF.live
      os := rfl
      out := rfl
      tape := rfl }
  · intro st' w' X' O' hF'
    refine ⟨?_, ks, hD, hnd, fun k hk => ?_⟩
    · exact {
        size := Nat.le_trans hF.size hF'.size
        kept := fun b hb hM => by
          obtain ⟨h1, h2⟩ := hF.kept b hb hM
          obtain ⟨h3, h4⟩ := hF'.kept b (Nat.lt_of_lt_of_le hb hF.size) (fun hm => hM (hm.1 hb))
          exact ⟨by rw [h3, h1], by rw [h4, h2]⟩
        grew := fun b e fz hω => by
          obtain ⟨e1, fz1, h1, h2, h3, h4⟩ := hF.grew b e fz hω
          obtain ⟨e2, fz2, h5, h6, h7, h8⟩ := hF'.grew b e1 fz1 h1
          exact ⟨e2, fz2, h5, by omega, fun hz => h7 (h3 hz), fun i v hi hc => h8 i v (by omega) (h4 i v hi hc)⟩
        β := fun r hr => by rw [hF'.β r hr, hF.β r hr]
        own := fun p b hb => by
          have := hF.size
          rcases hF'.own p b hb with h1 | h1
          · exact .inl (by omega)
          · rcases Nat.lt_or_ge b w0.heap.size with h2 | h2
            · exact .inr (h1.1 h2)
            · exact .inl h2
        boxM := fun r b hr hb => by
          have := hF.size
          rcases hF'.boxM r b hr hb with h1 | h1
          · exact .inl (by omega)
          · rcases Nat.lt_or_ge b w0.heap.size with h2 | h2
            · exact .inr (h1.1 h2)
            · exact .inl h2
        lev := hF'.lev
        live := hF'.live
        os := by rw [hF'.os, hF.os]
        out := by rw [hF'.out, hF.out]
        tape := by rw [hF'.tape, hF.tape] }
    · obtain ⟨h1, h2, h3⟩ := hks k hk
      obtain ⟨h4, h5⟩ := hF'.kept k (Array.getElem?_eq_some_iff.1 h2).1 (fun hm => hm.2 hk)
      exact ⟨h1, by rw [h4, h2], by rw [h5, h3]⟩
theorem rebase' {w0 : World} {X0 : Cx} {Md' : Md} {n : Nat} {st : St} {tmps : Array Value} {df : List Deferred} {O : Pl → List Nat} (hR : Rel st tmps w X O) (hF : Fr w0 X0 Md' n st w X O) (hM : MarkOk w0 w X df) :
    ∃ Md2 : Md, Fr w X Md2 n st w X O ∧ Md2.kind = Md'.kind ∧
      ∀ st' (tmps' : Array Value) w', Sim w X Md2 n st' tmps' w' → SimD w0 X0 Md' n st' { tmps := tmps', defers := df } w' := by
  obtain ⟨Md2, h1, h2, h3⟩ := rebaseF hR hF hM
  exact ⟨Md2, h1, h2, fun st' tmps' w' ⟨X', O', hR', hF'⟩ => ⟨X', O', hR', (h3 st' w' X' O' hF').1, (h3 st' w' X' O' hF').2⟩⟩
theorem rebase {w0 : World} {X0 : Cx} {Md' : Md} {n : Nat} {st : St} {a : Act} (h : SimD w0 X0 Md' n st a w) :
    ∃ (X : Cx) (Md2 : Md), Sim w X Md2 n st a.tmps w ∧ (∀ r, r.lvl < n → X.β r = X0.β r) ∧ Md2.kind = Md'.kind ∧
      ∀ st' (tmps' : Array Value) w', Sim w X Md2 n st' tmps' w' → SimD w0 X0 Md' n st' { tmps := tmps', defers := a.defers } w' := by
  obtain ⟨X, O, hR, hF, hM⟩ := h
  obtain ⟨Md2, h1, h2, h3⟩ := rebase' hR hF hM
  exact ⟨X, Md2, ⟨X, O, hR, h1⟩, hF.β, h2, h3⟩
end Go.Ab
