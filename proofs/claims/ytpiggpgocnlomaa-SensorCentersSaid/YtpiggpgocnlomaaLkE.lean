/-
  ONE OPERATION of a region with stores into owners' elements.
-/
import Derived.Test.YtpiggpgocnlomaaLkD
set_option linter.unusedVariables false
namespace Go.Ab
open Go
variable {P : Program} {H : Hints} {f : FuncId} {C : Orc} {w w' : World} {X X' : Cx}

theorem run_load_cell {t : TypeId} {d : TypeDesc} {b off : Nat} {v : Value} (hu : P.underlying t = some d) (hag : isAggT P t = false) (hc : w.cell? ⟨b, off, none⟩ = some v) : (Instr.loadAt t (.pointer (some ⟨b, off, none⟩))).run P w = .ok v w := by
  simp only [Instr.loadAt, Instr.sureAddr, Sem.run_bind, Sem.run_pure, Result.andThen_ok]
  refine run_loadVar' (vals := [v]) hu (fun i u hi => ?_) (by simp [hag])
  cases i with
  | zero => simp at hi; subst hi; simpa using hc
  | succ i => simp at hi

theorem wp_run {F : Fence} {o : Oper} {a : Act} {K : Act → World → Prop} {Q : Exit → Act → World → Prop} {v : Value} (hnd : ∀ c, o.op ≠ .defer c) (hrun : (execOp a.eval o).run P w = .ok (.value v) w') :
    o.wpIn F 0 P a w K Q ↔ (∀ g, o.about P w a.eval = some g → F.fn g) ∧ K (a.put o.dst v) w' := by
  unfold Oper.wpIn
  rw [Oper.semAt_eq _ _ _ hnd, hrun, Oper.uponIn_value]

theorem run_op (ρ : Operand → Value) (o : Oper) {s : Sem Value} {v : Value} (h : execOp ρ o = (do pure (Next.value (← s)))) (hs : s.run P w = .ok v w') : (execOp ρ o).run P w = .ok (.value v) w' := by
  rw [h]; exact sem_v hs

theorem stepFp_parts {o : Oper} {st st' : St} {fp : Fp} (hx : stepFp P H C f o st = some (st', fp)) :
    (takes H f o = true → nodupT (tmpsOf o) = true) ∧ ∃ z s, stepM P H C f o (o.op.operands.toList.map (rd H f o st.E)) { st with E := dullAt st.E (if takes H f o = true then tmpsOf o else []) } = some (z, s, fp) ∧ st' = s.put o.dst z := by
  unfold stepFp at hx
  split at hx
  · cases hx
  · rename_i hn0
    obtain ⟨⟨z, s, fp'⟩, hm, he⟩ := Option.map_eq_some_iff.1 hx
    obtain ⟨rfl, rfl⟩ := Prod.mk.inj he
    refine ⟨fun ht => by simpa [ht] using hn0, z, s, ?_, rfl⟩
    rw [← hm]
    congr 1
    split <;> rfl

/-- what leaves the boxes as they are -/
theorem tame_run {w0 : World} {X0 : Cx} {Md : Md} {n : Nat} {st st' : St} {a : Act} {O : Pl → List Nat} {o : Oper} {fp : Fp} (h : Rel st a.tmps w X O) (hF : Fr w0 X0 Md n st w X O) (hx : stepFp P H C f o st = some (st', fp)) (ht : tameOp o.op = true) :
    (∀ c, o.op ≠ .defer c) ∧ ∃ v w', (execOp a.eval o).run P w = .ok (.value v) w' ∧ ∀ b, b < w.heap.size → X.ω b = none → w'.heap[b]? = w.heap[b]? := by
  obtain ⟨hn, z, s, hm, _⟩ := stepFp_parts hx
  obtain ⟨Oin, hrep, hs, hlin⟩ := rel_operands (H := H) (f := f) h o _ hn
  rcases stepM_cases hm with ⟨t, d, z0, hop, _⟩ | ⟨t, ao, d, x, hop, _⟩ | ⟨c, fo, fv, args, hop, hcal, _⟩ | ⟨hr, hsem, rfl, _⟩ | ⟨r, hr, hsem, rfl, _⟩ | ⟨r, c, hr, hsem, hall, rfl, _⟩
  · rw [hop] at ht; simp [tameOp] at ht
  · rw [hop] at ht; simp [tameOp] at ht
  · rw [hop] at ht; obtain ⟨cal, a1, a2⟩ := c; simp only at hcal; subst hcal; simp [tameOp] at ht
  · have hnd : ∀ c, o.op ≠ .defer c := by intro c hc; rw [hc] at hsem; simp [opSem] at hsem
    obtain ⟨v, w', X', O', hrun, heff, _⟩ := opSem_ok h.dom hlin hsem hrep
    refine ⟨hnd, v, w', hrun, fun b hb hω => heff.kept b hb fun hbO => ?_⟩
    obtain ⟨e, he⟩ := repL_own _ _ _ hrep b hbO
    rw [hω] at he; cases he
  all_goals
    obtain ⟨off, rest, hxs, hop⟩ := rootOf_some hr
    rcases hop with ⟨t, ao, hop⟩ | ⟨t, ao, xo, hop⟩
    · have hops : o.op.operands.toList = [ao] := by rw [hop]; rfl
      rw [hops] at hrep hxs
      simp only [List.map_cons, List.map_nil, List.cons.injEq] at hxs
      obtain ⟨hx1, rfl⟩ := hxs
      simp only [List.map_cons, List.map_nil, RepL] at hrep
      obtain ⟨u, vs, O1, O2, hu, rfl, hr1, rfl, rfl⟩ := hrep
      simp only [List.cons.injEq, and_true] at hu
      subst hu
      rw [hx1] at hr1
      refine ⟨(by intro c hc; rw [hop] at hc; cases hc), ?_⟩
      have hbx : ∃ cs, st.box r = some cs := by
        cases hh : st.box r with
        | some cs => exact ⟨cs, rfl⟩
        | none => rw [hops, List.map_cons, List.map_nil, hx1, hop, box_withE, hh] at hsem; simp [opSem] at hsem
      obtain ⟨cs, hcs⟩ := hbx
      rw [hops, List.map_cons, List.map_nil, hx1, hop, box_withE, hcs] at hsem
      simp only [opSem] at hsem
      obtain ⟨v, hrun, _⟩ := step_load (dst := o.dst) (tk := takes H f o) h hF hr1 hcs hsem
      exact ⟨v, w, by simp only [execOp, hop, Sem.run_bind, hrun, Result.andThen_ok, Sem.run_pure], fun _ _ _ => rfl⟩
    · rw [hop] at ht; simp [tameOp] at ht

/-- an operation, with what it leaves -/
theorem step_okT (hC : OrcOk P C) {F : Fence} (hFF : F = Fence.wide ∨ ∃ l, F = Fence.wide.inRound l) {w0 : World} {X0 : Cx} {Md : Md} {n : Nat} {st st' : St} {a : Act} {O : Pl → List Nat} {o : Oper} {fp : Fp} (h : Rel st a.tmps w X O) (hF : Fr w0 X0 Md n st w X O)
    (hx : stepFp P H C f o st = some (st', fp)) {K : Act → World → Prop} {Q : Exit → Act → World → Prop}
    (hK : ∀ v w', Sim w0 X0 Md n st' (a.put o.dst v).tmps w' → (tameOp o.op = true → (∀ b, b < w.heap.size → X.ω b = none → w'.heap[b]? = w.heap[b]?) ∧ ∀ v0, (execOp a.eval o).run P w = .ok (.value v0) w → v = v0 ∧ w' = w) → K (a.put o.dst v) w') : o.wpIn F 0 P a w K Q := by
  have hstep : stepOp P H C f o st = some st' := by unfold stepOp; rw [hx]; rfl
  cases ht : tameOp o.op with
  | false => exact step_ok hC hFF ⟨X, O, h, hF⟩ hstep fun v w' hS => hK v w' hS fun h => by rw [ht] at h; cases h
  | true =>
    obtain ⟨hnd, v, w1, hrun, hkept⟩ := tame_run h hF hx ht
    have h1 : o.wpIn F 0 P a w (fun a' w' => Sim w0 X0 Md n st' a'.tmps w') Q := step_ok hC hFF ⟨X, O, h, hF⟩ hstep fun v w' hS => hS
    rw [wp_run hnd hrun] at h1 ⊢
    refine ⟨h1.1, hK v w1 h1.2 fun _ => ⟨hkept, fun v0 h0 => ?_⟩⟩
    rw [hrun] at h0
    simp only [Result.ok.injEq, Next.value.injEq] at h0
    exact h0

theorem tv_put {a : Act} {d : Option Tmp} {v : Value} {t : Tmp} (h : d ≠ some t) : tv (a.put d v).tmps t = tv a.tmps t := by
  unfold tv Act.put
  cases d with
  | none => rfl
  | some d =>
    have : d ≠ t := fun e => h (by rw [e])
    simp [Array.getD_eq_getD_getElem?, Array.getElem?_setIfInBounds, this]
theorem tv_put_self {a : Act} {d : Tmp} {v : Value} (h : d < a.tmps.size) : tv (a.put (some d) v).tmps d = v := by
  unfold tv Act.put
  simp [Array.getD_eq_getD_getElem?, Array.getElem?_setIfInBounds, h]

/-- what is known behind an operation that makes a link -/
theorem chain_fact {w0 : World} {X0 : Cx} {Md : Md} {n : Nat} {st st' : St} {a : Act} {O : Pl → List Nat} {o : Oper} {fp : Fp} (h : Rel st a.tmps w X O) (hF : Fr w0 X0 Md n st w X O) (hlk : isLk H f o = true) (hself : ∀ d, o.dst = some d → d ∉ tmpsOf o) (hgate : lkGate H f o st.E = true)
    (hx : stepFp P H C f o st = some (st', fp)) :
    (∀ E' tmps' w' X', LkFact P H f E' o tmps' w' X') ∨ (tameOp o.op = true ∧ ∃ v, (execOp a.eval o).run P w = .ok (.value v) w ∧ ∀ (E' : List V) (X' : Cx), (∀ b e fz, X.ω b = some (e, fz) → ∃ e' fz', X'.ω b = some (e', fz') ∧ e ≤ e') →
      (∀ t ∈ tmpsOf o, ∀ r o', E'[t]? = some (.ptr r o') → st.E[t]? = some (.ptr r o')) → LkFact P H f E' o (a.put o.dst v).tmps w X') := by
  obtain ⟨hn, z, s, hm, _⟩ := stepFp_parts hx
  obtain ⟨Oin, hrep, hs, hlin⟩ := rel_operands (H := H) (f := f) h o _ hn
  obtain ⟨d, hdst⟩ : ∃ d, o.dst = some d := by
    cases hd : o.dst with
    | none => unfold isLk at hlk; rw [hd] at hlk; cases hlk
    | some d => exact ⟨d, rfl⟩
  have hgate' := hgate
  unfold lkGate at hgate'
  rw [hlk, hdst] at hgate'
  simp only [Bool.not_true, Bool.false_or, Bool.and_eq_true, decide_eq_true_eq] at hgate'
  obtain ⟨hdlt, hgl⟩ := hgate'
  have hdsz : d < a.tmps.size := by rw [h.size]; exact hdlt
  have hdn := hself d hdst
  have htv : ∀ t ∈ tmpsOf o, ∀ v, tv (a.put o.dst v).tmps t = tv a.tmps t := fun t ht v => tv_put (fun e => hdn (by rw [hdst] at e; cases e; exact ht))
  have htvd : ∀ v, tv (a.put o.dst v).tmps d = v := fun v => by rw [hdst]; exact tv_put_self hdsz
  have hev : ∀ t, a.eval (.tmp t) = tv a.tmps t := fun t => rfl
  by_cases hkind : (∃ a0, o.op = .move (.tmp a0)) ∨ (∃ t a0 i, o.op = .indexAddr t (.tmp a0) i) ∨ (∃ t a0 fd, o.op = .fieldAddr t (.tmp a0) fd) ∨ (∃ t a0, o.op = .load t (.tmp a0))
  case neg =>
    left
    intro E' tmps' w' X'
    unfold LkFact
    split
    · rename_i a0 _ hop _; exact absurd (.inl ⟨a0, hop⟩) hkind
    · rename_i t a0 i _ hop _; exact absurd (.inr (.inl ⟨t, a0, i, hop⟩)) hkind
    · rename_i t a0 fd _ hop _; exact absurd (.inr (.inr (.inl ⟨t, a0, fd, hop⟩))) hkind
    · rename_i t a0 _ hop _; exact absurd (.inr (.inr (.inr ⟨t, a0, hop⟩))) hkind
    · trivial
  case pos =>
  right
  rcases hkind with ⟨a0, hop⟩ | ⟨t, a0, i, hop⟩ | ⟨t, a0, fd, hop⟩ | ⟨t, a0, hop⟩
  · refine ⟨by rw [hop]; rfl, a.eval (.tmp a0), by simp [execOp, hop], fun E' X' _ _ => ?_⟩
    unfold LkFact; rw [hop, hdst]
    simp only
    rw [← hdst, htvd, htv a0 (tmpsOf_mem (by rw [hop]; exact List.mem_singleton.2 rfl) rfl)]
    exact hev a0
  · have hops : o.op.operands.toList = [.tmp a0, i] := by rw [hop]; rfl
    rw [hops] at hrep hm
    simp only [List.map_cons, List.map_nil, RepL] at hrep
    obtain ⟨u, vs, O1, O2, hu, rfl, hr1, u2, vs2, O3, O4, hu2, rfl, hr2, rfl, rfl⟩ := hrep
    simp only [List.cons.injEq] at hu
    obtain ⟨rfl, rfl⟩ := hu
    simp only [List.cons.injEq, and_true] at hu2
    subst hu2
    have hy : ∃ y, vindexAddr P t (rd H f o st.E (.tmp a0)) (rd H f o st.E i) = some y := by
      rw [stepM_dflt (by rw [hop]; rfl)] at hm
      unfold dfltM at hm
      rw [hop] at hm
      simp only [List.map_cons, List.map_nil, rootOf, opSem] at hm
      cases hv : vindexAddr P t (rd H f o st.E (.tmp a0)) (rd H f o st.E i) with
      | none => rw [hv] at hm; simp at hm
      | some y => exact ⟨y, rfl⟩
    obtain ⟨y, hy⟩ := hy
    obtain ⟨v', hrun, _⟩ := op_indexAddr hy hr1 hr2
    refine ⟨by rw [hop]; rfl, v', run_op _ _ (by simp only [execOp, hop]) hrun, fun E' X' _ _ => ?_⟩
    unfold LkFact; rw [hop, hdst]
    simp only
    intro elem hul
    rw [← hdst, htvd, htv a0 (tmpsOf_mem (x := .tmp a0) (by rw [hops]; simp) rfl)]
    have hev2 : evT (a.put o.dst v').tmps i = evT a.tmps i := evT_congr fun t' e => htv t' (tmpsOf_mem (x := i) (by rw [hops]; simp) e) v'
    rw [hev2]
    have hy' := hy
    unfold vindexAddr at hy'
    split at hy'
    · rename_i k m hi0
      rw [hi0] at hr2
      simp only [Rep] at hr2
      obtain ⟨hiv, _⟩ := hr2
      rw [hul] at hy'
      split at hy'
      · rename_i hh _; cases hh
      · rename_i hh _; cases hh
      · rename_i el fl c l hh hx0
        cases hh
        split at hy'
        · rename_i h0
          split at hy'
          · rename_i e he
            split at hy'
            · rename_i hc
              obtain ⟨hlen, hok, hz0, _⟩ := hc
              rw [hx0] at hr1
              simp only [Rep] at hr1
              obtain ⟨_, hr1⟩ := hr1
              rcases hr1 with ⟨rfl, _⟩ | ⟨b, off, cap, sz, vals, O', hv1, hcap, _⟩
              · simp at he
              · have hlt : m < (l.length : Int) := by have := (List.getElem?_eq_some_iff.1 he).1; omega
                have hrun2 : (Instr.indexAt t (a.eval (.tmp a0)) (a.eval i)).run P w = .ok (.pointer (some ⟨b, off + m.toNat * P.cellsOf elem, none⟩)) w := by
                  rw [hv1, hiv]
                  simp [Instr.indexAt, asIntOf, run_underlying hul, h0, hlt, run_sizeOf' hz0, Addr.add_lit]
                rw [hrun] at hrun2
                simp only [Result.ok.injEq, and_true] at hrun2
                refine ⟨b, off, l.length, cap, k, m, by rw [← hev]; exact hv1, ?_, h0, hlt, hrun2⟩
                cases i with
                | tmp t' => exact hiv
                | const u => exact hiv
                | _ => simp only [rd] at hi0; cases hi0
            · cases hy'
          · cases hy'
        · cases hy'
      · cases hy'
    · cases hy'
  · have hops : o.op.operands.toList = [.tmp a0] := by rw [hop]; rfl
    rw [hops] at hrep hm
    simp only [List.map_cons, List.map_nil, RepL] at hrep
    obtain ⟨u, vs, O1, O2, hu, rfl, hr1, rfl, rfl⟩ := hrep
    simp only [List.cons.injEq, and_true] at hu
    subst hu
    have hy : ∃ y, vfieldAddr P t (rd H f o st.E (.tmp a0)) fd = some y := by
      rw [stepM_dflt (by rw [hop]; rfl)] at hm
      unfold dfltM at hm
      rw [hop] at hm
      simp only [List.map_cons, List.map_nil, rootOf, opSem] at hm
      cases hv : vfieldAddr P t (rd H f o st.E (.tmp a0)) fd with
      | none => rw [hv] at hm; simp at hm
      | some y => exact ⟨y, rfl⟩
    obtain ⟨y, hy⟩ := hy
    obtain ⟨v', hrun, _⟩ := op_fieldAddr hy hr1
    refine ⟨by rw [hop]; rfl, v', run_op _ _ (by simp only [execOp, hop]) hrun, fun E' X' _ _ => ?_⟩
    unfold LkFact; rw [hop, hdst]
    simp only
    intro b off o' hv1 ho'
    rw [← hdst, htvd]
    rw [← hdst, htv a0 (tmpsOf_mem (x := .tmp a0) (by rw [hops]; simp) rfl)] at hv1
    have hy' := hy
    unfold vfieldAddr at hy'
    unfold fieldOff at ho'
    cases hul : P.underlying t with
    | none => rw [hul] at hy'; cases hy'
    | some td =>
      rw [hul] at hy' ho'
      cases td with
      | struct fields =>
        simp only at hy' ho'
        cases hf : fields[fd]? with
        | none => rw [hf] at ho'; cases ho'
        | some g =>
          rw [hf] at hy' ho'
          simp only [Option.map_some, Option.some.injEq] at ho'
          subst ho'
          simp only at hy'
          by_cases hz0 : P.cellsOf g.type = 0
          · rw [if_pos hz0] at hy'; cases hy'
          · have hrun2 : (Instr.fieldAt t (a.eval (.tmp a0)) fd).run P w = .ok (.pointer (some ⟨b, off + g.offset, none⟩)) w := by
              rw [hev, hv1]
              simp [Instr.fieldAt, run_underlying hul, hf, Instr.sureAddr, fieldPlace, run_sizeOf' hz0, hz0, Addr.add_lit]
            rw [hrun] at hrun2
            simp only [Result.ok.injEq, and_true] at hrun2
            exact hrun2
      | _ => cases ho'
  · have hops : o.op.operands.toList = [.tmp a0] := by rw [hop]; rfl
    have htame : tameOp o.op = true := by rw [hop]; rfl
    obtain ⟨_, v, w1, hrun0, _⟩ := tame_run h hF hx htame
    rw [hops] at hrep hm
    simp only [List.map_cons, List.map_nil, RepL] at hrep
    obtain ⟨u, vs, O1, O2, hu, rfl, hr1, rfl, rfl⟩ := hrep
    simp only [List.cons.injEq, and_true] at hu
    subst hu
    have hma : a0 ∈ tmpsOf o := tmpsOf_mem (x := .tmp a0) (by rw [hops]; simp) rfl
    -- what is loaded
    have hcase : ∃ td, P.underlying t = some td ∧ ((∃ cs, rd H f o st.E (.tmp a0) = .cptr cs ∧ ∃ y, ofCells P t cs = some y) ∨ ∃ r off cs, rd H f o st.E (.tmp a0) = .ptr r off ∧ st.box r = some cs ∧ isLp cs = false ∧ ∃ y, ofCells P t (cs.drop off) = some y) := by
      rw [stepM_dflt (by rw [hop]; rfl)] at hm
      unfold dfltM at hm
      rw [hop] at hm
      simp only [List.map_cons, List.map_nil] at hm
      have hu' : ∀ cs y, ofCells P t cs = some y → ∃ td, P.underlying t = some td := fun cs y hy => by
        unfold ofCells at hy
        cases hul : P.underlying t with
        | none => rw [hul] at hy; cases hy
        | some td => exact ⟨td, rfl⟩
      cases hx0 : rd H f o st.E (.tmp a0) with
      | cptr cs =>
        rw [hx0] at hm
        simp only [rootOf, opSem] at hm
        cases hy : ofCells P t cs with
        | none => rw [hy] at hm; simp at hm
        | some y => obtain ⟨td, htd⟩ := hu' cs y hy; exact ⟨td, htd, .inl ⟨cs, rfl, y, hy⟩⟩
      | ptr r off =>
        rw [hx0] at hm
        simp only [rootOf, opSem, box_withE] at hm
        cases hbx : st.box r with
        | none => rw [hbx] at hm; simp at hm
        | some cs =>
          rw [hbx] at hm
          simp only at hm
          cases hlp : isLp cs with
          | true => rw [hlp] at hm; simp at hm
          | false =>
            cases hy : ofCells P t (cs.drop off) with
            | none => rw [hlp, hy] at hm; simp at hm
            | some y => obtain ⟨td, htd⟩ := hu' _ y hy; exact ⟨td, htd, .inr ⟨r, off, cs, rfl, hbx, hlp, y, hy⟩⟩
      | _ => rw [hx0] at hm; simp [rootOf, opSem] at hm
    obtain ⟨td, htd, hcase⟩ := hcase
    -- the world stays
    have hw1 : w1 = w := by
      rcases hcase with ⟨cs, hx0, y, hy⟩ | ⟨r, off, cs, hx0, hbx, hlp, y, hy⟩
      · rw [hx0] at hr1
        simp only [Rep] at hr1
        obtain ⟨_, b, off, vals, hv1, hseg, _, hl⟩ := hr1
        obtain ⟨v2, _, _, _, hvv, _⟩ := rep_ofCells hy hl
        have : (execOp a.eval o).run P w = .ok (.value v2) w := run_op (s := Instr.loadAt t (a.eval (.tmp a0))) _ _ (by simp only [execOp, hop]) (by
          rw [hv1]
          simp only [Instr.loadAt, Instr.sureAddr, Sem.run_bind, Sem.run_pure, Result.andThen_ok]
          exact run_loadVar' htd hseg hvv)
        rw [hrun0] at this; cases this; rfl
      · rw [hx0] at hr1
        obtain ⟨v2, hrun2, _⟩ := step_load (tk := false) (t := t) (ao := .tmp a0) (dst := none) (z := y.dull) (c := none) h hF hr1 hbx (by rw [hlp, hy]; rfl)
        have : (execOp a.eval o).run P w = .ok (.value v2) w := run_op _ _ (by simp only [execOp, hop]) hrun2
        rw [hrun0] at this; cases this; rfl
    subst hw1
    refine ⟨htame, v, hrun0, fun E' X' hω hE => ?_⟩
    have hload : ∀ {b off : Nat} {v2 : Value}, isAggT P t = false → tv a.tmps a0 = .pointer (some ⟨b, off, none⟩) → w1.cell? ⟨b, off, none⟩ = some v2 → v = v2 := fun hag hp hc => by
      have := run_load_cell htd hag hc
      have h2 := run_op (P := P) (w := w1) a.eval o (s := Instr.loadAt t (a.eval (.tmp a0))) (by simp only [execOp, hop]) (by rw [hev, hp]; exact this)
      rw [hrun0] at h2; cases h2; rfl
    unfold LkFact; rw [hop, hdst]
    simp only
    intro hag
    rw [← hdst, htvd]
    by_cases hla : H.link f a0 = true
    · rw [if_pos hla]
      rw [hop] at hgl
      simp only [hla, Bool.not_true, Bool.false_or] at hgl
      have hcp : ∃ cs, rd H f o st.E (.tmp a0) = .cptr cs ∧ ∃ y, ofCells P t cs = some y := by
        rcases hcase with h1 | ⟨r, off, cs, hx0, _⟩
        · exact h1
        · exfalso
          simp only [rd] at hx0
          cases hE0 : st.E.getD a0 .undef with
          | cptr l => rw [hE0] at hx0; split at hx0 <;> simp [V.dull, V.reflag] at hx0
          | _ => rw [hE0] at hgl; simp [isCptr] at hgl
      obtain ⟨cs, hx0, y, hy⟩ := hcp
      rw [hx0] at hr1
      simp only [Rep] at hr1
      obtain ⟨_, b, off, vals, hv1, hseg, ⟨e, fz, hωb, hle⟩, hl⟩ := hr1
      have hy' := hy
      unfold ofCells at hy'
      rw [htd] at hy'
      simp only [hag, Bool.false_eq_true, if_false] at hy'
      cases cs with
      | nil => simp at hy'
      | cons c0 cs =>
        have hl' := repL_length _ _ _ hl
        cases vals with
        | nil => simp at hl'
        | cons v2 vals =>
          have hc := hseg 0 v2 rfl
          simp only [Nat.add_zero] at hc
          obtain ⟨e', fz', h1, h2⟩ := hω b e fz hωb
          have hvv := hload hag (by rw [← hev]; exact hv1) hc
          refine ⟨b, off, v2, ?_, hc, hvv, e', fz', h1, ?_⟩
          · rw [htv a0 hma, ← hev]; exact hv1
          · simp only [List.length_cons] at hle; omega
    · rw [if_neg hla]
      intro r o' hE'
      have hE0 := hE a0 hma r o' hE'
      obtain ⟨u0, hu0, hr0⟩ := h.env a0 _ hE0
      simp only [Rep] at hr0
      obtain ⟨_, b, hb, rfl⟩ := hr0
      have hrd : rd H f o st.E (.tmp a0) = .ptr r o' := by
        simp only [rd, List.getD_eq_getElem?_getD, hE0, Option.getD_some]
        split <;> rfl
      rcases hcase with ⟨cs, hx0, _⟩ | ⟨r2, off, cs, hx0, hbx, hlp, y, hy⟩
      · rw [hrd] at hx0; cases hx0
      · rw [hrd] at hx0
        cases hx0
        obtain ⟨b', hb', _, _, hbr⟩ := h.box r cs hbx
        rw [hb] at hb'; cases hb'
        obtain ⟨arr, ty, harr, hl⟩ := hbr.cells hlp
        have hy' := hy
        unfold ofCells at hy'
        rw [htd] at hy'
        simp only [hag, Bool.false_eq_true, if_false, List.head?_drop] at hy'
        obtain ⟨v2, Oi, hv2, _⟩ := repL_get o' hl hy'
        have hc : w1.cell? ⟨b, o', none⟩ = some v2 := by simp only [World.cell?, harr]; simpa using hv2
        refine ⟨b, v2, ?_, hc, hload hag (getD_at hu0) hc⟩
        rw [htv a0 hma]; exact getD_at hu0
end Go.Ab
