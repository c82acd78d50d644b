/-
  ONE LAW OF A CHAPTER: its program side is run by an interpreter that is proved sound; what it computes is shown to be what the law says. No conditions. Part 3 of 5.
-/
import Derived.Test.YtpiggpgocnlomaaMUnb
import Derived.Laws.Strings
section
/-
  ONE OPERATION of a region with stores into owners' elements.
-/
set_option linter.unusedVariables false
namespace Go.Ab
open Go
variable {P : Program} {H : Hints} {f : FuncId} {C : Orc} {w w' : World} {X X' : Cx}

theorem run_load_cell {t : TypeId} {d : TypeDesc} {b off : Nat} {v : Value} (hu : P.underlying t = some d) (hag : isAggT P t = false) (hc : w.cell? ⟨b, off, none⟩ = some v) : (Instr.loadAt t (.pointer (some ⟨b, off, none⟩))).run P w = .ok v w := by
  simp only [Instr.loadAt, Instr.sureAddr, Sem.run_bind, Sem.run_pure, Result.andThen_ok]
  refine run_loadVar' (vals := [v]) hu (fun i u hi => ?_) (by simp [hag])
  cases i with
  | zero => simp at hi; subst hi; simpa using hc
  | succ i => simp at hi

theorem wp_run {F : Fence} {o : Oper} {a : Act} {K : Act → World → Prop} {Q : Exit → Act → World → Prop} {v : Value} (hnd : ∀ c, o.op ≠ .defer c) (hrun : (execOp a.eval o).run P w = .ok (.value v) w') :
    o.wpIn F 0 P a w K Q ↔ (∀ g, o.about P w a.eval = some g → F.fn g) ∧ K (a.put o.dst v) w' := by
  unfold Oper.wpIn
  rw [Oper.semAt_eq _ _ _ hnd, hrun, Oper.uponIn_value]

theorem run_op (ρ : Operand → Value) (o : Oper) {s : Sem Value} {v : Value} (h : execOp ρ o = (do pure (Next.value (← s)))) (hs : s.run P w = .ok v w') : (execOp ρ o).run P w = .ok (.value v) w' := by
  rw [h]; exact sem_v hs

theorem stepFp_parts {o : Oper} {st st' : St} {fp : Fp} (hx : stepFp P H C f o st = some (st', fp)) :
    (takes H f o = true → nodupT (tmpsOf o) = true) ∧ ∃ z s, stepM P H C f o (o.op.operands.toList.map (rd H f o st.E)) { st with E := dullAt st.E (if takes H f o = true then tmpsOf o else []) } = some (z, s, fp) ∧ st' = s.put o.dst z := by
  unfold stepFp at hx
  split at hx
  · cases hx
  · rename_i hn0
    obtain ⟨⟨z, s, fp'⟩, hm, he⟩ := Option.map_eq_some_iff.1 hx
    obtain ⟨rfl, rfl⟩ := Prod.mk.inj he
    refine ⟨fun ht => by simpa [ht] using hn0, z, s, ?_, rfl⟩
    rw [← hm]
    congr 1
    split <;> rfl

/-- what leaves the boxes as they are -/
theorem tame_run {w0 : World} {X0 : Cx} {Md : Md} {n : Nat} {st st' : St} {a : Act} {O : Pl → List Nat} {o : Oper} {fp : Fp} (h : Rel st a.tmps w X O) (hF : Fr w0 X0 Md n st w X O) (hx : stepFp P H C f o st = some (st', fp)) (ht : tameOp o.op = true) :
    (∀ c, o.op ≠ .defer c) ∧ ∃ v w', (execOp a.eval o).run P w = .ok (.value v) w' ∧ ∀ b, b < w.heap.size → X.ω b = none → w'.heap[b]? = w.heap[b]? := by
  obtain ⟨hn, z, s, hm, _⟩ := stepFp_parts hx
  obtain ⟨Oin, hrep, hs, hlin⟩ := rel_operands (H := H) (f := f) h o _ hn
  rcases stepM_cases hm with ⟨t, d, z0, hop, _⟩ | ⟨t, ao, d, x, hop, _⟩ | ⟨c, fo, fv, args, hop, hcal, _⟩ | ⟨hr, hsem, rfl, _⟩ | ⟨r, hr, hsem, rfl, _⟩ | ⟨r, c, hr, hsem, hall, rfl, _⟩
  · rw [hop] at ht; simp [tameOp] at ht
  · rw [hop] at ht; simp [tameOp] at ht
  · rw [hop] at ht; obtain ⟨cal, a1, a2⟩ := c; simp only at hcal; subst hcal; simp [tameOp] at ht
  · have hnd : ∀ c, o.op ≠ .defer c := by intro c hc; rw [hc] at hsem; simp [opSem] at hsem
    obtain ⟨v, w', X', O', hrun, heff, _⟩ := opSem_ok h.dom hlin hsem hrep
    refine ⟨hnd, v, w', hrun, fun b hb hω => heff.kept b hb fun hbO => ?_⟩
    obtain ⟨e, he⟩ := repL_own _ _ _ hrep b hbO
    rw [hω] at he; cases he
  all_goals
    obtain ⟨off, rest, hxs, hop⟩ := rootOf_some hr
    rcases hop with ⟨t, ao, hop⟩ | ⟨t, ao, xo, hop⟩
    · have hops : o.op.operands.toList = [ao] := by rw [hop]; rfl
      rw [hops] at hrep hxs
      simp only [List.map_cons, List.map_nil, List.cons.injEq] at hxs
      obtain ⟨hx1, rfl⟩ := hxs
      simp only [List.map_cons, List.map_nil, RepL] at hrep
      obtain ⟨u, vs, O1, O2, hu, rfl, hr1, rfl, rfl⟩ := hrep
      simp only [List.cons.injEq, and_true] at hu
      subst hu
      rw [hx1] at hr1
      refine ⟨(by intro c hc; rw [hop] at hc; cases hc), ?_⟩
      have hbx : ∃ cs, st.box r = some cs := by
        cases hh : st.box r with
        | some cs => exact ⟨cs, rfl⟩
        | none => rw [hops, List.map_cons, List.map_nil, hx1, hop, box_withE, hh] at hsem; simp [opSem] at hsem
      obtain ⟨cs, hcs⟩ := hbx
      rw [hops, List.map_cons, List.map_nil, hx1, hop, box_withE, hcs] at hsem
      simp only [opSem] at hsem
      obtain ⟨v, hrun, _⟩ := step_load (dst := o.dst) (tk := takes H f o) h hF hr1 hcs hsem
      exact ⟨v, w, by simp only [execOp, hop, Sem.run_bind, hrun, Result.andThen_ok, Sem.run_pure], fun _ _ _ => rfl⟩
    · rw [hop] at ht; simp [tameOp] at ht

/-- an operation, with what it leaves -/
theorem step_okT (hC : OrcOk P C) {F : Fence} (hFF : F = Fence.wide ∨ ∃ l, F = Fence.wide.inRound l) {w0 : World} {X0 : Cx} {Md : Md} {n : Nat} {st st' : St} {a : Act} {O : Pl → List Nat} {o : Oper} {fp : Fp} (h : Rel st a.tmps w X O) (hF : Fr w0 X0 Md n st w X O)
    (hx : stepFp P H C f o st = some (st', fp)) {K : Act → World → Prop} {Q : Exit → Act → World → Prop}
    (hK : ∀ v w', Sim w0 X0 Md n st' (a.put o.dst v).tmps w' → (tameOp o.op = true → (∀ b, b < w.heap.size → X.ω b = none → w'.heap[b]? = w.heap[b]?) ∧ ∀ v0, (execOp a.eval o).run P w = .ok (.value v0) w → v = v0 ∧ w' = w) → K (a.put o.dst v) w') : o.wpIn F 0 P a w K Q := by
  have hstep : stepOp P H C f o st = some st' := by unfold stepOp; rw [hx]; rfl
  cases ht : tameOp o.op with
  | false => exact step_ok hC hFF ⟨X, O, h, hF⟩ hstep fun v w' hS => hK v w' hS fun h => by rw [ht] at h; cases h
  | true =>
    obtain ⟨hnd, v, w1, hrun, hkept⟩ := tame_run h hF hx ht
    have h1 : o.wpIn F 0 P a w (fun a' w' => Sim w0 X0 Md n st' a'.tmps w') Q := step_ok hC hFF ⟨X, O, h, hF⟩ hstep fun v w' hS => hS
    rw [wp_run hnd hrun] at h1 ⊢
    refine ⟨h1.1, hK v w1 h1.2 fun _ => ⟨hkept, fun v0 h0 => ?_⟩⟩
    rw [hrun] at h0
    simp only [Result.ok.injEq, Next.value.injEq] at h0
    exact h0

theorem tv_put {a : Act} {d : Option Tmp} {v : Value} {t : Tmp} (h : d ≠ some t) : tv (a.put d v).tmps t = tv a.tmps t := by
  unfold tv Act.put
  cases d with
  | none => rfl
  | some d =>
    have : d ≠ t := fun e => h (by rw [e])
    simp [Array.getD_eq_getD_getElem?, this]
theorem tv_put_self {a : Act} {d : Tmp} {v : Value} (h : d < a.tmps.size) : tv (a.put (some d) v).tmps d = v := by
  unfold tv Act.put
  simp [Array.getD_eq_getD_getElem?, h]

/-- what is known behind an operation that makes a link -/
theorem chain_fact {w0 : World} {X0 : Cx} {Md : Md} {n : Nat} {st st' : St} {a : Act} {O : Pl → List Nat} {o : Oper} {fp : Fp} (h : Rel st a.tmps w X O) (hF : Fr w0 X0 Md n st w X O) (hlk : isLk H f o = true) (hself : ∀ d, o.dst = some d → d ∉ tmpsOf o) (hgate : lkGate H f o st.E = true)
    (hx : stepFp P H C f o st = some (st', fp)) :
    (∀ E' tmps' w' X', LkFact P H f E' o tmps' w' X') ∨ (tameOp o.op = true ∧ ∃ v, (execOp a.eval o).run P w = .ok (.value v) w ∧ ∀ (E' : List V) (X' : Cx), (∀ b e fz, X.ω b = some (e, fz) → ∃ e' fz', X'.ω b = some (e', fz') ∧ e ≤ e') →
      (∀ t ∈ tmpsOf o, ∀ r o', E'[t]? = some (.ptr r o') → st.E[t]? = some (.ptr r o')) → LkFact P H f E' o (a.put o.dst v).tmps w X') := by
  obtain ⟨hn, z, s, hm, _⟩ := stepFp_parts hx
  obtain ⟨Oin, hrep, hs, hlin⟩ := rel_operands (H := H) (f := f) h o _ hn
  obtain ⟨d, hdst⟩ : ∃ d, o.dst = some d := by
    cases hd : o.dst with
    | none => unfold isLk at hlk; rw [hd] at hlk; cases hlk
    | some d => exact ⟨d, rfl⟩
  have hgate' := hgate
  unfold lkGate at hgate'
  rw [hlk, hdst] at hgate'
  simp only [Bool.not_true, Bool.false_or, Bool.and_eq_true, decide_eq_true_eq] at hgate'
  obtain ⟨hdlt, hgl⟩ := hgate'
  have hdsz : d < a.tmps.size := by rw [h.size]; exact hdlt
  have hdn := hself d hdst
  have htv : ∀ t ∈ tmpsOf o, ∀ v, tv (a.put o.dst v).tmps t = tv a.tmps t := fun t ht v => tv_put (fun e => hdn (by rw [hdst] at e; cases e; exact ht))
  have htvd : ∀ v, tv (a.put o.dst v).tmps d = v := fun v => by rw [hdst]; exact tv_put_self hdsz
  have hev : ∀ t, a.eval (.tmp t) = tv a.tmps t := fun t => rfl
  by_cases hkind : (∃ a0, o.op = .move (.tmp a0)) ∨ (∃ t a0 i, o.op = .indexAddr t (.tmp a0) i) ∨ (∃ t a0 fd, o.op = .fieldAddr t (.tmp a0) fd) ∨ (∃ t a0, o.op = .load t (.tmp a0))
  case neg =>
    left
    intro E' tmps' w' X'
    unfold LkFact
    split
    · rename_i a0 _ hop _; exact absurd (.inl ⟨a0, hop⟩) hkind
    · rename_i t a0 i _ hop _; exact absurd (.inr (.inl ⟨t, a0, i, hop⟩)) hkind
    · rename_i t a0 fd _ hop _; exact absurd (.inr (.inr (.inl ⟨t, a0, fd, hop⟩))) hkind
    · rename_i t a0 _ hop _; exact absurd (.inr (.inr (.inr ⟨t, a0, hop⟩))) hkind
    · trivial
  case pos =>
  right
  rcases hkind with ⟨a0, hop⟩ | ⟨t, a0, i, hop⟩ | ⟨t, a0, fd, hop⟩ | ⟨t, a0, hop⟩
  · refine ⟨by rw [hop]; rfl, a.eval (.tmp a0), by simp [execOp, hop], fun E' X' _ _ => ?_⟩
    unfold LkFact; rw [hop, hdst]
    simp only
    rw [← hdst, htvd, htv a0 (tmpsOf_mem (by rw [hop]; exact List.mem_singleton.2 rfl) rfl)]
    exact hev a0
  · have hops : o.op.operands.toList = [.tmp a0, i] := by rw [hop]; rfl
    rw [hops] at hrep hm
    simp only [List.map_cons, List.map_nil, RepL] at hrep
    obtain ⟨u, vs, O1, O2, hu, rfl, hr1, u2, vs2, O3, O4, hu2, rfl, hr2, rfl, rfl⟩ := hrep
    simp only [List.cons.injEq] at hu
    obtain ⟨rfl, rfl⟩ := hu
    simp only [List.cons.injEq, and_true] at hu2
    subst hu2
    have hy : ∃ y, vindexAddr P t (rd H f o st.E (.tmp a0)) (rd H f o st.E i) = some y := by
      rw [stepM_dflt (by rw [hop]; rfl)] at hm
      unfold dfltM at hm
      rw [hop] at hm
      simp only [List.map_cons, List.map_nil, rootOf, opSem] at hm
      cases hv : vindexAddr P t (rd H f o st.E (.tmp a0)) (rd H f o st.E i) with
      | none => rw [hv] at hm; simp at hm
      | some y => exact ⟨y, rfl⟩
    obtain ⟨y, hy⟩ := hy
    obtain ⟨v', hrun, _⟩ := op_indexAddr hy hr1 hr2
    refine ⟨by rw [hop]; rfl, v', run_op _ _ (by simp only [execOp, hop]) hrun, fun E' X' _ _ => ?_⟩
    unfold LkFact; rw [hop, hdst]
    simp only
    intro elem hul
    rw [← hdst, htvd, htv a0 (tmpsOf_mem (x := .tmp a0) (by rw [hops]; simp) rfl)]
    have hev2 : evT (a.put o.dst v').tmps i = evT a.tmps i := evT_congr fun t' e => htv t' (tmpsOf_mem (x := i) (by rw [hops]; simp) e) v'
    rw [hev2]
    have hy' := hy
    unfold vindexAddr at hy'
    split at hy'
    · rename_i k m hi0
      rw [hi0] at hr2
      simp only [Rep] at hr2
      obtain ⟨hiv, _⟩ := hr2
      rw [hul] at hy'
      split at hy'
      · rename_i hh _; cases hh
      · rename_i hh _; cases hh
      · rename_i el fl c l hh hx0
        cases hh
        split at hy'
        · rename_i h0
          split at hy'
          · rename_i e he
            split at hy'
            · rename_i hc
              obtain ⟨hlen, hok, hz0, _⟩ := hc
              rw [hx0] at hr1
              simp only [Rep] at hr1
              obtain ⟨_, hr1⟩ := hr1
              rcases hr1 with ⟨rfl, _⟩ | ⟨b, off, cap, sz, vals, O', hv1, hcap, _⟩
              · simp at he
              · have hlt : m < (l.length : Int) := by have := (List.getElem?_eq_some_iff.1 he).1; omega
                have hrun2 : (Instr.indexAt t (a.eval (.tmp a0)) (a.eval i)).run P w = .ok (.pointer (some ⟨b, off + m.toNat * P.cellsOf elem, none⟩)) w := by
                  rw [hv1, hiv]
                  simp [Instr.indexAt, asIntOf, run_underlying hul, h0, hlt, run_sizeOf' hz0, Addr.add_lit]
                rw [hrun] at hrun2
                simp only [Result.ok.injEq, and_true] at hrun2
                refine ⟨b, off, l.length, cap, k, m, by rw [← hev]; exact hv1, ?_, h0, hlt, hrun2⟩
                cases i with
                | tmp t' => exact hiv
                | const u => exact hiv
                | _ => simp only [rd] at hi0; cases hi0
            · cases hy'
          · cases hy'
        · cases hy'
      · cases hy'
    · cases hy'
  · have hops : o.op.operands.toList = [.tmp a0] := by rw [hop]; rfl
    rw [hops] at hrep hm
    simp only [List.map_cons, List.map_nil, RepL] at hrep
    obtain ⟨u, vs, O1, O2, hu, rfl, hr1, rfl, rfl⟩ := hrep
    simp only [List.cons.injEq, and_true] at hu
    subst hu
    have hy : ∃ y, vfieldAddr P t (rd H f o st.E (.tmp a0)) fd = some y := by
      rw [stepM_dflt (by rw [hop]; rfl)] at hm
      unfold dfltM at hm
      rw [hop] at hm
      simp only [List.map_cons, List.map_nil, rootOf, opSem] at hm
      cases hv : vfieldAddr P t (rd H f o st.E (.tmp a0)) fd with
      | none => rw [hv] at hm; simp at hm
      | some y => exact ⟨y, rfl⟩
    obtain ⟨y, hy⟩ := hy
    obtain ⟨v', hrun, _⟩ := op_fieldAddr hy hr1
    refine ⟨by rw [hop]; rfl, v', run_op _ _ (by simp only [execOp, hop]) hrun, fun E' X' _ _ => ?_⟩
    unfold LkFact; rw [hop, hdst]
    simp only
    intro b off o' hv1 ho'
    rw [← hdst, htvd]
    rw [← hdst, htv a0 (tmpsOf_mem (x := .tmp a0) (by rw [hops]; simp) rfl)] at hv1
    have hy' := hy
    unfold vfieldAddr at hy'
    unfold fieldOff at ho'
    cases hul : P.underlying t with
    | none => rw [hul] at hy'; cases hy'
    | some td =>
      rw [hul] at hy' ho'
      cases td with
      | struct fields =>
        simp only at hy' ho'
        cases hf : fields[fd]? with
        | none => rw [hf] at ho'; cases ho'
        | some g =>
          rw [hf] at hy' ho'
          simp only [Option.map_some, Option.some.injEq] at ho'
          subst ho'
          simp only at hy'
          by_cases hz0 : P.cellsOf g.type = 0
          · rw [if_pos hz0] at hy'; cases hy'
          · have hrun2 : (Instr.fieldAt t (a.eval (.tmp a0)) fd).run P w = .ok (.pointer (some ⟨b, off + g.offset, none⟩)) w := by
              rw [hev, hv1]
              simp [Instr.fieldAt, run_underlying hul, hf, Instr.sureAddr, fieldPlace, run_sizeOf' hz0, hz0, Addr.add_lit]
            rw [hrun] at hrun2
            simp only [Result.ok.injEq, and_true] at hrun2
            exact hrun2
      | _ => cases ho'
  · have hops : o.op.operands.toList = [.tmp a0] := by rw [hop]; rfl
    have htame : tameOp o.op = true := by rw [hop]; rfl
    obtain ⟨_, v, w1, hrun0, _⟩ := tame_run h hF hx htame
    rw [hops] at hrep hm
    simp only [List.map_cons, List.map_nil, RepL] at hrep
    obtain ⟨u, vs, O1, O2, hu, rfl, hr1, rfl, rfl⟩ := hrep
    simp only [List.cons.injEq, and_true] at hu
    subst hu
    have hma : a0 ∈ tmpsOf o := tmpsOf_mem (x := .tmp a0) (by rw [hops]; simp) rfl
    -- what is loaded
    have hcase : ∃ td, P.underlying t = some td ∧ ((∃ fl cs, rd H f o st.E (.tmp a0) = .cptr fl cs ∧ ∃ y, ofCells P t cs = some y) ∨ ∃ r off cs, rd H f o st.E (.tmp a0) = .ptr r off ∧ st.box r = some cs ∧ isLp cs = false ∧ ∃ y, ofCells P t (cs.drop off) = some y) := by
      rw [stepM_dflt (by rw [hop]; rfl)] at hm
      unfold dfltM at hm
      rw [hop] at hm
      simp only [List.map_cons, List.map_nil] at hm
      have hu' : ∀ cs y, ofCells P t cs = some y → ∃ td, P.underlying t = some td := fun cs y hy => by
        unfold ofCells at hy
        cases hul : P.underlying t with
        | none => rw [hul] at hy; cases hy
        | some td => exact ⟨td, rfl⟩
      cases hx0 : rd H f o st.E (.tmp a0) with
      | cptr fl cs =>
        rw [hx0] at hm
        simp only [rootOf, opSem] at hm
        cases hy : ofCells P t cs with
        | none => rw [hy] at hm; simp at hm
        | some y => obtain ⟨td, htd⟩ := hu' cs y hy; exact ⟨td, htd, .inl ⟨fl, cs, rfl, y, hy⟩⟩
      | ptr r off =>
        rw [hx0] at hm
        simp only [rootOf, opSem, box_withE] at hm
        cases hbx : st.box r with
        | none => rw [hbx] at hm; simp at hm
        | some cs =>
          rw [hbx] at hm
          simp only at hm
          cases hlp : isLp cs with
          | true => rw [hlp] at hm; simp at hm
          | false =>
            cases hy : ofCells P t (cs.drop off) with
            | none => rw [hlp, hy] at hm; simp at hm
            | some y => obtain ⟨td, htd⟩ := hu' _ y hy; exact ⟨td, htd, .inr ⟨r, off, cs, rfl, hbx, hlp, y, hy⟩⟩
      | _ => rw [hx0] at hm; simp [rootOf, opSem] at hm
    obtain ⟨td, htd, hcase⟩ := hcase
    -- the world stays
    have hw1 : w1 = w := by
      rcases hcase with ⟨fl, cs, hx0, y, hy⟩ | ⟨r, off, cs, hx0, hbx, hlp, y, hy⟩
      · rw [hx0] at hr1
        simp only [Rep] at hr1
        obtain ⟨_, b, off, vals, hv1, hseg, _, hl, _⟩ := hr1
        obtain ⟨v2, _, _, _, hvv, _⟩ := rep_ofCells hy hl
        have : (execOp a.eval o).run P w = .ok (.value v2) w := run_op (s := Instr.loadAt t (a.eval (.tmp a0))) _ _ (by simp only [execOp, hop]) (by
          rw [hv1]
          simp only [Instr.loadAt, Instr.sureAddr, Sem.run_bind, Sem.run_pure, Result.andThen_ok]
          exact run_loadVar' htd hseg hvv)
        rw [hrun0] at this; cases this; rfl
      · rw [hx0] at hr1
        obtain ⟨v2, hrun2, _⟩ := step_load (tk := false) (t := t) (ao := .tmp a0) (dst := none) (z := y.dull) (c := none) h hF hr1 hbx (by rw [hlp, hy]; rfl)
        have : (execOp a.eval o).run P w = .ok (.value v2) w := run_op _ _ (by simp only [execOp, hop]) hrun2
        rw [hrun0] at this; cases this; rfl
    subst hw1
    refine ⟨htame, v, hrun0, fun E' X' hω hE => ?_⟩
    have hload : ∀ {b off : Nat} {v2 : Value}, isAggT P t = false → tv a.tmps a0 = .pointer (some ⟨b, off, none⟩) → w1.cell? ⟨b, off, none⟩ = some v2 → v = v2 := fun hag hp hc => by
      have := run_load_cell htd hag hc
      have h2 := run_op (P := P) (w := w1) a.eval o (s := Instr.loadAt t (a.eval (.tmp a0))) (by simp only [execOp, hop]) (by rw [hev, hp]; exact this)
      rw [hrun0] at h2; cases h2; rfl
    unfold LkFact; rw [hop, hdst]
    simp only
    intro hag
    rw [← hdst, htvd]
    by_cases hla : H.link f a0 = true
    · rw [if_pos hla]
      rw [hop] at hgl
      simp only [hla, Bool.not_true, Bool.false_or] at hgl
      have hcp : ∃ fl cs, rd H f o st.E (.tmp a0) = .cptr fl cs ∧ ∃ y, ofCells P t cs = some y := by
        rcases hcase with h1 | ⟨r, off, cs, hx0, _⟩
        · exact h1
        · exfalso
          simp only [rd] at hx0
          cases hE0 : st.E.getD a0 .undef with
          | cptr fl l => rw [hE0] at hx0; split at hx0 <;> simp [V.dull, V.reflag] at hx0
          | _ => rw [hE0] at hgl; simp [isCptr] at hgl
      obtain ⟨fl, cs, hx0, y, hy⟩ := hcp
      rw [hx0] at hr1
      simp only [Rep] at hr1
      obtain ⟨_, b, off, vals, hv1, hseg, ⟨e, fz, hωb, hle, _⟩, hl, _⟩ := hr1
      have hy' := hy
      unfold ofCells at hy'
      rw [htd] at hy'
      simp only [hag, Bool.false_eq_true, if_false] at hy'
      cases cs with
      | nil => simp at hy'
      | cons c0 cs =>
        have hl' := repL_length _ _ _ hl
        cases vals with
        | nil => simp at hl'
        | cons v2 vals =>
          have hc := hseg 0 v2 rfl
          simp only [Nat.add_zero] at hc
          obtain ⟨e', fz', h1, h2⟩ := hω b e fz hωb
          have hvv := hload hag (by rw [← hev]; exact hv1) hc
          refine ⟨b, off, v2, ?_, hc, hvv, e', fz', h1, ?_⟩
          · rw [htv a0 hma, ← hev]; exact hv1
          · simp only [List.length_cons] at hle; omega
    · rw [if_neg hla]
      intro r o' hE'
      have hE0 := hE a0 hma r o' hE'
      obtain ⟨u0, hu0, hr0⟩ := h.env a0 _ hE0
      simp only [Rep] at hr0
      obtain ⟨_, b, hb, rfl⟩ := hr0
      have hrd : rd H f o st.E (.tmp a0) = .ptr r o' := by
        simp only [rd, List.getD_eq_getElem?_getD, hE0, Option.getD_some]
        split <;> rfl
      rcases hcase with ⟨fl, cs, hx0, _⟩ | ⟨r2, off, cs, hx0, hbx, hlp, y, hy⟩
      · rw [hrd] at hx0; cases hx0
      · rw [hrd] at hx0
        cases hx0
        obtain ⟨b', hb', _, _, hbr⟩ := h.box r cs hbx
        rw [hb] at hb'; cases hb'
        obtain ⟨arr, ty, harr, hl⟩ := hbr.cells hlp
        have hy' := hy
        unfold ofCells at hy'
        rw [htd] at hy'
        simp only [hag, Bool.false_eq_true, if_false, List.head?_drop] at hy'
        obtain ⟨v2, Oi, hv2, _⟩ := repL_get o' hl hy'
        have hc : w1.cell? ⟨b, o', none⟩ = some v2 := by simp only [World.cell?, harr]; simpa using hv2
        refine ⟨b, v2, ?_, hc, hload hag (getD_at hu0) hc⟩
        rw [htv a0 hma]; exact getD_at hu0
end Go.Ab
end
section
/-
  AN OWNER'S ELEMENT IS TAKEN OUT: nothing happens in the world, another place owns it.
-/
set_option linter.unusedVariables false
namespace Go.Ab
open Go
variable {P : Program} {H : Hints} {f : FuncId} {C : Orc} {w w' : World} {X X' : Cx}

theorem RepE.swap {s : Nat} : ∀ {l : List V} {vals : List Value} {O : List Nat} (j : Nat) {e : V}, RepE w X s l vals O → l[j]? = some e →
    ∃ u O1 Oe O2, O = O1 ++ Oe ++ O2 ∧ Rep w X e u Oe ∧ u.cells.size = s ∧ (∀ i, i < s → vals[j * s + i]? = u.cells.toList[i]?) ∧
      ∀ (e' : V) (Oe' : List Nat), Rep w X e' u Oe' → RepE w X s (l.set j e') vals (O1 ++ Oe' ++ O2)
  | [], vals, O, j, e, h, hj => by simp at hj
  | y :: l, vals, O, 0, e, h, hj => by
    simp only [RepE] at h
    obtain ⟨u, vs, A, B, rfl, hsz, rfl, h1, h2⟩ := h
    simp at hj; subst hj
    have hl : u.cells.toList.length = s := by simpa using hsz
    refine ⟨u, [], A, B, by simp, h1, hsz, fun i hi => ?_, fun e' Oe' hr => ?_⟩
    · rw [Nat.zero_mul, Nat.zero_add, List.getElem?_append_left (by omega)]
    · simp only [List.set_cons_zero, RepE, List.nil_append]
      exact ⟨u, vs, Oe', B, rfl, hsz, rfl, hr, h2⟩
  | y :: l, vals, O, j + 1, e, h, hj => by
    simp only [RepE] at h
    obtain ⟨u0, vs, A, B, rfl, hsz0, rfl, h1, h2⟩ := h
    obtain ⟨u, O1, Oe, O2, rfl, hr, hsz, hc, hk⟩ := RepE.swap (j := j) h2 (by simpa using hj)
    have hl : u0.cells.toList.length = s := by simpa using hsz0
    refine ⟨u, A ++ O1, Oe, O2, by simp, hr, hsz, fun i hi => ?_, fun e' Oe' hr' => ?_⟩
    · rw [show (j + 1) * s + i = s + (j * s + i) by rw [Nat.succ_mul]; omega, List.getElem?_append_right (by omega), hl, Nat.add_sub_cancel_left]
      exact hc i hi
    · simp only [List.set_cons_succ, RepE]
      exact ⟨u0, vs, A, O1 ++ Oe' ++ O2, rfl, hsz0, by simp, h1, hk e' Oe' hr'⟩

theorem takF_ok {j o s : Nat} {x u y : V} {v : Value} {O : List Nat} (hx : takF j o s x = some (u, y)) (h : Rep w X x v O) :
    ∃ uv A B, Rep w X u uv A ∧ Rep w X y v B ∧ (∀ k, A.count k + B.count k ≤ O.count k) ∧ u.ptrs = [] ∧ y.ptrs = [] ∧ (∀ z, SlF w v [(j, o, s)] z → z = uv) := by
  unfold takF at hx
  split at hx
  · rename_i c l
    split at hx
    · rename_i c' l' he
      split at hx
      · rename_i hos
        obtain ⟨rfl, rfl⟩ := hos
        simp only [Option.some.injEq, Prod.mk.injEq] at hx
        obtain ⟨rfl, rfl⟩ := hx
        obtain ⟨b, off, cap, vals, O', rfl, rfl, hcap, hc, hlen, hs0, hxs, hsg, hω, hsp, h0, hE, hnp⟩ := own_open (s := 1) h he (by rfl)
        obtain ⟨uv, O1, Oe, O2, rfl, hr, hsz, hat, hk⟩ := RepE.swap j hE he
        have hr2 := hk _ _ (rep_dull hr)
        refine ⟨uv, Oe, b :: (O1 ++ [] ++ O2), hr, own_close hcap hc hlen hs0 hxs hω h0 hnp (by rfl) (by simp [V.dull, V.reflag, V.ptrs]) rfl hsg hsp hr2, fun k => ?_, by simp [V.ptrs], by simp [V.ptrs], ?_⟩
        · simp only [List.count_cons, List.count_append, List.append_nil]; omega
        · rintro z ⟨b1, off1, len1, cap1, z1, hv, hj, hcell, hz⟩
          simp only [SlF] at hz
          subst hz
          simp only [Value.slice.injEq, Option.some.injEq, Addr.mk.injEq] at hv
          obtain ⟨⟨rfl, rfl, _⟩, rfl, rfl⟩ := hv
          have h1 := hat 0 (by omega)
          have huc : uv.cells.toList = [uv] := by rw [cells_of_one (rep_one (by rfl) hr)]
          rw [huc] at h1
          have h2 := hsg (j * 1 + 0) uv (by rw [h1]; rfl)
          have h3 : off + j * 1 + 0 = off + (j * 1 + 0) := by omega
          rw [h3, h2] at hcell
          cases hcell; rfl
      · cases hx
    · cases hx
  · cases hx

theorem apTake_ok {w0 : World} {X0 : Cx} {Md : Md} {n : Nat} {ops : Array Oper} {s : Nat} {o : Oper} {st st1 : St} {tmps : Array Value} {O : Pl → List Nat} (h : Rel st tmps w X O) (hF : Fr w0 X0 Md n st w X O)
    (hpath : ∀ d rt p, apOf o = some d → lkPath P H f ops st.E ops.size s d = some (rt, p, false) → ∃ v0, RootVal w X tmps rt v0 ∧ SlF w v0 p.reverse (tv tmps d)) (hx : apTake P H f ops s o st = some st1) :
    ∃ O', Rel st1 tmps w X O' ∧ Fr w0 X0 Md n st1 w X O' ∧ ∀ (t : Nat) (r : Root) (off : Nat), st1.E[t]? = some (V.ptr r off) → st.E[t]? = some (V.ptr r off) := by
  have hap : ∀ {d : Tmp} {callee : Callee} {args : Array Operand} {argTypes : Array TypeId}, o.op = .call { callee, args, argTypes } → (args[0]? : Option Operand) = some (.tmp d) → apOf o = some d := fun h1 h2 => by unfold apOf; rw [h1]; simp only [h2]
  unfold apTake at hx
  split at hx
  · rename_i hop0
    split at hx
    · rename_i d hd0
      split at hx
      · rename_i r j c k hlk
        split at hx
        · cases hx
        · rename_i hne
          simp only [not_or, Nat.not_le] at hne
          obtain ⟨hrd, hdl⟩ := hne
          split at hx
          · rename_i u y htk
            simp only [Option.some.injEq] at hx
            subst hx
            obtain ⟨v0, hroot, hsl⟩ := hpath d _ _ (hap hop0 hd0) hlk
            simp only [RootVal] at hroot
            have hr0 : st.E[r]? = some (st.E.getD r .undef) := by
              cases hE : st.E[r]? with
              | none =>
                exfalso
                have : st.E.getD r .undef = .undef := by simp [hE]
                rw [this] at htk
                simp [takF] at htk
              | some x => simp [hE]
            obtain ⟨v, hv, hrep⟩ := h.env r _ hr0
            have hv0 : v0 = v := by rw [← hroot]; simp [hv]
            subst hv0
            obtain ⟨uv, A, B, hu, hy, hcnt, hup, hyp, hz⟩ := takF_ok htk hrep
            have hrl : @LT.lt Nat _ r st.E.length := (List.getElem?_eq_some_iff.1 hr0).1
            have htd : tv tmps d = uv := hz _ hsl
            have hds : d < tmps.size := by rw [h.size]; exact hdl
            have htd' : tmps[d]? = some uv := by
              rw [← htd]; unfold tv
              simp [hds]
            let O' : Pl → List Nat := fun p => match p with
              | .tmp t => if t = d then A else if t = r then B else O (.tmp t)
              | q => O q
            have hAO : ∀ b ∈ A, b ∈ O (.tmp r) := fun b hb => List.count_pos_iff.1 (by have := hcnt b; have := List.count_pos_iff.2 hb; omega)
            have hBO : ∀ b ∈ B, b ∈ O (.tmp r) := fun b hb => List.count_pos_iff.1 (by have := hcnt b; have := List.count_pos_iff.2 hb; omega)
            have hAB : ∀ b ∈ A, b ∉ B := fun b hb hb' => by
              have := hcnt b
              have := List.count_pos_iff.2 hb
              have := List.count_pos_iff.2 hb'
              have := h.lin (.tmp r) b
              omega
            have hO'd : O' (.tmp d) = A := by simp [O']
            have hO'r : O' (.tmp r) = B := by simp [O', hrd]
            have hO'o : ∀ p, p ≠ .tmp d → p ≠ .tmp r → O' p = O p := fun p h1 h2 => by
              cases p with
              | tmp t =>
                have e1 : t ≠ d := fun e => h1 (by rw [e])
                have e2 : t ≠ r := fun e => h2 (by rw [e])
                simp [O', e1, e2]
              | box q => rfl
            have hsrc : ∀ p b, b ∈ O' p → b ∈ O (if p = .tmp d then .tmp r else p) := fun p b hb => by
              by_cases h1 : p = .tmp d
              · subst h1; rw [hO'd] at hb; rw [if_pos rfl]; exact hAO b hb
              · rw [if_neg h1]
                by_cases h2 : p = .tmp r
                · subst h2; rw [hO'r] at hb; exact hBO b hb
                · rw [hO'o p h1 h2] at hb; exact hb
            have hE1 : ∀ t : Nat, ((st.E.set r y).set d u)[t]? = if t = d then some u else if t = r then some y else st.E[t]? := fun t => by
              by_cases h1 : t = d
              · subst h1; rw [if_pos rfl, List.getElem?_set_self (by simpa using hdl)]
              · rw [if_neg h1, List.getElem?_set_ne (fun e => h1 e.symm)]
                by_cases h2 : t = r
                · subst h2; rw [if_pos rfl, List.getElem?_set_self hrl]
                · rw [if_neg h2, List.getElem?_set_ne (fun e => h2 e.symm)]
            have hptr : ∀ (t : Nat) (q : Root) (off : Nat), ((st.E.set r y).set d u)[t]? = some (V.ptr q off) → st.E[t]? = some (V.ptr q off) := fun t q off ht => by
              rw [hE1] at ht
              split at ht
              · cases ht; simp [V.ptrs] at hup
              · split at ht
                · cases ht; simp [V.ptrs] at hyp
                · exact ht
            refine ⟨O', ?_, ?_, hptr⟩
            · exact {
                size := by rw [h.size]; simp
                env := fun t x hx => by
                  have hx' : ((st.E.set r y).set d u)[t]? = some x := hx
                  rw [hE1] at hx'
                  by_cases h1 : t = d
                  · subst h1
                    rw [if_pos rfl] at hx'; cases hx'
                    exact ⟨uv, htd', by rw [hO'd]; exact hu⟩
                  · rw [if_neg h1] at hx'
                    by_cases h2 : t = r
                    · subst h2
                      rw [if_pos rfl] at hx'; cases hx'
                      exact ⟨v0, hv, by rw [hO'r]; exact hy⟩
                    · rw [if_neg h2] at hx'
                      obtain ⟨v, h3, h4⟩ := h.env t x hx'
                      have e : O' (.tmp t) = O (.tmp t) := hO'o (.tmp t) (fun e => h1 (by cases e; rfl)) (fun e => h2 (by cases e; rfl))
                      exact ⟨v, h3, by rw [e]; exact h4⟩
                envD := fun t ht => by
                  have ht' : st.E.length ≤ t := by have : ((st.E.set r y).set d u).length ≤ t := ht; simpa using this
                  have e : O' (.tmp t) = O (.tmp t) := hO'o (.tmp t) (fun e => by cases e; omega) (fun e => by cases e; omega)
                  rw [e]; exact h.envD t ht'
                box := fun q c hq => by
                  have : O' (.box q) = O (.box q) := rfl
                  rw [this]; exact h.box q c hq
                boxD := fun q hq => h.boxD q hq
                inj := h.inj
                lin := fun p k => by
                  by_cases h1 : p = .tmp d
                  · subst h1; rw [hO'd]; have := hcnt k; have := h.lin (.tmp r) k; omega
                  · by_cases h2 : p = .tmp r
                    · subst h2; rw [hO'r]; have := hcnt k; have := h.lin (.tmp r) k; omega
                    · rw [hO'o p h1 h2]; exact h.lin p k
                dis := fun p q hpq b hb hq => by
                  by_cases h1 : p = .tmp d
                  · subst h1
                    by_cases h2 : q = .tmp r
                    · subst h2; rw [hO'd] at hb; rw [hO'r] at hq; exact hAB b hb hq
                    · have h3 := hsrc (.tmp d) b hb
                      have h4 := hsrc q b hq
                      rw [if_pos rfl] at h3
                      rw [if_neg (fun e => hpq e.symm)] at h4
                      exact h.dis _ _ (fun e => h2 e.symm) b h3 h4
                  · by_cases h2 : q = .tmp d
                    · subst h2
                      by_cases h3 : p = .tmp r
                      · subst h3; rw [hO'd] at hq; rw [hO'r] at hb; exact hAB b hq hb
                      · have h4 := hsrc p b hb
                        have h5 := hsrc (.tmp d) b hq
                        rw [if_pos rfl] at h5
                        rw [if_neg h1] at h4
                        exact h.dis _ _ h3 b h4 h5
                    · have h4 := hsrc p b hb
                      have h5 := hsrc q b hq
                      rw [if_neg h1] at h4
                      rw [if_neg h2] at h5
                      exact h.dis _ _ hpq b h4 h5
                ptrE := fun q hq => by
                  obtain ⟨x, hx, hqx⟩ := mem_ptrsL.1 hq
                  obtain ⟨t, ht⟩ := List.mem_iff_getElem?.1 hx
                  rw [hE1] at ht
                  split at ht
                  · cases ht; rw [hup] at hqx; simp at hqx
                  · split at ht
                    · cases ht; rw [hyp] at hqx; simp at hqx
                    · exact h.ptrE q (mem_ptrsL.2 ⟨x, List.mem_of_getElem? ht, hqx⟩)
                ptrB := h.ptrB
                up := h.up
                dom := h.dom }
            · exact {
                size := hF.size
                kept := hF.kept
                grew := hF.grew
                β := hF.β
                own := fun p b hb => hF.own _ b (hsrc p b hb)
                boxM := hF.boxM
                lev := hF.lev
                live := hF.live
                os := hF.os
                out := hF.out
                tape := hF.tape }
          · cases hx
      · cases hx
    · cases hx
  · cases hx
end Go.Ab
end
section
/-
  A REGION with stores into owners' elements.
-/
set_option linter.unusedVariables false
namespace Go.Ab
open Go
variable {P : Program} {H : Hints} {f : FuncId} {C : Orc} {w w' : World} {X X' : Cx}

/-- while a store is still to come: what is known of addresses -/
def Inv (P : Program) (H : Hints) (f : FuncId) (ops : Array Oper) (done : Nat → Prop) (E : List V) (tmps : Array Value) (w : World) (X : Cx) : Prop :=
  (∃ (s : Nat) (o : Oper), ops[s]? = some o ∧ isLs H f o = true ∧ ¬ done s) → ∀ (c : Nat) (oc : Oper), ops[c]? = some oc → isLk H f oc = true → done c → LkFact P H f E oc tmps w X
def SimI (P : Program) (H : Hints) (f : FuncId) (ops : Array Oper) (done : Nat → Prop) (w0 : World) (X0 : Cx) (Md : Md) (n : Nat) (st : St) (a : Act) (w : World) : Prop :=
  ∃ X O, Rel st a.tmps w X O ∧ Fr w0 X0 Md n st w X O ∧ MarkOk w0 w X a.defers ∧ Inv P H f ops done st.E a.tmps w X

theorem SimI.simD {ops : Array Oper} {done : Nat → Prop} {w0 : World} {X0 : Cx} {Md : Md} {n : Nat} {st : St} {a : Act} (h : SimI P H f ops done w0 X0 Md n st a w) : SimD w0 X0 Md n st a w := by
  obtain ⟨X, O, h1, h2, h3, _⟩ := h; exact ⟨X, O, h1, h2, h3⟩
theorem SimD.simI {ops : Array Oper} {w0 : World} {X0 : Cx} {Md : Md} {n : Nat} {st : St} {a : Act} (h : SimD w0 X0 Md n st a w) : SimI P H f ops (fun _ => False) w0 X0 Md n st a w := by
  obtain ⟨X, O, h1, h2, h3⟩ := h; exact ⟨X, O, h1, h2, h3, fun _ c oc _ _ hd => hd.elim⟩
theorem SimI.mono {ops : Array Oper} {done done' : Nat → Prop} {w0 : World} {X0 : Cx} {Md : Md} {n : Nat} {st : St} {a : Act} (h : SimI P H f ops done w0 X0 Md n st a w) (hd : ∀ i, i < ops.size → (done' i ↔ done i)) : SimI P H f ops done' w0 X0 Md n st a w := by
  obtain ⟨X, O, h1, h2, h3, h4⟩ := h
  have hlt : ∀ {i : Nat} {o : Oper}, ops[i]? = some o → i < ops.size := fun h => (Array.getElem?_eq_some_iff.1 h).1
  refine ⟨X, O, h1, h2, h3, fun ⟨s, o, ho, hls, hs⟩ c oc hoc hlk hc => h4 ⟨s, o, ho, hls, fun h => hs ((hd s (hlt ho)).2 h)⟩ c oc hoc hlk ((hd c (hlt hoc)).1 hc)⟩

theorem oneL_cases {ops : Array Oper} {i : Nat} {st st' : St} {ft : Foot} (hx : oneL P H C f ops i st = some (st', ft)) :
    ∃ o, ops[i]? = some o ∧ ((isLs H f o = true ∧ lsStep P H f ops i o st = some st') ∨ (isLs H f o = false ∧ isAp H f o = true ∧ isLk H f o = false ∧ ∃ st1, apTake P H f ops i o st = some st1 ∧ oneR P H C f ops i st1 = some (st', ft)) ∨
      (isLs H f o = false ∧ isAp H f o = false ∧ lkGate H f o st.E = true ∧ oneR P H C f ops i st = some (st', ft))) := by
  unfold oneL at hx
  cases ho : ops[i]? with
  | none => rw [ho] at hx; cases hx
  | some o =>
    rw [ho] at hx
    simp only at hx
    refine ⟨o, rfl, ?_⟩
    cases hls : isLs H f o with
    | true =>
      rw [hls, if_pos rfl] at hx
      obtain ⟨s, h1, h2⟩ := Option.map_eq_some_iff.1 hx
      cases h2
      exact .inl ⟨rfl, h1⟩
    | false =>
      rw [hls] at hx
      simp only [Bool.false_eq_true, if_false] at hx
      cases hap : isAp H f o with
      | true =>
        rw [hap] at hx
        simp only [if_true] at hx
        split at hx
        · cases hx
        · rename_i hk
          obtain ⟨s1, h1, h2⟩ := Option.bind_eq_some_iff.1 hx
          exact .inr (.inl ⟨rfl, rfl, by simpa using hk, s1, h1, h2⟩)
      | false =>
        rw [hap] at hx
        simp only [Bool.false_eq_true, if_false] at hx
        split at hx
        · rename_i hg; exact .inr (.inr ⟨rfl, rfl, hg, hx⟩)
        · cases hx

theorem ptr_of_dull {x : V} {r : Root} {o : Nat} (h : x.dull = .ptr r o) : x = .ptr r o := by cases x <;> simp_all [V.dull, V.reflag]
theorem ptr_of_hard {x : V} {r : Root} {o : Nat} (h : x.hard = .ptr r o) : x = .ptr r o := by
  unfold V.hard at h; split at h
  · cases h
  · exact h
theorem ptr_dullAt {E : List V} {T : List Tmp} {t : Nat} {r : Root} {o : Nat} (h : (dullAt E T)[t]? = some (.ptr r o)) : E[t]? = some (.ptr r o) := by
  rw [dullAt_at] at h
  split at h
  · obtain ⟨x, h1, h2⟩ := Option.map_eq_some_iff.1 h
    rw [h1, ptr_of_dull h2]
  · exact h
theorem updF_sl {ys : List V} {p : Path} {x y : V} (h : updF ys p x = some y) : ∃ c l, y = .sl .own c l := by
  unfold updF at h
  split at h
  · cases h
  · split at h
    · split at h
      · split at h
        · split at h
          · cases h; exact ⟨_, _, rfl⟩
          · cases h
        · split at h
          · obtain ⟨z, _, h2⟩ := Option.map_eq_some_iff.1 h
            exact ⟨_, _, h2.symm⟩
          · cases h
      · cases h
    · cases h
  · cases h
theorem ls_E {ops : Array Oper} {s : Nat} {o : Oper} {st st' : St} (h : lsStep P H f ops s o st = some st') {t : Nat} {r : Root} {off : Nat} (hE : st'.E[t]? = some (.ptr r off)) : st.E[t]? = some (.ptr r off) := by
  unfold lsStep at h
  split at h
  · simp only at h
    split at h
    · split at h
      · rename_i r0 p hlk
        split at h
        · cases h
        · split at h
          · rename_i y hy
            split at h
            · cases h
            · simp only [Option.some.injEq] at h
              subst h
              simp only [List.getElem?_set] at hE
              split at hE
              · split at hE
                · obtain ⟨c, l, rfl⟩ := updF_sl hy
                  cases hE
                · cases hE
              · rw [List.getElem?_map] at hE
                obtain ⟨x, h1, h2⟩ := Option.map_eq_some_iff.1 hE
                rw [ptr_of_hard h2] at h1
                exact ptr_dullAt h1
          · cases h
      · split at h
        · split at h
          · split at h
            · split at h
              · cases h
              · simp only [Option.some.injEq] at h
                subst h
                simp only [List.getElem?_map] at hE
                obtain ⟨x, h1, h2⟩ := Option.map_eq_some_iff.1 hE
                rw [ptr_of_hard h2] at h1
                exact ptr_dullAt h1
            · cases h
          · cases h
        · cases h
      · cases h
    · cases h
  · cases h

/-- the text's demands at an operation -/
structure Fits (H : Hints) (f : FuncId) (ops : Array Oper) (done : Nat → Prop) (i : Nat) : Prop where
  new : ¬ done i
  after : ∀ (c : Nat) (oc o : Oper), ops[c]? = some oc → ops[i]? = some o → isLk H f oc = true → done c → okAfter H f oc o = true
  self : ∀ (o : Oper), ops[i]? = some o → isLk H f o = true → o.guard = none ∧ ∀ d, o.dst = some d → d ∉ tmpsOf o
  ls : ∀ (o : Oper), ops[i]? = some o → isLs H f o = true → ∀ (c : Nat) (oc : Oper), ops[c]? = some oc → isLk H f oc = true → c < i → done c
  apl : ∀ (o : Oper) (d : Tmp), ops[i]? = some o → isAp H f o = true → apOf o = some d → ∀ (c : Nat) (oc : Oper), ops[c]? = some oc → isLk H f oc = true → c < i → (∀ x, oc.dst = some x → x ∈ lkTmps H f ops ops.size i d) → done c
  ap : ∀ (o : Oper), ops[i]? = some o → isAp H f o = true → ∃ (s : Nat) (os : Oper), ops[s]? = some os ∧ isLs H f os = true ∧ ¬ done s
  lone : ∀ (c : Nat) (oc : Oper), ops[c]? = some oc → isLk H f oc = true → nestLoad H f oc = true → ∀ (s s' : Nat) (o o' : Oper), ops[s]? = some o → ops[s']? = some o' → isLs H f o = true → isLs H f o' = true → s = s'

theorem okAfter_spec {oc oi : Oper} (h : okAfter H f oc oi = true) : (∀ d, oi.dst = some d → oc.dst ≠ some d ∧ d ∉ tmpsOf oc) ∧ (boxLoad H f oc = true → tameOp oi.op = true ∨ isLs H f oi = true) := by
  unfold okAfter at h
  simp only [Bool.and_eq_true, Bool.or_eq_true, Bool.not_eq_true'] at h
  refine ⟨fun d hd => ?_, fun hb => ?_⟩
  · have h1 := h.1
    rw [hd] at h1
    simp at h1
    exact ⟨h1.1, h1.2⟩
  · rcases h.2 with (h2 | h2) | h2
    · rw [hb] at h2; cases h2
    · exact .inl h2
    · exact .inr h2

theorem fok_fence {F : Fence} {X0 : Cx} {Md : Md} {n : Nat} (h : FOk F X0 Md n) : F = Fence.wide ∨ ∃ l, F = Fence.wide.inRound l := by
  rcases h.1 with h | ⟨r, l, h, _⟩
  · exact .inl h
  · exact .inr ⟨l, h⟩

/-- an operation that is none of the two -/
theorem other_okL (hC : OrcOk P C) {F : Fence} {w0 : World} {X0 : Cx} {Md : Md} {n : Nat} (hFO : FOk F X0 Md n) {ops : Array Oper} {done : Nat → Prop} {i : Nat} {st st' : St} {ft : Foot} {a : Act} (hS : SimI P H f ops done w0 X0 Md n st a w)
    {o : Oper} (ho : ops[i]? = some o) (hls : isLs H f o = false) (hgate : lkGate H f o st.E = true) (hx : oneR P H C f ops i st = some (st', ft)) (hfit : Fits H f ops done i) {K : Act → World → Prop} {Q : Exit → Act → World → Prop} (hK : ∀ a' w', SimI P H f ops (fun k => done k ∨ k = i) w0 X0 Md n st' a' w' → K a' w') : wpOpIn F 0 P ops Q i K a w := by
  have hFF := fok_fence hFO
  obtain ⟨X, O, h, hF, hM, hI⟩ := hS
  obtain ⟨Md2, hFb, hkd, lift⟩ := rebaseF h hF hM
  obtain ⟨o', ho', b, z, m, A⟩ := oneR_iff.1 hx
  rw [ho] at ho'; cases ho'
  have hE' : ∀ t, o.dst ≠ some t → ∀ r off, st'.E[t]? = some (.ptr r off) → st.E[t]? = some (.ptr r off) := fun t ht r off hE => by
    rw [A.res] at hE
    simp only [putE_at] at hE
    rw [if_neg (fun hh => ht hh.1)] at hE
    exact ptr_dullAt hE
  have key : ∀ (v : Value) (w' : World), Sim w X Md2 n st' (a.put o.dst v).tmps w' → (tameOp o.op = true → ∀ b, b < w.heap.size → X.ω b = none → w'.heap[b]? = w.heap[b]?) →
      (isLk H f o = true → ∀ X' : Cx, (∀ b e fz, X.ω b = some (e, fz) → ∃ e' fz', X'.ω b = some (e', fz') ∧ e ≤ e') → LkFact P H f st'.E o (a.put o.dst v).tmps w' X') →
      SimI P H f ops (fun k => done k ∨ k = i) w0 X0 Md n st' (a.put o.dst v) w' := by
    rintro v w' ⟨X', O', hR', hFr'⟩ htame hnew
    obtain ⟨hF', hM'⟩ := lift _ _ _ _ hFr'
    have hdef : (a.put o.dst v).defers = a.defers := by cases o.dst <;> rfl
    have hω : ∀ b e fz, X.ω b = some (e, fz) → ∃ e' fz', X'.ω b = some (e', fz') ∧ e ≤ e' := fun b e fz hb => by
      obtain ⟨e', fz', h1, h2, _⟩ := hFr'.grew b e fz hb; exact ⟨e', fz', h1, h2⟩
    refine ⟨X', O', hR', hF', by rw [hdef]; exact hM', fun ⟨s, os, hos, hlss, hs⟩ c oc hoc hlk hc => ?_⟩
    have hfacts := hI ⟨s, os, hos, hlss, fun hd => hs (.inl hd)⟩
    rcases hc with hc | rfl
    · obtain ⟨h1, h2⟩ := okAfter_spec (hfit.after c oc o hoc ho hlk hc)
      refine (hfacts c oc hoc hlk hc).keep (fun d hd => tv_put (fun e => (h1 d e).1 hd)) (fun t ht => tv_put (fun e => (h1 t e).2 ht)) (fun _ => ⟨hω, fun b e fz k v hb hk hcell => ?_⟩) (fun hbl t' ht' r o' hE => ?_)
      · obtain ⟨e', fz', _, _, _, h4⟩ := hFr'.grew b e fz hb
        exact h4 k v hk hcell
      · have hE0 := hE' t' (fun e => (h1 t' e).2 ht') r o' hE
        refine ⟨hE0, fun b' hb' => ?_⟩
        obtain ⟨u, hu, hr⟩ := h.env t' _ hE0
        simp only [Rep] at hr
        obtain ⟨_, b2, hb2, rfl⟩ := hr
        rw [getD_at hu] at hb'
        cases hb'
        have hlive := h.ptrE r (mem_ptrsL.2 ⟨_, List.mem_of_getElem? hE0, by simp [V.ptrs]⟩)
        obtain ⟨cs, hcs⟩ := Option.isSome_iff_exists.1 hlive
        obtain ⟨b3, hb3, hlt, hω0, _⟩ := h.box r cs hcs
        rw [hb2] at hb3; cases hb3
        have ht : tameOp o.op = true := by
          rcases h2 hbl with h2 | h2
          · exact h2
          · rw [hls] at h2; cases h2
        exact cell_of_heap (htame ht _ hlt hω0)
    · rw [ho] at hoc; cases hoc
      exact hnew hlk X' hω
  unfold wpOpIn
  rw [ho]
  simp only
  rw [wanted_ok h A.wanted]
  cases b with
  | false =>
    simp only [Bool.false_eq_true, if_false]
    refine ⟨fun g _ => fn_wide hFF g, hK _ _ (key undef w ?_ (fun _ _ _ _ => rfl) (fun hlk => ?_))⟩
    · obtain ⟨rfl, rfl, _⟩ := some3 A.mem
      refine ⟨X, putO O [] o.dst st.E.length [], ?_⟩
      have hst' : st' = st.put o.dst (.val undef) := by rw [A.res, put_eq]; rfl
      rw [hst', putT_eq]
      exact ⟨h.put0 o.dst (by simp [Rep]) Lin.nil (by simp) (by simp [V.ptrs]), hFb.put0 o.dst (by simp)⟩
    · have := (hfit.self o ho hlk).1
      have hw := A.wanted
      unfold wantedA at hw
      rw [this] at hw
      cases hw
  | true =>
    simp only [if_true]
    have hstep : stepFp P H C f o st = some (st', ft.fp) := by
      have h2 := hx
      unfold oneR at h2
      rw [ho] at h2
      simp only [A.wanted] at h2
      obtain ⟨⟨s1, fp⟩, h3, h4⟩ := Option.map_eq_some_iff.1 h2
      simp only [Prod.mk.injEq] at h4
      obtain ⟨rfl, rfl⟩ := h4
      exact h3
    refine step_okT hC hFF h hFb hstep fun v w' hSim ht => hK _ _ (key v w' hSim (fun h1 => (ht h1).1) fun hlk X' hω => ?_)
    obtain ⟨_, hself⟩ := hfit.self o ho hlk
    rcases chain_fact h hFb hlk hself hgate hstep with hall | ⟨htm, v0, hrun, hfact⟩
    · exact hall _ _ _ _
    · obtain ⟨rfl, rfl⟩ := (ht htm).2 v0 hrun
      exact hfact _ _ hω (fun t ht' r o' hE => hE' t (fun e => hself t e ht') r o' hE)
/-- ONE OPERATION -/
theorem one_okL (hC : OrcOk P C) {F : Fence} {w0 : World} {X0 : Cx} {Md : Md} {n : Nat} (hFO : FOk F X0 Md n) {ops : Array Oper} {done : Nat → Prop} {i : Nat} {st st' : St} {ft : Foot} {a : Act} (hS : SimI P H f ops done w0 X0 Md n st a w)
    (hx : oneL P H C f ops i st = some (st', ft)) (hfit : Fits H f ops done i) {K : Act → World → Prop} {Q : Exit → Act → World → Prop} (hK : ∀ a' w', SimI P H f ops (fun k => done k ∨ k = i) w0 X0 Md n st' a' w' → K a' w') : wpOpIn F 0 P ops Q i K a w := by
  have hFF := fok_fence hFO
  have hS0 := hS
  obtain ⟨X, O, h, hF, hM, hI⟩ := hS
  obtain ⟨o, ho, ⟨hls, hx⟩ | ⟨hls, hap, hnk, st1, hx1, hx⟩ | ⟨hls, hap, hgate, hx⟩⟩ := oneL_cases hx
  · -- the store
    obtain ⟨t, d, xo, hop, hld⟩ : ∃ t d xo, o.op = .store t (.tmp d) xo ∧ H.link f d = true := by
      unfold isLs at hls
      split at hls
      · rename_i t d xo hop; exact ⟨t, d, xo, hop, hls⟩
      · cases hls
    have hpend : ∃ (s : Nat) (o : Oper), ops[s]? = some o ∧ isLs H f o = true ∧ ¬ done s := ⟨i, o, ho, hls, hfit.new⟩
    have hfacts := hI hpend
    have hpath : ∀ rt p, lkPath P H f ops st.E ops.size i d = some (rt, p, true) → ∃ v0 b k, RootVal w X a.tmps rt v0 ∧ a.tmps.getD d undef = .pointer (some ⟨b, k, none⟩) ∧ PtrR w v0 p b k := fun rt p hlk => by
      obtain ⟨v0, h1, h2⟩ := lk_ok h (s := i) (fun c oc hoc hl hci => hfacts c oc hoc hl (hfit.ls o ho hls c oc hoc hl hci)) ops.size i d rt p true (Nat.le_refl _) hlk
      simp only [if_true] at h2
      obtain ⟨b, k, h3, h4⟩ := h2
      exact ⟨v0, b, k, h1, h3, h4⟩
    obtain ⟨hdst, hgd, w', b, hrun, hW, hsz, O', hR', hF', hM'⟩ := ls_ok h hF (fun h0 => hFO.2 h0) hM hop hpath hx
    unfold wpOpIn
    rw [ho]
    have hwant : Region.wanted o (yielded ops a.tmps) = true := by unfold Region.wanted; rw [hgd]
    simp only [hwant, if_true]
    refine ⟨fun g _ => fn_wide hFF g, ?_⟩
    rw [Oper.semAt_eq _ _ _ (by intro c hc; rw [hop] at hc; cases hc)]
    have hrun' : (execOp a.eval o).run P w = .ok .skip w' := by simp only [execOp, hop, Sem.run_bind, hrun, Result.andThen_ok, Sem.run_pure]
    rw [hrun', Oper.uponIn_skip]
    refine hK _ _ ?_
    have hput : a.put o.dst undef = a := by rw [hdst]; rfl
    rw [hput]
    refine ⟨X, O', hR', hF', hM', fun hp c oc hoc hlk hc => ?_⟩
    have hci : done c := by
      rcases hc with hc | rfl
      · exact hc
      · rw [ho] at hoc; cases hoc
        unfold isLk at hlk; rw [hdst] at hlk; cases hlk
    refine (hfacts c oc hoc hlk hci).keep (fun _ _ => rfl) (fun _ _ => rfl) (fun hn => ?_) (fun hb t' ht' r o' hE => ?_)
    · obtain ⟨s, o2, ho2, hls2, hd2⟩ := hp
      exact absurd (.inr (hfit.lone c oc hoc hlk hn s i o2 o ho2 ho hls2 hls)) hd2
    · have hE0 := ls_E hx hE
      refine ⟨hE0, fun b' hb' => ?_⟩
      obtain ⟨u, hu, hr⟩ := h.env t' _ hE0
      simp only [Rep] at hr
      obtain ⟨_, b2, hb2, rfl⟩ := hr
      rw [getD_at hu] at hb'
      cases hb'
      have hlive := h.ptrE r (mem_ptrsL.2 ⟨_, List.mem_of_getElem? hE0, by simp [V.ptrs]⟩)
      obtain ⟨cs, hcs⟩ := Option.isSome_iff_exists.1 hlive
      obtain ⟨b3, hb3, _, hω, _⟩ := h.box r cs hcs
      rw [hb2] at hb3; cases hb3
      obtain ⟨e, he⟩ := hW.ω
      exact cell_of_heap (hW.kept _ (fun e' => by rw [e', he] at hω; cases hω))
  · -- an append to what is taken out
    have hfacts := hI (hfit.ap o ho hap)
    obtain ⟨O1, h1, hF1, hptr⟩ := apTake_ok (P := P) (H := H) (f := f) h hF (fun d rt p hd hlk => by
      obtain ⟨v0, h1, h2⟩ := lk_okS (S := lkTmps H f ops ops.size i d) h (s := i) (fun c oc hoc hl hci hS => hfacts c oc hoc hl (hfit.apl o d ho hap hd c oc hoc hl hci hS)) ops.size i d rt p false (Nat.le_refl _) (fun _ h => h) hlk
      exact ⟨v0, h1, by simpa using h2⟩) hx1
    refine other_okL hC hFO (st := st1) ⟨X, O1, h1, hF1, hM, fun hp c oc hoc hlk hc => ?_⟩ ho hls (by unfold lkGate; rw [hnk]; rfl) hx hfit hK
    exact (hI hp c oc hoc hlk hc).keep (fun _ _ => rfl) (fun _ _ => rfl) (fun _ => ⟨fun b e fz hb => ⟨e, fz, hb, Nat.le_refl _⟩, fun b e fz k v _ _ hcell => hcell⟩) (fun _ t' _ r o' hE => ⟨hptr t' r o' hE, fun _ _ => rfl⟩)
  · exact other_okL hC hFO hS0 ho hls hgate hx hfit hK
end Go.Ab
end
section
/-
  A REGION with stores into owners' elements, in whatever order.
-/
set_option linter.unusedVariables false
namespace Go.Ab
open Go
variable {P : Program} {H : Hints} {f : FuncId} {C : Orc} {w : World}

theorem looks_same {ops : Array Oper} {j : Nat} {x y : Oper} {st s1 : St} {fx : Foot} (hx : ops[j]? = some x) (h1 : oneR P H C f ops j st = some (s1, fx)) (hd : ∀ d, x.dst = some d → d ∉ looksAt ops y) (hm : ∀ t ∈ fx.took, t ∉ looksAt ops y) :
    (∀ t ∈ looksAt ops y, s1.E[t]? = st.E[t]?) ∧ s1.E.length = st.E.length := by
  obtain ⟨x', hx', b, z, m, A⟩ := oneR_iff.1 h1
  rw [hx] at hx'; cases hx'
  have hE1 : s1.E = putE x.dst z (dullAt st.E (takenOf H f x b)) := by rw [A.res]
  rw [hE1]
  exact ⟨looks_kept (z := z) hd A.took hm, by rw [putE_len, dullAt_len]⟩
theorem gate_congr {ops : Array Oper} {y : Oper} {E E' : List V} (h : ∀ t ∈ looksAt ops y, E'[t]? = E[t]?) (hl : E'.length = E.length) : lkGate H f y E' = lkGate H f y E := by
  unfold lkGate
  rw [hl]
  congr 2
  split
  · rename_i t a hop
    have : E'.getD a .undef = E.getD a .undef := getD_congr (h a (List.mem_append_left _ (tmpsOf_mem (x := .tmp a) (by rw [hop]; exact List.mem_singleton.2 rfl) rfl)))
    rw [this]
  · rfl

def isTo (H : Hints) (f : FuncId) (o : Oper) : Bool := isLs H f o || isAp H f o
theorem oneL_of {ops : Array Oper} {i : Nat} {o : Oper} {st st' : St} {ft : Foot} (ho : ops[i]? = some o) (hls : isTo H f o = false) (hg : lkGate H f o st.E = true) (h : oneR P H C f ops i st = some (st', ft)) : oneL P H C f ops i st = some (st', ft) := by
  simp only [isTo, Bool.or_eq_false_iff] at hls
  unfold oneL
  rw [ho]
  simp only [hls.1, hls.2, Bool.false_eq_true, if_false, hg, if_true]
  exact h
theorem oneL_iff {ops : Array Oper} {i : Nat} {o : Oper} {st st' : St} {ft : Foot} (ho : ops[i]? = some o) (hls : isTo H f o = false) (h : oneL P H C f ops i st = some (st', ft)) : lkGate H f o st.E = true ∧ oneR P H C f ops i st = some (st', ft) := by
  simp only [isTo, Bool.or_eq_false_iff] at hls
  obtain ⟨o', ho', ⟨h1, _⟩ | ⟨_, h1, _⟩ | ⟨_, _, h1, h2⟩⟩ := oneL_cases h
  · rw [ho] at ho'; cases ho'; rw [hls.1] at h1; cases h1
  · rw [ho] at ho'; cases ho'; rw [hls.2] at h1; cases h1
  · rw [ho] at ho'; cases ho'; exact ⟨h1, h2⟩

theorem swap_oneL {ops : Array Oper} {i j : Nat} {x y : Oper} {st s1 s2 : St} {fx fy : Foot} (hx : ops[j]? = some x) (hy : ops[i]? = some y) (hlx : isTo H f x = false) (hly : isTo H f y = false) (hap : dstApart ops x y = true) (h1 : oneL P H C f ops j st = some (s1, fx)) (h2 : oneL P H C f ops i s1 = some (s2, fy))
    (hcl : fx.clash fy = false) : ∃ s1', oneL P H C f ops i st = some (s1', fy) ∧ oneL P H C f ops j s1' = some (s2, fx) := by
  obtain ⟨g1, r1⟩ := oneL_iff hx hlx h1
  obtain ⟨g2, r2⟩ := oneL_iff hy hly h2
  obtain ⟨s1', r3, r4⟩ := swap_one hx hy hap r1 r2 hcl
  obtain ⟨d1, d2, d3⟩ := dstApart_spec hap
  obtain ⟨x', hx', b, z, m, A⟩ := oneR_iff.1 r1
  rw [hx] at hx'; cases hx'
  obtain ⟨y', hy', b', z', m', B⟩ := oneR_iff.1 r2
  rw [hy] at hy'; cases hy'
  simp only [Foot.clash, Bool.or_eq_false_iff] at hcl
  obtain ⟨⟨hc, hm1⟩, hm2⟩ := hcl
  have hm1' := meets_false hm1
  have hm2' := meets_false hm2
  rw [B.looks] at hm1'
  rw [A.looks] at hm2'
  obtain ⟨k1, l1⟩ := looks_same (y := y) hx r1 d1 hm1'
  obtain ⟨k2, l2⟩ := looks_same (y := x) hy r3 d3 hm2'
  exact ⟨s1', oneL_of hy hly (by rw [← gate_congr (H := H) (f := f) k1 l1]; exact g2) r3, oneL_of hx hlx (by rw [gate_congr (H := H) (f := f) k2 l2]; exact g1) r4⟩

/-! ### a move and an append that takes out -/
theorem takF_dull {j o s : Nat} {x u y : V} (hx : takF j o s x = some (u, y)) : y.dull = x.dull := by
  unfold takF at hx
  split at hx
  · rename_i c l
    split at hx
    · rename_i c' l' he
      split at hx
      · simp only [Option.some.injEq, Prod.mk.injEq] at hx
        obtain ⟨rfl, rfl⟩ := hx
        show V.sl .dull c (reflagL flDull (l.set j (V.dull (.sl .own c' l')))) = V.sl .dull c (reflagL flDull l)
        rw [reflagL_eq_map, reflagL_eq_map]
        congr 1
        apply List.ext_getElem?
        intro i
        rw [List.getElem?_map, List.getElem?_map]
        by_cases hi : i = j
        · subst hi
          have hlt : i < l.length := (List.getElem?_eq_some_iff.1 he).1
          rw [List.getElem?_set_self hlt, he]
          show some (V.dull (V.dull (.sl .own c' l'))) = some (V.dull (.sl .own c' l'))
          exact congrArg some (dull_dull _)
        · rw [List.getElem?_set_ne (fun e => hi e.symm)]
      · cases hx
    · cases hx
  · cases hx
theorem apTake_spec {ops : Array Oper} {s : Nat} {o : Oper} {st g : St} (h : apTake P H f ops s o st = some g) :
    ∃ d r j c k u y, apOf o = some d ∧ lkPath P H f ops st.E ops.size s d = some (.tmp r, [(j, c, k)], false) ∧ r ≠ d ∧ d < st.E.length ∧ takF j c k (st.E.getD r .undef) = some (u, y) ∧ g = { st with E := (st.E.set r y).set d u } := by
  unfold apTake at h
  split at h
  · rename_i hop
    split at h
    · rename_i d hd
      split at h
      · rename_i r j c k hlk
        split at h
        · cases h
        · rename_i hne
          simp only [not_or, Nat.not_le] at hne
          split at h
          · rename_i u y htk
            simp only [Option.some.injEq] at h
            exact ⟨d, r, j, c, k, u, y, by unfold apOf; rw [hop]; simp only [hd], hlk, hne.1, hne.2, htk, h.symm⟩
          · cases h
      · cases h
    · cases h
  · cases h
theorem apTake_of {ops : Array Oper} {s : Nat} {o : Oper} {st : St} {d r : Tmp} {j c k : Nat} {u y : V} (hop : ∃ cl, o.op = .call cl) (hd : apOf o = some d) (hlk : lkPath P H f ops st.E ops.size s d = some (.tmp r, [(j, c, k)], false)) (hne : r ≠ d) (hl : d < st.E.length) (htk : takF j c k (st.E.getD r .undef) = some (u, y)) :
    apTake P H f ops s o st = some { st with E := (st.E.set r y).set d u } := by
  obtain ⟨cl, hop⟩ := hop
  unfold apOf at hd
  unfold apTake
  rw [hop] at hd ⊢
  simp only at hd ⊢
  cases ha : (cl.args[0]? : Option Operand) with
  | none => rw [ha] at hd; cases hd
  | some x =>
    rw [ha] at hd
    cases x with
    | tmp t =>
      simp only [Option.some.injEq] at hd
      subst hd
      simp only [hlk, htk]
      rw [if_neg (by simp only [not_or, Nat.not_le]; exact ⟨hne, hl⟩)]
    | _ => cases hd
theorem isAp_call {o : Oper} (h : isAp H f o = true) : ∃ cl, o.op = .call cl := by
  unfold isAp at h
  split at h
  · rename_i hop; exact ⟨_, hop⟩
  · cases h
/-- the move's text -/
theorem freeMv_spec {ops : Array Oper} {c : Nat} {oc oi : Oper} (h : freeMv H f ops c oc oi = true) : ∃ a x d, oi.op = .move (.tmp a) ∧ oi.dst = some x ∧ apOf oc = some d ∧ oi.guard = none ∧ takes H f oi = false ∧ isTo H f oi = false ∧ a ≠ d ∧ x ∉ lkTmps H f ops ops.size c d := by
  unfold freeMv at h
  split at h
  · rename_i a x d h1 h2 h3
    simp only [Bool.and_eq_true, Bool.not_eq_true', decide_eq_true_eq] at h
    obtain ⟨⟨⟨⟨⟨h4, h5⟩, h6⟩, h7⟩, h8⟩, h9⟩ := h
    exact ⟨a, x, d, h1, h2, h3, by simpa using h4, h5, by simp [isTo, h6, h7], h8, by simpa using h9⟩
  · cases h
/-- what the move does -/
theorem move_run {ops : Array Oper} {j : Nat} {x : Oper} {a : Tmp} (hx : ops[j]? = some x) (hop : x.op = .move (.tmp a)) (hg : x.guard = none) (ht : takes H f x = false) (st : St) :
    oneR P H C f ops j st = some (st.put x.dst (st.E.getD a .undef).dull, ⟨.none, [], looksAt ops x⟩) := by
  unfold oneR
  rw [hx]
  have hw : wantedA ops st.E x = some true := by unfold wantedA; rw [hg]
  simp only [hw]
  have hs : stepFp P H C f x st = some (st.put x.dst (st.E.getD a .undef).dull, .none) := by
    unfold stepFp
    simp only [ht, Bool.false_and, Bool.false_eq_true, if_false]
    have hops : x.op.operands.toList = [.tmp a] := by rw [hop]; rfl
    rw [hops]
    simp only [List.map_cons, List.map_nil, rd, ht, Bool.false_eq_true, if_false]
    unfold stepM
    rw [hop]
    rfl
  rw [hs]
  simp [tookAt, ht]
/-- a move changes nothing of what is taken out, and the other way -/
theorem ap_move {ops : Array Oper} {c : Nat} {oc : Oper} {st : St} {x d : Tmp} (z : V) (hap : isAp H f oc = true) (hd : apOf oc = some d) (hx : x ∉ lkTmps H f ops ops.size c d) :
    apTake P H f ops c oc (st.put (some x) z) = (apTake P H f ops c oc st).map fun g => g.put (some x) z := by
  have hne : ∀ t ∈ lkTmps H f ops ops.size c d, (st.put (some x) z).E[t]? = st.E[t]? := fun t ht => by
    show (st.E.set x z)[t]? = _
    rw [List.getElem?_set_ne (fun e => hx (by rw [e]; exact ht))]
  have hpath := lkPath_congr (P := P) ops.size c d hne
  have hlen : (st.put (some x) z).E.length = st.E.length := List.length_set ..
  have key : ∀ {st1 : St} {r : Tmp} {p : Path} {b : Bool}, lkPath P H f ops st1.E ops.size c d = some (.tmp r, p, b) → x ≠ r := fun h e => hx (by rw [e]; exact lkPath_root _ _ _ _ _ _ h)
  cases hA : apTake P H f ops c oc st with
  | some g =>
    obtain ⟨d', r, j, k1, k2, u, y, h1, h2, h3, h4, h5, rfl⟩ := apTake_spec hA
    rw [hd] at h1; cases h1
    have hxr := key h2
    have hxd : x ≠ d := fun e => hx (by
      rw [e]
      cases hn : ops.size with
      | zero => rw [hn] at h2; simp [lkPath] at h2
      | succ n => simp [lkTmps])
    have hr : (st.put (some x) z).E.getD r .undef = st.E.getD r .undef := getD_congr (by show (st.E.set x z)[r]? = _; rw [List.getElem?_set_ne hxr])
    rw [apTake_of (st := st.put (some x) z) (isAp_call hap) hd (by rw [hpath]; exact h2) h3 (by rw [hlen]; exact h4) (by rw [hr]; exact h5)]
    simp only [Option.map_some, St.put]
    congr 2
    rw [List.set_comm _ _ hxr, List.set_comm _ _ hxd]
  | none =>
    cases hB : apTake P H f ops c oc (st.put (some x) z) with
    | none => rfl
    | some g =>
      exfalso
      obtain ⟨d', r, j, k1, k2, u, y, h1, h2, h3, h4, h5, rfl⟩ := apTake_spec hB
      rw [hd] at h1; cases h1
      have hxr := key h2
      have hr : (st.put (some x) z).E.getD r .undef = st.E.getD r .undef := getD_congr (by show (st.E.set x z)[r]? = _; rw [List.getElem?_set_ne hxr])
      have := apTake_of (st := st) (isAp_call hap) hd (by rw [← hpath]; exact h2) h3 (by rw [← hlen]; exact h4) (by rw [← hr]; exact h5)
      rw [hA] at this; cases this
/-- what the move reads -/
theorem ap_reads {ops : Array Oper} {c : Nat} {oc : Oper} {st g : St} {a d : Tmp} (hA : apTake P H f ops c oc st = some g) (hd : apOf oc = some d) (had : a ≠ d) : (g.E.getD a .undef).dull = (st.E.getD a .undef).dull := by
  obtain ⟨d', r, j, k1, k2, u, y, h1, h2, h3, h4, h5, rfl⟩ := apTake_spec hA
  rw [hd] at h1; cases h1
  simp only
  have e1 : ((st.E.set r y).set d u).getD a .undef = (st.E.set r y).getD a .undef := getD_congr (by rw [List.getElem?_set_ne (fun e => had e.symm)])
  rw [e1]
  by_cases har : a = r
  · subst har
    by_cases hl : @LT.lt Nat _ a st.E.length
    · have e2 : (st.E.set a y).getD a .undef = y := by simp [hl]
      rw [e2, takF_dull h5]
    · have e2 : (st.E.set a y).getD a .undef = st.E.getD a .undef := by rw [List.set_eq_of_length_le (by omega)]
      rw [e2]
  · have e2 : (st.E.set r y).getD a .undef = st.E.getD a .undef := getD_congr (by rw [List.getElem?_set_ne (fun e => har e.symm)])
    rw [e2]
theorem oneL_ap {ops : Array Oper} {i : Nat} {o : Oper} {st st' : St} {ft : Foot} (ho : ops[i]? = some o) (hap : isAp H f o = true) : oneL P H C f ops i st = some (st', ft) ↔ (isLs H f o = false ∧ isLk H f o = false ∧ ∃ g, apTake P H f ops i o st = some g ∧ oneR P H C f ops i g = some (st', ft)) := by
  have hls : isLs H f o = false := by
    obtain ⟨cl, hop⟩ := isAp_call hap
    unfold isLs; rw [hop]
  constructor
  · intro h
    obtain ⟨o', ho', ⟨h1, _⟩ | ⟨_, _, h2, h3⟩ | ⟨_, h1, _⟩⟩ := oneL_cases h
    · rw [ho] at ho'; cases ho'; rw [hls] at h1; cases h1
    · rw [ho] at ho'; cases ho'; exact ⟨hls, h2, h3⟩
    · rw [ho] at ho'; cases ho'; rw [hap] at h1; cases h1
  · rintro ⟨_, h2, g, h3, h4⟩
    unfold oneL
    rw [ho]
    simp only [hls, hap, h2, h3, Bool.false_eq_true, if_false, if_true, Option.bind_some]
    exact h4
theorem gate_move {x : Oper} {a : Tmp} (hop : x.op = .move (.tmp a)) {E E' : List V} (hl : E'.length = E.length) : lkGate H f x E' = lkGate H f x E := by
  unfold lkGate
  rw [hop, hl]
/-- a move, then an append: the other way -/
theorem swap_mv_ap {ops : Array Oper} {i j : Nat} {x y : Oper} {st s1 s2 : St} {fx fy : Foot} (hx : ops[j]? = some x) (hy : ops[i]? = some y) (hap : isAp H f y = true) (hfr : freeMv H f ops i y x = true) (hda : dstApart ops x y = true) (h1 : oneL P H C f ops j st = some (s1, fx)) (h2 : oneL P H C f ops i s1 = some (s2, fy))
    (hcl : fx.clash fy = false) : ∃ s1', oneL P H C f ops i st = some (s1', fy) ∧ oneL P H C f ops j s1' = some (s2, fx) := by
  obtain ⟨a, xd, d, hop, hdst, hd, hg, htk, hto, had, hxl⟩ := freeMv_spec hfr
  obtain ⟨g1, r1⟩ := oneL_iff hx hto h1
  obtain ⟨hls, hlk, g, hA, r2⟩ := (oneL_ap hy hap).1 h2
  rw [move_run hx hop hg htk] at r1
  obtain ⟨rfl, rfl⟩ := Prod.mk.inj (Option.some.inj r1)
  rw [hdst, ap_move _ hap hd hxl] at hA
  obtain ⟨g0, hA0, rfl⟩ := Option.map_eq_some_iff.1 hA
  have r3 : oneR P H C f ops j g0 = some (g0.put (some xd) (st.E.getD a .undef).dull, ⟨.none, [], looksAt ops x⟩) := by
    rw [move_run hx hop hg htk, hdst, ap_reads hA0 hd had]
  obtain ⟨s1', r4, r5⟩ := swap_one hx hy hda r3 r2 hcl
  refine ⟨s1', (oneL_ap hy hap).2 ⟨hls, hlk, g0, hA0, r4⟩, oneL_of hx hto ?_ r5⟩
  rw [gate_move hop (E := st.E)]
  · exact g1
  · obtain ⟨y', hy', b, z, m, A⟩ := oneR_iff.1 r4
    obtain ⟨_, r, _, _, _, u, yy, _, _, _, _, _, rfl⟩ := apTake_spec hA0
    rw [A.res]
    simp [putE_len, dullAt_len]
/-- an append, then a move: the other way -/
theorem swap_ap_mv {ops : Array Oper} {i j : Nat} {x y : Oper} {st s1 s2 : St} {fx fy : Foot} (hx : ops[j]? = some x) (hy : ops[i]? = some y) (hap : isAp H f x = true) (hfr : freeMv H f ops j x y = true) (hda : dstApart ops x y = true) (h1 : oneL P H C f ops j st = some (s1, fx)) (h2 : oneL P H C f ops i s1 = some (s2, fy))
    (hcl : fx.clash fy = false) : ∃ s1', oneL P H C f ops i st = some (s1', fy) ∧ oneL P H C f ops j s1' = some (s2, fx) := by
  obtain ⟨a, xd, d, hop, hdst, hd, hg, htk, hto, had, hxl⟩ := freeMv_spec hfr
  obtain ⟨hls, hlk, g, hA, r1⟩ := (oneL_ap hx hap).1 h1
  obtain ⟨g2, r2⟩ := oneL_iff hy hto h2
  obtain ⟨s1', r3, r4⟩ := swap_one hx hy hda r1 r2 hcl
  have hfy := r3
  rw [move_run hy hop hg htk] at r3
  obtain ⟨rfl, rfl⟩ := Prod.mk.inj (Option.some.inj r3)
  rw [hdst, ap_reads hA hd had] at r4
  have hA2 : apTake P H f ops j x (st.put (some xd) (st.E.getD a .undef).dull) = some (g.put (some xd) (st.E.getD a .undef).dull) := by
    rw [ap_move _ hap hd hxl, hA]; rfl
  refine ⟨st.put (some xd) (st.E.getD a .undef).dull, oneL_of hy hto ?_ (by rw [move_run hy hop hg htk, hdst]), (oneL_ap hx hap).2 ⟨hls, hlk, _, hA2, r4⟩⟩
  rw [gate_move hop (E := s1.E)]
  · exact g2
  · obtain ⟨y', hy', b, z, m, A⟩ := oneR_iff.1 r1
    obtain ⟨_, r, _, _, _, u, yy, _, _, _, _, _, rfl⟩ := apTake_spec hA
    rw [A.res]
    simp [putE_len, dullAt_len]
/-- two that may change places -/
def Two (H : Hints) (f : FuncId) (ops : Array Oper) (j i : Nat) (x y : Oper) : Prop :=
  (isTo H f x = false ∧ isTo H f y = false) ∨ (isAp H f y = true ∧ freeMv H f ops i y x = true) ∨ (isAp H f x = true ∧ freeMv H f ops j x y = true)
theorem swap_two {ops : Array Oper} {i j : Nat} {x y : Oper} {st s1 s2 : St} {fx fy : Foot} (hx : ops[j]? = some x) (hy : ops[i]? = some y) (htwo : Two H f ops j i x y) (hda : dstApart ops x y = true) (h1 : oneL P H C f ops j st = some (s1, fx)) (h2 : oneL P H C f ops i s1 = some (s2, fy))
    (hcl : fx.clash fy = false) : ∃ s1', oneL P H C f ops i st = some (s1', fy) ∧ oneL P H C f ops j s1' = some (s2, fx) := by
  rcases htwo with ⟨h3, h4⟩ | ⟨h3, h4⟩ | ⟨h3, h4⟩
  · exact swap_oneL hx hy h3 h4 hda h1 h2 hcl
  · exact swap_mv_ap hx hy h3 h4 hda h1 h2 hcl
  · exact swap_ap_mv hx hy h3 h4 hda h1 h2 hcl

theorem oneL_R {ops : Array Oper} {i : Nat} {o : Oper} {st st' : St} {ft : Foot} (ho : ops[i]? = some o) (hls : isLs H f o = false) (h : oneL P H C f ops i st = some (st', ft)) : ∃ st1 st2, oneR P H C f ops i st1 = some (st2, ft) := by
  obtain ⟨o', ho', ⟨h1, _⟩ | ⟨_, _, _, g, _, h1⟩ | ⟨_, _, _, h1⟩⟩ := oneL_cases h
  · rw [ho] at ho'; cases ho'; rw [hls] at h1; cases h1
  · exact ⟨_, _, h1⟩
  · exact ⟨_, _, h1⟩
theorem execL_cons {ops : Array Oper} {i : Nat} {l : List Nat} {st s : St} {fps : List (Nat × Foot)} : execL P H C f ops (i :: l) st = some (s, fps) ↔ ∃ s1 ft fps', oneL P H C f ops i st = some (s1, ft) ∧ execL P H C f ops l s1 = some (s, fps') ∧ fps = (i, ft) :: fps' := by
  simp only [execL]
  cases h : oneL P H C f ops i st with
  | none => simp
  | some p =>
    obtain ⟨s1, ft⟩ := p
    simp only [Option.map_eq_some_iff, Prod.exists, Option.some.injEq, Prod.mk.injEq]
    constructor
    · rintro ⟨a, b, h1, rfl, rfl⟩; exact ⟨s1, ft, b, ⟨rfl, rfl⟩, h1, rfl⟩
    · rintro ⟨a, b, c, ⟨rfl, rfl⟩, h1, rfl⟩; exact ⟨s, c, h1, rfl, rfl⟩

theorem move_frontL {ops : Array Oper} {i : Nat} {y : Oper} (hy : ops[i]? = some y) {B : List Nat} : ∀ (A : List Nat) (st s : St) (fps : List (Nat × Foot)), execL P H C f ops (A ++ i :: B) st = some (s, fps) →
    (∀ j ∈ A, ∃ x, ops[j]? = some x ∧ Two H f ops j i x y ∧ dstApart ops x y = true ∧ ∀ fx fy, (j, fx) ∈ fps → (i, fy) ∈ fps → fx.clash fy = false) →
    ∃ fps', execL P H C f ops (i :: (A ++ B)) st = some (s, fps') ∧ ∀ p, p ∈ fps' ↔ p ∈ fps
  | [], st, s, fps, h, _ => ⟨fps, h, fun _ => Iff.rfl⟩
  | j :: A, st, s, fps, h, hA => by
    rw [List.cons_append, execL_cons] at h
    obtain ⟨s1, fj, fps1, h1, h2, rfl⟩ := h
    obtain ⟨fps2, h3, h4⟩ := move_frontL hy A s1 s fps1 h2 (fun k hk => by
      obtain ⟨x, hx, hlx, hd, hc⟩ := hA k (by simp [hk])
      exact ⟨x, hx, hlx, hd, fun fx fy h1 h2 => hc fx fy (by simp [h1]) (by simp [h2])⟩)
    rw [execL_cons] at h3
    obtain ⟨s2, fi, fps3, h5, h6, rfl⟩ := h3
    obtain ⟨x, hx, hlx, hd, hc⟩ := hA j (by simp)
    obtain ⟨s1', h7, h8⟩ := swap_two hx hy hlx hd h1 h5 (hc fj fi (by simp) (by
      have := (h4 (i, fi)).1 (by simp)
      simp [this]))
    refine ⟨(i, fi) :: (j, fj) :: fps3, ?_, fun p => ?_⟩
    · rw [execL_cons]
      exact ⟨s1', fi, (j, fj) :: fps3, h7, by rw [List.cons_append, execL_cons]; exact ⟨s2, fj, fps3, h8, h6, rfl⟩, rfl⟩
    · have := h4 p
      simp only [List.mem_cons] at this ⊢
      rw [← this]
      constructor
      · rintro (h | h | h) <;> simp [h]
      · rintro (h | h | h) <;> simp [h]

theorem execL_mem {ops : Array Oper} : ∀ (l : List Nat) (st s : St) (fps : List (Nat × Foot)), execL P H C f ops l st = some (s, fps) → ∀ k ft, (k, ft) ∈ fps → k ∈ l ∧ ∃ s1 s2, oneL P H C f ops k s1 = some (s2, ft)
  | [], st, s, fps, h, k, ft, hk => by simp only [execL, Option.some.injEq, Prod.mk.injEq] at h; rw [← h.2] at hk; simp at hk
  | i :: l, st, s, fps, h, k, ft, hk => by
    obtain ⟨s1, fi, fps', h1, h2, rfl⟩ := execL_cons.1 h
    rcases List.mem_cons.1 hk with hk | hk
    · cases hk; exact ⟨by simp, _, _, h1⟩
    · obtain ⟨h3, h4⟩ := execL_mem l s1 s fps' h2 k ft hk
      exact ⟨by simp [h3], h4⟩

theorem anc_lt {ops : List Oper} (hb : ∀ (k : Nat) (o : Oper), ops[k]? = some o → ∀ j ∈ boundE o, j < k) : ∀ (n i : Nat) (o : Oper), i ≤ n → ops[i]? = some o → ∀ j ∈ (ancs ops).getD i [], j < i := by
  intro n
  induction n with
  | zero =>
    intro i o hi ho j hj
    rw [ancs_get ops i o ho (hb i o ho)] at hj
    obtain ⟨e, he, _⟩ := List.mem_flatMap.1 (mem_dedupN hj)
    have := hb i o ho e he; omega
  | succ n ih =>
    intro i o hi ho j hj
    rw [ancs_get ops i o ho (hb i o ho)] at hj
    obtain ⟨e, he, hj⟩ := List.mem_flatMap.1 (mem_dedupN hj)
    have hei := hb i o ho e he
    rcases List.mem_cons.1 hj with rfl | hj
    · exact hei
    · have hlt : i < ops.length := (List.getElem?_eq_some_iff.1 ho).1
      have := ih e ops[e] (by omega) (List.getElem?_eq_getElem (by omega)) j hj
      omega

/-- what the text promises -/
structure LinkOk (H : Hints) (f : FuncId) (ops : Array Oper) (bef : Nat → Nat → Prop) : Prop where
  self : ∀ (c : Nat) (oc : Oper), ops[c]? = some oc → isLk H f oc = true → oc.guard = none ∧ ∀ d, oc.dst = some d → d ∉ tmpsOf oc
  after : ∀ (c i : Nat) (oc oi : Oper), ops[c]? = some oc → ops[i]? = some oi → isLk H f oc = true → i = c ∨ bef i c ∨ okAfter H f oc oi = true
  ls : ∀ (c i : Nat) (oc oi : Oper), ops[c]? = some oc → ops[i]? = some oi → isLs H f oc = true → i = c ∨ bef i c ∨ bef c i
  apt : ∀ (c i : Nat) (oc oi : Oper), ops[c]? = some oc → ops[i]? = some oi → isAp H f oc = true → i = c ∨ bef i c ∨ bef c i ∨ freeMv H f ops c oc oi = true
  ap : ∀ (c : Nat) (oc : Oper), ops[c]? = some oc → isAp H f oc = true → ∃ (s : Nat) (os : Oper), ops[s]? = some os ∧ isLs H f os = true ∧ bef c s
  lone : ∀ (c : Nat) (oc : Oper), ops[c]? = some oc → isLk H f oc = true → nestLoad H f oc = true → ∀ (s s' : Nat) (o o' : Oper), ops[s]? = some o → ops[s']? = some o' → isLs H f o = true → isLs H f o' = true → s = s'

theorem filter_two {α : Type} {p : α → Bool} {l : List α} (h : (l.filter p).length ≤ 1) : ∀ {i j : Nat} {a b : α}, l[i]? = some a → l[j]? = some b → p a = true → p b = true → i = j := by
  induction l with
  | nil => intro i j a b hi; simp at hi
  | cons x l ih =>
    intro i j a b hi hj ha hb
    have hmem : ∀ {k : Nat} {c : α}, l[k]? = some c → p c = true → 0 < (l.filter p).length := fun hk hc =>
      List.length_pos_of_mem (List.mem_filter.2 ⟨List.mem_of_getElem? hk, hc⟩)
    cases hx : p x with
    | true =>
      simp only [List.filter_cons, hx, if_true, List.length_cons] at h
      cases i with
      | zero => cases j with
        | zero => rfl
        | succ j => have := hmem (by simpa using hj) hb; omega
      | succ i => have := hmem (by simpa using hi) ha; omega
    | false =>
      simp only [List.filter_cons, hx, Bool.false_eq_true, if_false] at h
      cases i with
      | zero => simp at hi; subst hi; rw [hx] at ha; cases ha
      | succ i => cases j with
        | zero => simp at hj; subst hj; rw [hx] at hb; cases hb
        | succ j => exact congrArg Nat.succ (ih h (i := i) (j := j) (by simpa using hi) (by simpa using hj) ha hb)

theorem linkOk_spec {draw : Bool} {ops : Array Oper} (h : linkOk H f draw ops = true) : LinkOk H f ops (fun i c => befor draw (ancs ops.toList) i c = true) := by
  have key : ∀ (c : Nat) (oc : Oper), ops[c]? = some oc → linkOne H f draw (ancs ops.toList) ops (decide ((ops.toList.filter (isLs H f)).length ≤ 1)) c oc = true := fun c oc hoc => by
    have hlt : c < ops.size := (Array.getElem?_eq_some_iff.1 hoc).1
    unfold linkOk at h
    have := List.all_eq_true.1 h c (List.mem_range.2 hlt)
    rw [hoc] at this
    exact this
  have part : ∀ (c : Nat) (oc : Oper), ops[c]? = some oc → _ := fun c oc hoc => by
    have := key c oc hoc
    unfold linkOne at this
    simp only [Bool.and_eq_true, Bool.or_eq_true, Bool.not_eq_true'] at this
    exact this
  refine { self := fun c oc hoc hlk => ?_, after := fun c i oc oi hoc hoi hlk => ?_, ls := fun c i oc oi hoc hoi hls => ?_, apt := fun c i oc oi hoc hoi hap => ?_, ap := fun c oc hoc hap => ?_, lone := fun c oc hoc hlk hn s s' o o' hs hs' hl hl' => ?_ }
  · obtain ⟨⟨⟨⟨h1, _⟩, _⟩, _⟩, _⟩ := part c oc hoc
    rcases h1 with h1 | h1
    · rw [hlk] at h1; cases h1
    · refine ⟨by simpa using h1.1.1, fun d hd => ?_⟩
      have := h1.1.2
      rw [hd] at this
      simpa using this
  · obtain ⟨⟨⟨⟨h1, _⟩, _⟩, _⟩, _⟩ := part c oc hoc
    rcases h1 with h1 | h1
    · rw [hlk] at h1; cases h1
    · have := List.all_eq_true.1 h1.2 i (List.mem_range.2 (Array.getElem?_eq_some_iff.1 hoi).1)
      rw [hoi] at this
      simp only [Bool.or_eq_true, beq_iff_eq] at this
      rcases this with (h2 | h2) | h2
      · exact .inl h2
      · exact .inr (.inl h2)
      · exact .inr (.inr h2)
  · obtain ⟨⟨⟨⟨_, h1⟩, _⟩, _⟩, _⟩ := part c oc hoc
    rcases h1 with h1 | h1
    · rw [hls] at h1; cases h1
    · have := List.all_eq_true.1 h1.2 i (List.mem_range.2 (Array.getElem?_eq_some_iff.1 hoi).1)
      simp only [Bool.or_eq_true, beq_iff_eq] at this
      rcases this with (h2 | h2) | h2
      · exact .inl h2
      · exact .inr (.inl h2)
      · exact .inr (.inr h2)
  · obtain ⟨_, h1⟩ := part c oc hoc
    rcases h1 with h1 | h1
    · rw [hap] at h1; cases h1
    · have := List.all_eq_true.1 h1 i (List.mem_range.2 (Array.getElem?_eq_some_iff.1 hoi).1)
      rw [hoi] at this
      simp only [Bool.or_eq_true, beq_iff_eq] at this
      rcases this with ((h2 | h2) | h2) | h2
      · exact .inl h2
      · exact .inr (.inl h2)
      · exact .inr (.inr (.inl h2))
      · exact .inr (.inr (.inr h2))
  · obtain ⟨⟨_, h1⟩, _⟩ := part c oc hoc
    rcases h1 with h1 | h1
    · rw [hap] at h1; cases h1
    · obtain ⟨s, _, h2⟩ := List.any_eq_true.1 h1
      simp only [Bool.and_eq_true] at h2
      cases hs : ops[s]? with
      | none => rw [hs] at h2; cases h2.2
      | some os => rw [hs] at h2; exact ⟨s, os, hs, h2.2, h2.1⟩
  · obtain ⟨⟨⟨_, h1⟩, _⟩, _⟩ := part c oc hoc
    rcases h1 with h1 | h1
    · rw [hlk, hn] at h1; cases h1
    · simp only [decide_eq_true_eq] at h1
      exact filter_two h1 (by simpa using hs) (by simpa using hs') hl hl'

/-- in the text's order -/
theorem seq_okL (hC : OrcOk P C) {F : Fence} {w0 : World} {X0 : Cx} {Md : Md} {n : Nat} (hFO : FOk F X0 Md n) {ops : Array Oper} (hlk : linkOk H f false ops = true) {Q : Exit → Act → World → Prop} : ∀ (m i : Nat) (st st' : St) (fps : List (Nat × Foot)) (a : Act) (w : World), i + m = ops.size →
    SimI P H f ops (fun k => k < i) w0 X0 Md n st a w → execL P H C f ops (List.range' i m) st = some (st', fps) → (∀ a' w', SimD w0 X0 Md n st' a' w' → Q .normal a' w') → wpOpsIn F 0 P ops Q (List.range' i m) a w
  | 0, i, st, st', fps, a, w, _, hS, hx, hK => by
    simp only [List.range'_zero, execL, Option.some.injEq, Prod.mk.injEq] at hx
    obtain ⟨rfl, _⟩ := hx
    exact hK a w hS.simD
  | m + 1, i, st, st', fps, a, w, him, hS, hx, hK => by
    rw [List.range'_succ] at hx ⊢
    obtain ⟨s1, ft, fps', h1, h2, _⟩ := execL_cons.1 hx
    rw [wpOpsIn_cons]
    have L := linkOk_spec hlk
    refine one_okL hC hFO hS h1 ?_ fun a' w' hS' => seq_okL hC hFO hlk m (i + 1) s1 st' fps' a' w' (by omega) (hS'.mono fun k _ => by omega) h2 hK
    exact {
      new := by omega
      after := fun c oc o hoc ho hl hc => by
        rcases L.after c i oc o hoc ho hl with h3 | h3 | h3
        · omega
        · simp [befor] at h3; omega
        · exact h3
      self := fun o ho hl => L.self i o ho hl
      ls := fun o ho hl c oc hoc hlc hci => hci
      apl := fun o d ho hap hd c oc hoc hlc hci hx => hci
      ap := fun o ho hap => by
        obtain ⟨s, os, h3, h4, h5⟩ := L.ap i o ho hap
        refine ⟨s, os, h3, h4, ?_⟩
        simp [befor] at h5
        omega
      lone := L.lone }

theorem region_anyL (hC : OrcOk P C) {F : Fence} {w0 : World} {X0 : Cx} {Md : Md} {n : Nat} (hFO : FOk F X0 Md n) {ops : Array Oper} {U : List (Nat × Nat)} (hreg : regionOk H f U ops = true) (hlk : linkOk H f true ops = true) {Q : Exit → Act → World → Prop} :
    ∀ (fuel : Nat) (listed : Array Bool) (st st' : St) (fps : List (Nat × Foot)) (a : Act) (w : World), listed.size = ops.size → Down ops listed → ((List.range ops.size).filter fun k => !listed.getD k true).length ≤ fuel →
      execL P H C f ops ((List.range ops.size).filter fun k => !listed.getD k true) st = some (st', fps) → (∀ i j fi fj, (i, j) ∈ U → (i, fi) ∈ fps → (j, fj) ∈ fps → fi.clash fj = false) →
      SimI P H f ops (fun k => listed.getD k true = true) w0 X0 Md n st a w → (∀ a' w', SimD w0 X0 Md n st' a' w' → Q .normal a' w') → wpAnyIn F 0 P .any ops Q fuel listed a w := by
  have hrow : ∀ i y, ops[i]? = some y → (∀ j ∈ boundE y, j < i) ∧ ∀ j, j < i → j ∈ (ancs ops.toList).getD i [] ∨ ∃ x, ops[j]? = some x ∧ dstApart ops x y = true ∧ (textApart H f ops x y = true ∨ (j, i) ∈ U) := by
    intro i y hy
    have hilt : i < ops.size := (Array.getElem?_eq_some_iff.1 hy).1
    unfold regionOk at hreg
    have h1 := List.all_eq_true.1 hreg i (List.mem_range.2 hilt)
    rw [hy] at h1
    simp only [Bool.and_eq_true] at h1
    refine ⟨fun j hj => by simpa using List.all_eq_true.1 h1.1 j hj, fun j hj => ?_⟩
    have h2 := List.all_eq_true.1 h1.2 j (List.mem_range.2 hj)
    simp only [Bool.or_eq_true] at h2
    rcases h2 with h2 | h2
    · exact .inl (by simpa using h2)
    · right
      cases hx : ops[j]? with
      | none => rw [hx] at h2; cases h2
      | some x =>
        rw [hx] at h2
        simp only [Bool.and_eq_true, Bool.or_eq_true] at h2
        exact ⟨x, rfl, h2.1, h2.2.imp id (by simp)⟩
  have hanclt : ∀ (c : Nat) (oc : Oper), ops[c]? = some oc → ∀ j ∈ (ancs ops.toList).getD c [], j < c := fun c oc hoc =>
    anc_lt (fun k o ho => (hrow k o (by simpa using ho)).1) c c oc (Nat.le_refl _) (by simpa using hoc)
  have L := linkOk_spec hlk
  have hbef : ∀ i c, befor true (ancs ops.toList) i c = true ↔ i ∈ (ancs ops.toList).getD c [] := fun i c => by simp [befor]
  have hempty : ∀ (listed : Array Bool), listed.size = ops.size → Down ops listed → Region.ready .any ops listed = [] → ((List.range ops.size).filter fun k => !listed.getD k true) = [] := by
    intro listed hsz hd hr
    cases hR : (List.range ops.size).filter fun k => !listed.getD k true with
    | nil => rfl
    | cons k R =>
      exfalso
      have hsorted : ((List.range ops.size).filter fun k => !listed.getD k true).Pairwise (· < ·) := List.Pairwise.filter _ List.pairwise_lt_range
      have hk : k ∈ (List.range ops.size).filter fun k => !listed.getD k true := by rw [hR]; simp
      rw [hR] at hsorted
      obtain ⟨hklt, hkun⟩ := List.mem_filter.1 hk
      have hklt := List.mem_range.1 hklt
      obtain ⟨o, ho⟩ : ∃ o, ops[k]? = some o := ⟨ops[k], Array.getElem?_eq_getElem hklt⟩
      have : k ∈ Region.ready .any ops listed := by
        rw [mem_ready]
        refine ⟨by simpa using hkun, o, ho, fun e he hb => ?_⟩
        have hek := (hrow k o ho).1 e.on (boundE_mem.2 ⟨e, he, hb, rfl⟩)
        cases hc : listed.getD e.on true with
        | true =>
          have : e.on < listed.size := by omega
          simp [Array.getD, this] at hc ⊢
          exact hc
        | false =>
          have hmem : e.on ∈ (List.range ops.size).filter fun k => !listed.getD k true := List.mem_filter.2 ⟨List.mem_range.2 (by omega), by simp [hc]⟩
          rw [hR] at hmem
          rcases List.mem_cons.1 hmem with h1 | h1
          · omega
          · have := (List.pairwise_cons.1 hsorted).1 _ h1; omega
      rw [hr] at this
      simp at this
  intro fuel
  induction fuel with
  | zero =>
    intro listed st st' fps a w hsz hd hlen hx hconf hS hQ
    have hnil : ((List.range ops.size).filter fun k => !listed.getD k true) = [] := List.eq_nil_of_length_eq_zero (by omega)
    rw [hnil] at hx
    simp only [execL, Option.some.injEq, Prod.mk.injEq] at hx
    obtain ⟨rfl, _⟩ := hx
    refine ⟨?_, hQ a w hS.simD⟩
    cases hr : Region.ready .any ops listed with
    | nil => rfl
    | cons i R =>
      have hi : i ∈ Region.ready .any ops listed := by rw [hr]; simp
      obtain ⟨h1, o, ho, _⟩ := mem_ready.1 hi
      have : i ∈ (List.range ops.size).filter fun k => !listed.getD k true := List.mem_filter.2 ⟨List.mem_range.2 (Array.getElem?_eq_some_iff.1 ho).1, by simp [h1]⟩
      rw [hnil] at this; simp at this
  | succ fuel ih =>
    intro listed st st' fps a w hsz hd hlen hx hconf hS hQ
    refine ⟨fun hr => ?_, fun i hi => ?_⟩
    · have hnil := hempty listed hsz hd hr
      rw [hnil] at hx
      simp only [execL, Option.some.injEq, Prod.mk.injEq] at hx
      obtain ⟨rfl, _⟩ := hx
      exact hQ a w hS.simD
    · obtain ⟨hun, y, hy, hall⟩ := mem_ready.1 hi
      have hilt : i < ops.size := (Array.getElem?_eq_some_iff.1 hy).1
      have hiR : i ∈ (List.range ops.size).filter fun k => !listed.getD k true := List.mem_filter.2 ⟨List.mem_range.2 hilt, by simp [hun]⟩
      have hsorted : ((List.range ops.size).filter fun k => !listed.getD k true).Pairwise (· < ·) := List.Pairwise.filter _ List.pairwise_lt_range
      obtain ⟨A, B, hAB⟩ := List.append_of_mem hiR
      rw [hAB] at hx hsorted
      obtain ⟨_, hs2, hs3⟩ := List.pairwise_append.1 hsorted
      have hAi : ∀ j ∈ A, j < i := fun j hj => hs3 j hj i (by simp)
      have hiB : ∀ j ∈ B, i < j := fun j hj => (List.pairwise_cons.1 hs2).1 j hj
      have hlistedE : ∀ j ∈ boundE y, listed.getD j true = true := fun j hj => by
        obtain ⟨e, he, hb, rfl⟩ := boundE_mem.1 hj
        have h1 := hall e he hb
        have hlt := (hrow i y hy).1 e.on hj
        have : e.on < listed.size := by omega
        simp [Array.getD, this] at h1 ⊢
        exact h1
      have hanc := anc_listed hsz (fun k o ho => (hrow k o ho).1) hd i i y (Nat.le_refl _) hy hlistedE
      obtain ⟨fps', h1, h2⟩ := move_frontL hy A st st' fps hx (fun j hj => by
        have hjR : j ∈ (List.range ops.size).filter fun k => !listed.getD k true := by rw [hAB]; simp [hj]
        have hjun : listed.getD j true = false := by simpa using (List.mem_filter.1 hjR).2
        rcases (hrow i y hy).2 j (hAi j hj) with h3 | ⟨x, hx1, hx2, hx3⟩
        · have := hanc j h3; rw [hjun] at this; cases this
        · have hnanc : j ∉ (ancs ops.toList).getD i [] := fun h3 => by have := hanc j h3; rw [hjun] at this; cases this
          have hnanc2 : i ∉ (ancs ops.toList).getD j [] := fun h3 => by have := hanclt j x hx1 i h3; have := hAi j hj; omega
          have hly : isLs H f y = false := by
            cases hl : isLs H f y with
            | false => rfl
            | true =>
              rcases L.ls i j y x hy hx1 hl with h3 | h3 | h3
              · have := hAi j hj; omega
              · exact absurd ((hbef j i).1 h3) hnanc
              · exact absurd ((hbef i j).1 h3) hnanc2
          have hlx : isLs H f x = false := by
            cases hl : isLs H f x with
            | false => rfl
            | true =>
              rcases L.ls j i x y hx1 hy hl with h3 | h3 | h3
              · have := hAi j hj; omega
              · exact absurd ((hbef i j).1 h3) hnanc2
              · exact absurd ((hbef j i).1 h3) hnanc
          have htwo : Two H f ops j i x y := by
            cases hay : isAp H f y with
            | true =>
              rcases L.apt i j y x hy hx1 hay with h3 | h3 | h3 | h3
              · have := hAi j hj; omega
              · exact absurd ((hbef j i).1 h3) hnanc
              · exact absurd ((hbef i j).1 h3) hnanc2
              · exact .inr (.inl ⟨hay, h3⟩)
            | false =>
              cases hax : isAp H f x with
              | true =>
                rcases L.apt j i x y hx1 hy hax with h3 | h3 | h3 | h3
                · have := hAi j hj; omega
                · exact absurd ((hbef i j).1 h3) hnanc2
                · exact absurd ((hbef j i).1 h3) hnanc
                · exact .inr (.inr ⟨hax, h3⟩)
              | false => exact .inl ⟨by simp [isTo, hlx, hax], by simp [isTo, hly, hay]⟩
          refine ⟨x, hx1, htwo, hx2, fun fx fy h4 h5 => ?_⟩
          rcases hx3 with hx3 | hx3
          · obtain ⟨_, _, _, e1⟩ := execL_mem _ _ _ _ hx j fx h4
            obtain ⟨_, _, _, e2⟩ := execL_mem _ _ _ _ hx i fy h5
            obtain ⟨_, _, e1'⟩ := oneL_R hx1 hlx e1
            obtain ⟨_, _, e2'⟩ := oneL_R hy hly e2
            exact clash_text hx1 hy e1' e2' hx3
          · exact hconf j i fx fy hx3 h4 h5)
      obtain ⟨s1, fi, fps2, h3, h4, rfl⟩ := execL_cons.1 h1
      have hfit : Fits H f ops (fun k => listed.getD k true = true) i := {
        new := by rw [hun]; simp
        after := fun c oc o hoc ho hl hc => by
          rcases L.after c i oc o hoc ho hl with h5 | h5 | h5
          · subst h5; rw [hun] at hc; cases hc
          · have hE : ∀ j ∈ boundE oc, listed.getD j true = true := hd c oc hoc hc
            have := anc_listed hsz (fun k o ho => (hrow k o ho).1) hd c c oc (Nat.le_refl _) hoc hE i ((hbef i c).1 h5)
            rw [hun] at this; cases this
          · exact h5
        self := fun o ho hl => L.self i o ho hl
        ls := fun o ho hl c oc hoc hlc hci => by
          rcases L.ls i c o oc ho hoc hl with h5 | h5 | h5
          · omega
          · exact hanc c ((hbef c i).1 h5)
          · have := hanclt c oc hoc i ((hbef i c).1 h5); omega
        apl := fun o d ho hap hd c oc hoc hlc hci hx => by
          rcases L.apt i c o oc ho hoc hap with h5 | h5 | h5 | h5
          · omega
          · exact hanc c ((hbef c i).1 h5)
          · have := hanclt c oc hoc i ((hbef i c).1 h5); omega
          · obtain ⟨a, xd, d', _, hdst, hd', _, _, _, _, hxl⟩ := freeMv_spec h5
            rw [hd] at hd'; cases hd'
            exact absurd (hx xd hdst) hxl
        ap := fun o ho hap => by
          obtain ⟨s, os, h5, h6, h7⟩ := L.ap i o ho hap
          refine ⟨s, os, h5, h6, fun hs => ?_⟩
          have hE : ∀ j ∈ boundE os, listed.getD j true = true := hd s os h5 hs
          have := anc_listed hsz (fun k o ho => (hrow k o ho).1) hd s s os (Nat.le_refl _) h5 hE i ((hbef i s).1 h7)
          rw [hun] at this; cases this
        lone := L.lone }
      refine one_okL hC hFO hS h3 hfit fun a' w' hS' => ?_
      have hR' : ((List.range ops.size).filter fun k => !(listed.setIfInBounds i true).getD k true) = A ++ B := by
        have e1 : ((List.range ops.size).filter fun k => !(listed.setIfInBounds i true).getD k true) = ((List.range ops.size).filter fun k => !listed.getD k true).filter (fun k => decide (k ≠ i)) := by
          rw [List.filter_filter]
          refine List.filter_congr fun k hk => ?_
          have hklt := List.mem_range.1 hk
          by_cases hki : k = i
          · subst hki
            have : k < listed.size := by omega
            simp [Array.getD, this]
          · rw [getD_set_ne true (Ne.symm hki)]; simp [hki]
        rw [e1, hAB, List.filter_append, List.filter_cons]
        simp only [ne_eq, not_true_eq_false, decide_false, Bool.false_eq_true, if_false]
        rw [List.filter_eq_self.2 (fun j hj => by have := hAi j hj; simp; omega), List.filter_eq_self.2 (fun j hj => by have := hiB j hj; simp; omega)]
      have hd' : Down ops (listed.setIfInBounds i true) := by
        intro k o ho hk j hj
        by_cases hji : j = i
        · subst hji
          have : j < listed.size := by omega
          simp [Array.getD, this]
        · rw [getD_set_ne true (Ne.symm hji)]
          by_cases hki : k = i
          · subst hki
            rw [hy] at ho; cases ho
            exact hlistedE j hj
          · rw [getD_set_ne true (Ne.symm hki)] at hk
            exact hd k o ho hk j hj
      refine ih (listed.setIfInBounds i true) s1 st' fps2 a' w' (by simp [hsz]) hd' ?_ (by rw [hR']; exact h4) (fun i' j' fi' fj' hu h5 h6 => hconf i' j' fi' fj' hu ((h2 _).1 (by simp [h5])) ((h2 _).1 (by simp [h6]))) (hS'.mono fun k hk => ?_) hQ
      · rw [hR']
        rw [hAB] at hlen
        simp only [List.length_append, List.length_cons] at hlen ⊢
        omega
      · by_cases hki : k = i
        · subst hki
          have : k < listed.size := by omega
          simp [Array.getD, this]
        · rw [getD_set_ne true (Ne.symm hki)]; simp [hki]

theorem simD_drew {w0 : World} {X0 : Cx} {Md : Md} {n : Nat} {st : St} {a : Act} (hS : SimD w0 X0 Md n st a w) : SimD w0 X0 Md n st a { w with drawn := w.drawn + 1 } := by
  obtain ⟨X, O, h, hF, hM⟩ := hS
  have heff : Eff w X { w with drawn := w.drawn + 1 } X [] :=
    ⟨Nat.le_refl _, fun _ _ _ => rfl, fun _ _ _ => rfl, by simp, rfl, h.dom, rfl, rfl, rfl⟩
  have h1 := h.put (T := []) (Oin := []) (O' := []) (z := .undef) (v := undef) none (by simp) heff (by simp [Rep]) Lin.nil (by simp) (by simp [V.ptrs])
  have hF1 := Fr.put (z := .undef) h hF (T := []) (Oin := []) (O' := []) none (by simp) heff (by simp)
  exact ⟨X, _, h1, hF1, hM.of fun _ _ _ _ => ⟨rfl, rfl⟩⟩

/-- A REGION with stores into owners' elements -/
theorem region_ls (hC : OrcOk P C) (hm : P.follows .mixedOrders = true) {F : Fence} {w0 : World} {X0 : Cx} {Md : Md} {n : Nat} (hFO : FOk F X0 Md n) {bid id : Nat} {ops : Array Oper} {draw : Bool} {st st' : St} {e : Ex} {a : Act} (hS : SimD w0 X0 Md n st a w)
    (hls : hasLs H f ops = true) (hx : ex P H C f bid (.region id ops draw) st = some (e, st')) : (Code.region id ops draw).wpIn F 0 P (fun e' a' w' => e' = e.exit' ∧ SimD w0 X0 Md n st' a' w') a w := by
  simp only [ex, hls, if_true] at hx
  split at hx
  · rename_i hok
    simp only [Bool.and_eq_true, Bool.or_eq_true, Bool.not_eq_true'] at hok
    obtain ⟨hlk, hreg⟩ := hok
    split at hx
    · rename_i s fps hex
      split at hx
      · rename_i hconf
        simp only [Option.some.injEq, Prod.mk.injEq] at hx
        obtain ⟨rfl, rfl⟩ := hx
        cases draw with
        | false =>
          refine wpIn_region ?_
          have hr : List.range ops.size = List.range' 0 ops.size := List.range_eq_range'
          rw [hr] at hex ⊢
          exact seq_okL hC hFO hlk ops.size 0 st s fps a w (by omega) ((hS.simI (P := P) (H := H) (f := f) (ops := ops)).mono fun k _ => by simp) hex fun a' w' hS' => ⟨rfl, hS'⟩
        | true =>
          have hreg' : regionOk H f (H.pairs f id) ops = true := by simpa using hreg
          have hconf' : noConf (H.pairs f id) fps = true := by simpa using hconf
          refine wpIn_region_any hm (region_anyL hC hFO hreg' hlk ops.size _ st s fps a _ (by simp) (fun k o ho hk => ?_) (by rw [all_unlisted]; simp) (by rw [all_unlisted]; exact hex) (noConf_spec hconf') (((simD_drew hS).simI (P := P) (H := H) (f := f) (ops := ops)).mono fun k hk => ?_) fun a' w' hS' => ⟨rfl, hS'⟩)
          · have := (Array.getElem?_eq_some_iff.1 ho).1
            simp [Array.getD, this] at hk
          · simp [Array.getD, hk]
      · cases hx
    · cases hx
  · cases hx
end Go.Ab
end
section
/-
  CODE, FUNCTIONS, THE INTERPRETER WITH FUEL: sound.
-/
set_option linter.unusedVariables false
namespace Go.Ab
open Go
variable {P : Program} {H : Hints} {f : FuncId} {C : Orc} {w : World} {X : Cx}

theorem ex_ok (hC : OrcOk P C) (hm : P.follows .mixedOrders = true) : ∀ (c : Code) (bid : Nat) (st : St) (e : Ex) (st' : St), ex P H C f bid c st = some (e, st') → CodeOk P c st e st' := by
  intro c
  induction c with
  | skip =>
    intro bid st e st' hx F w0 X0 Md n a w hF hS
    simp only [ex, Option.some.injEq, Prod.mk.injEq] at hx
    obtain ⟨rfl, rfl⟩ := hx
    exact wpIn_skip ⟨rfl, hS⟩
  | region id ops draw =>
    intro bid st e st' hx F w0 X0 Md n a w hF hS
    cases hls : hasLs H f ops with
    | true => exact region_ls hC hm hF hS hls hx
    | false =>
    obtain ⟨X, Md2, hS2, _, _, lift⟩ := rebase hS
    refine wpIn_mono (region_ok hC hm hF.fence hS2 hls hx) ?_
    rintro e' a' w' ⟨rfl, hd, hS'⟩
    have := lift _ _ _ hS'
    rw [← hd] at this
    exact ⟨rfl, this⟩
  | seq x y ihx ihy =>
    intro bid st e st' hx F w0 X0 Md n a w hF hS
    simp only [ex] at hx
    refine wpIn_seq ?_
    cases h1 : ex P H C f bid x st with
    | none => rw [h1] at hx; cases hx
    | some p =>
      obtain ⟨e1, s⟩ := p
      rw [h1] at hx
      refine wpIn_mono (ihx bid st e1 s h1 F w0 X0 Md n a w hF hS).wp ?_
      rintro e' a' w' ⟨rfl, hS'⟩
      cases e1 with
      | normal => exact (ihy bid s e st' hx F w0 X0 Md n a' w' hF hS').wp
      | exit id => simp only [Option.some.injEq, Prod.mk.injEq] at hx; obtain ⟨rfl, rfl⟩ := hx; exact ⟨rfl, hS'⟩
      | ret => simp only [Option.some.injEq, Prod.mk.injEq] at hx; obtain ⟨rfl, rfl⟩ := hx; exact ⟨rfl, hS'⟩
  | cond c x y ihx ihy =>
    intro bid st e st' hx F w0 X0 Md n a w hF hS
    simp only [ex] at hx
    split at hx
    · rename_i t ht
      have hev : a.eval c = .bool t := by
        obtain ⟨X, O, hR, _⟩ := hS
        have := rd_default (H := H) (f := f) hR c
        rw [ht] at this
        simp only [Rep] at this
        exact this.1
      refine wpIn_cond hev ?_
      cases t with
      | true => exact (ihx bid st e st' hx F w0 X0 Md n a w hF hS).wp
      | false => exact (ihy bid st e st' hx F w0 X0 Md n a w hF hS).wp
    · cases hx
  | block id c ih =>
    intro bid st e st' hx F w0 X0 Md n a w hF hS
    simp only [ex] at hx
    refine wpIn_block ?_
    cases h1 : ex P H C f id c st with
    | none => rw [h1] at hx; cases hx
    | some p =>
      obtain ⟨e1, s⟩ := p
      rw [h1] at hx
      refine wpIn_mono (ih id st e1 s h1 F w0 X0 Md n a w hF hS).wp ?_
      rintro e' a' w' ⟨rfl, hS'⟩
      cases e1 with
      | normal => simp only [Option.some.injEq, Prod.mk.injEq] at hx; obtain ⟨rfl, rfl⟩ := hx; exact ⟨rfl, hS'⟩
      | ret => simp only [Option.some.injEq, Prod.mk.injEq] at hx; obtain ⟨rfl, rfl⟩ := hx; exact ⟨rfl, hS'⟩
      | exit i =>
        simp only at hx
        simp only [Ex.exit', Exit.inBlock]
        by_cases hi : i = id
        · rw [if_pos hi] at hx ⊢
          simp only [Option.some.injEq, Prod.mk.injEq] at hx; obtain ⟨rfl, rfl⟩ := hx
          exact ⟨rfl, hS'⟩
        · rw [if_neg hi] at hx ⊢
          simp only [Option.some.injEq, Prod.mk.injEq] at hx; obtain ⟨rfl, rfl⟩ := hx
          exact ⟨rfl, hS'⟩
  | loop c ih =>
    intro bid st e st' hx F w0 X0 Md n a w hF hS
    simp only [ex] at hx
    split at hx
    · rename_i st1 hcl
      have hS1 := clear_ok hS hcl
      refine LoopOk.close ?_
      cases h1 : ex P H C f bid c st1 with
      | none => rw [h1] at hx; cases hx
      | some p =>
        obtain ⟨e1, s⟩ := p
        rw [h1] at hx
        refine wpIn_mono (ih bid st1 e1 s h1 F w0 X0 Md n a w hF hS1).wp ?_
        rintro e' a' w' ⟨rfl, hS'⟩
        cases e1 with
        | normal => exact hC.code _ _ _ _ _ _ hx F w0 X0 Md n a' w' hF hS'
        | exit id => simp only [Option.some.injEq, Prod.mk.injEq] at hx; obtain ⟨rfl, rfl⟩ := hx; exact ⟨rfl, hS'⟩
        | ret => simp only [Option.some.injEq, Prod.mk.injEq] at hx; obtain ⟨rfl, rfl⟩ := hx; exact ⟨rfl, hS'⟩
    · cases hx
  | rangeFunc g ps as bo iha ihb =>
    intro bid st e st' hx
    exact rangeFunc_ok hC hx
  | exit id =>
    intro bid st e st' hx F w0 X0 Md n a w hF hS
    simp only [ex, Option.some.injEq, Prod.mk.injEq] at hx
    obtain ⟨rfl, rfl⟩ := hx
    exact wpIn_exit ⟨rfl, hS⟩
  | ret =>
    intro bid st e st' hx F w0 X0 Md n a w hF hS
    simp only [ex, Option.some.injEq, Prod.mk.injEq] at hx
    obtain ⟨rfl, rfl⟩ := hx
    exact wpIn_ret ⟨rfl, hS⟩
  | _ => intro bid st e st' hx; simp [ex] at hx
end Go.Ab
end
section
/-
  FUNCTIONS, AND THE INTERPRETER WITH FUEL: sound.
-/
set_option linter.unusedVariables false
namespace Go.Ab
open Go
variable {P : Program} {H : Hints} {f : FuncId} {C : Orc} {w : World} {X : Cx}

def plOf : Bool × Nat × Nat → Pl
  | (false, t, _) => .tmp t
  | (true, l, s) => .box ⟨l, s⟩

def resVal (tmps : Array Value) : ResultVar → Sem Value
  | .tmp t => pure (tmps.getD t undef)
  | .cell a t => do loadVar t (← asAddr (tmps.getD a undef))

theorem getD_rep {st : St} {tmps : Array Value} {O : Pl → List Nat} (h : Rel st tmps w X O) (t : Nat) : Rep w X (st.E.getD t .undef) (tmps.getD t undef) (O (.tmp t)) := by
  by_cases hlt : t < st.E.length
  · obtain ⟨v, hv, hr⟩ := h.env t _ (List.getElem?_eq_getElem hlt)
    have e1 : tmps.getD t undef = v := by rw [Array.getD_eq_getD_getElem?, hv]; rfl
    have e2 : st.E.getD t .undef = st.E[t] := by simp [hlt]
    rw [e1, e2]; exact hr
  · have e2 : st.E.getD t .undef = .undef := by simp [List.getElem?_eq_none (Nat.not_lt.1 hlt)]
    rw [e2, h.envD t (by omega)]; simp [Rep]

theorem result_one {st : St} {tmps : Array Value} {O : Pl → List Nat} (h : Rel st tmps w X O) {rv : ResultVar} {x : V} (hx : resultOf P st rv = some x) :
    ∃ v Ox, (resVal tmps rv).run P w = .ok v w ∧ Rep w X x v Ox ∧ (∀ b, Ox.count b ≤ (O (plOf (resultKey st rv))).count b) ∧ ∀ r ∈ x.ptrs, (st.box r).isSome = true := by
  cases rv with
  | tmp t =>
    simp only [resultOf, Option.some.injEq] at hx
    subst hx
    exact ⟨_, _, rfl, getD_rep h t, fun b => Nat.le_refl _, fun r hr => h.ptrE r (getD_ptrs hr)⟩
  | cell a t =>
    simp only [resultOf] at hx
    split at hx
    · rename_i r off hE
      split at hx
      · rename_i cs hcs
        split at hx
        · cases hx
        · rename_i hlp
          have ha := getD_rep h a
          rw [hE] at ha
          simp only [Rep] at ha
          obtain ⟨_, b, hb, hv⟩ := ha
          obtain ⟨b', hb', hlt, hω, hbx⟩ := h.box r cs hcs
          obtain rfl : b = b' := by rw [hb] at hb'; exact Option.some.inj hb'
          obtain ⟨arr, ty, hw, hl⟩ := hbx.cells (by simpa using hlp)
          have hseg : Seg w b off (arr.toList.drop off) := seg_block hw
          obtain ⟨v, Ox, Ob, hrep, hvv, ⟨d, hd⟩, _, hcnt⟩ := rep_ofCells' hx hl
          have hkey : plOf (resultKey st (.cell a t)) = .box r := by simp only [resultKey, hE, plOf]
          refine ⟨v, Ox, ?_, hrep, fun k => by rw [hkey]; have := hcnt k; omega, fun r' hr' => h.ptrB r cs hcs r' (mem_drop (ptrs_ofCells hx r' hr'))⟩
          simp only [resVal, hv, asAddr, Sem.run_bind, Sem.run_pure, Result.andThen_ok]
          exact run_loadVar' hd hseg hvv
      · cases hx
    · cases hx

theorem results_ok {st : St} {tmps : Array Value} {O : Pl → List Nat} (h : Rel st tmps w X O) : ∀ (l : List ResultVar) (rs : List V), allSome (l.map (resultOf P st)) = some rs →
    ∃ vals Or, (l.mapM (resVal tmps)).run P w = .ok vals w ∧ RepL w X rs vals Or ∧ (∀ b, Or.count b ≤ (l.map fun r => (O (plOf (resultKey st r))).count b).sum) ∧ ∀ r ∈ ptrsL rs, (st.box r).isSome = true
  | [], rs, hx => by
    simp only [List.map_nil, allSome, Option.some.injEq] at hx
    subst hx
    exact ⟨[], [], rfl, by simp [RepL], by simp, by simp [ptrsL]⟩
  | rv :: l, rs, hx => by
    simp only [List.map_cons] at hx
    cases h1 : resultOf P st rv with
    | none => rw [h1] at hx; simp [allSome] at hx
    | some x =>
      rw [h1] at hx
      simp only [allSome] at hx
      obtain ⟨rs', h2, rfl⟩ := Option.map_eq_some_iff.1 hx
      obtain ⟨v, Ox, hr, hrep, hc, hp⟩ := result_one h h1
      obtain ⟨vals, Or, hr', hrep', hc', hp'⟩ := results_ok h l rs' h2
      refine ⟨v :: vals, Ox ++ Or, ?_, by simp only [RepL]; exact ⟨v, vals, Ox, Or, rfl, rfl, hrep, hrep'⟩, fun b => ?_, fun r hr => ?_⟩
      · simp only [List.mapM_cons, Sem.run_bind, hr, Result.andThen_ok, hr', Sem.run_pure]
      · simp only [List.map_cons, List.sum_cons, List.count_append]
        have := hc b; have := hc' b; omega
      · simp only [ptrsL, List.mem_append] at hr
        rcases hr with hr | hr
        · exact hp r hr
        · exact hp' r hr

theorem plOf_inj {st : St} {r r' : ResultVar} (h : plOf (resultKey st r) = plOf (resultKey st r')) : resultKey st r = resultKey st r' := by
  have key : ∀ r : ResultVar, (∃ t, resultKey st r = (false, t, 0)) ∨ ∃ l s, resultKey st r = (true, l, s) := fun r => by
    cases r with
    | tmp t => exact .inl ⟨t, rfl⟩
    | cell a t => right; simp only [resultKey]; split <;> exact ⟨_, _, rfl⟩
  rcases key r with ⟨t, e⟩ | ⟨l, s, e⟩ <;> rcases key r' with ⟨t', e'⟩ | ⟨l', s', e'⟩ <;> rw [e, e'] at h ⊢ <;> simp_all [plOf]

theorem sum_zero {α : Type} (c : α → Nat) : ∀ l : List α, (∀ x ∈ l, c x = 0) → (l.map c).sum = 0
  | [], _ => rfl
  | x :: l, h => by
    simp only [List.map_cons, List.sum_cons, h x (by simp), sum_zero c l fun y hy => h y (by simp [hy])]
theorem sum_le_one {O : Pl → List Nat} (hl : ∀ p, Lin (O p)) (hd : ∀ p q, p ≠ q → ∀ b ∈ O p, b ∉ O q) {st : St} (b : Nat) : ∀ (l : List ResultVar), distinct (l.map (resultKey st)) = true → (l.map fun r => (O (plOf (resultKey st r))).count b).sum ≤ 1
  | [], _ => by simp
  | r :: l, h => by
    simp only [List.map_cons, distinct, Bool.and_eq_true, Bool.not_eq_true'] at h
    have ih := sum_le_one hl hd b l h.2
    simp only [List.map_cons, List.sum_cons]
    by_cases hb : b ∈ O (plOf (resultKey st r))
    · have h1 := hl (plOf (resultKey st r)) b
      have h0 : (l.map fun r => (O (plOf (resultKey st r))).count b).sum = 0 := by
        have : ∀ r' ∈ l, (O (plOf (resultKey st r'))).count b = 0 := fun r' hr' => List.count_eq_zero.2 fun hb' => by
          have hne : plOf (resultKey st r) ≠ plOf (resultKey st r') := fun e => by
            have := plOf_inj e
            have hm : resultKey st r ∈ l.map (resultKey st) := by rw [this]; exact List.mem_map.2 ⟨r', hr', rfl⟩
            have h2 := h.1
            simp only [List.contains_eq_mem, decide_eq_false_iff_not] at h2
            exact h2 hm
          exact hd _ _ hne b hb hb'
        exact sum_zero _ l this
      omega
    · have : (O (plOf (resultKey st r))).count b = 0 := List.count_eq_zero.2 hb
      omega

/-! ### no owners -/
mutual
theorem rep_noowns : ∀ (x : V) (v : Value) (O : List Nat), x.owns = false → Rep w X x v O → O = []
  | .undef, _, _, _, h => by simp only [Rep] at h; exact h
  | .val _, _, _, _, h => by simp only [Rep] at h; exact h.2
  | .ptr .., _, _, _, h => by simp only [Rep] at h; exact h.1
  | .yld _, _, _, _, h => by simp only [Rep] at h; exact h.1
  | .cptr .., _, _, _, h => by simp only [Rep] at h; exact h.1
  | .sl f c l, v, O, ho, h => by
    simp only [V.owns, Bool.or_eq_false_iff, decide_eq_false_iff_not] at ho
    simp only [Rep] at h
    obtain ⟨_, h⟩ := h
    rcases h with ⟨_, h0, _⟩ | ⟨b, off, cap, s, vals, O', _, _, _, _, _, _, _, _, _, _, ho'⟩
    · exact h0
    · exact (ho' ho.1).1
  | .fn f a c, v, O, ho, h => by
    simp only [V.owns, Bool.or_eq_false_iff] at ho
    simp only [Rep] at h
    obtain ⟨va, vc, O1, O2, _, rfl, h1, h2⟩ := h
    rw [repL_noowns a va O1 ho.1 h1, repL_noowns c vc O2 ho.2 h2]; rfl
  | .iface t x, v, O, ho, h => by simp only [V.owns] at ho; simp only [Rep] at h; obtain ⟨u, _, h1⟩ := h; exact rep_noowns x u O ho h1
  | .agg l, v, O, ho, h => by simp only [V.owns] at ho; simp only [Rep] at h; obtain ⟨vals, _, h1⟩ := h; exact repL_noowns l vals O ho h1
  | .tuple l, v, O, ho, h => by simp only [V.owns] at ho; simp only [Rep] at h; obtain ⟨vals, _, h1⟩ := h; exact repL_noowns l vals O ho h1
  | .lp .., _, _, _, h => by simp only [Rep] at h
theorem repL_noowns : ∀ (l : List V) (vals : List Value) (O : List Nat), ownsL l = false → RepL w X l vals O → O = []
  | [], _, _, _, h => by simp only [RepL] at h; exact h.2
  | x :: l, vals, O, ho, h => by
    simp only [ownsL, Bool.or_eq_false_iff] at ho
    simp only [RepL] at h
    obtain ⟨u, vs, O1, O2, _, rfl, h1, h2⟩ := h
    rw [rep_noowns x u O1 ho.1 h1, repL_noowns l vs O2 ho.2 h2]; rfl
end

theorem rep_packed {rs : List V} {vals : List Value} {Or : List Nat} (h : RepL w X rs vals Or) : Rep w X (packed rs) (if hs : vals.toArray.size = 1 then vals.toArray[0] else .tuple vals.toArray) Or := by
  match rs, vals, h with
  | [], vals, h => simp only [RepL] at h; obtain ⟨rfl, rfl⟩ := h; simp [packed, Rep, RepL]
  | [r], vals, h =>
    simp only [RepL] at h
    obtain ⟨u, vs, O1, O2, rfl, rfl, h1, rfl, rfl⟩ := h
    simpa [packed] using h1
  | r :: r' :: rs, vals, h =>
    have hl := repL_length _ _ _ h
    have hne : ¬ vals.toArray.size = 1 := by simp at hl ⊢; omega
    rw [dif_neg hne]
    simp only [packed, Rep]
    exact ⟨vals, rfl, h⟩

/-! ### the marks are taken -/
theorem leaves_marks {fn : Func} {tmps : Array Value} {R : Ending → World → Prop} : ∀ (ks : List Nat) (w : World), ks.Nodup → (∀ k ∈ ks, w.heap[k]? = some (.deferred (some []))) →
    (∀ w' : World, w'.heap.size = w.heap.size → (∀ k, k ∉ ks → w'.heap[k]? = w.heap[k]?) → w'.os = w.os → w'.output = w.output → w'.tape = w.tape → ∃ v, (results fn tmps).run P w' = .ok v w' ∧ R (.returned v) w') →
    LeavesInM Fence.wide 0 P fn tmps R (ks.map fun k => { target := .collected k, args := #[] }) .returning w
  | [], w, _, _, hR => hR w rfl (fun _ _ => rfl) rfl rfl rfl
  | k :: ks, w, hnd, hk, hR => by
    have hw := hk k (by simp)
    obtain ⟨hnk, hnd'⟩ := List.nodup_cons.1 hnd
    refine ⟨by simp, .inl ⟨k, w.putObj k (.deferred none), rfl, run_takeDeferred hw, ?_⟩⟩
    refine leaves_marks ks _ hnd' (fun k' hk' => ?_) (fun w' h1 h2 h3 h4 h5 => ?_)
    · rw [World.putObj_heap_other (fun e => hnk (by rw [← e]; exact hk'))]; exact hk k' (by simp [hk'])
    · refine hR w' (by rw [h1]; simp [World.putObj]) (fun k' hk' => ?_) h3 h4 h5
      simp only [List.mem_cons, not_or] at hk'
      rw [h2 k' hk'.2, World.putObj_heap_other hk'.1]
end Go.Ab
end
section
/-
  FUNCTIONS, AND THE INTERPRETER WITH FUEL: sound.
-/
set_option linter.unusedVariables false
namespace Go.Ab
open Go
variable {P : Program} {H : Hints} {f : FuncId} {C : Orc} {w : World} {X : Cx}

/-- a world that differs where nothing is said -/
theorem Rel.same {st : St} {tmps : Array Value} {O : Pl → List Nat} {w' : World} (h : Rel st tmps w X O) (hsz : w'.heap.size = w.heap.size)
    (hω : ∀ k e fz, X.ω k = some (e, fz) → w'.heap[k]? = w.heap[k]?) (hb : ∀ k c A, BoxR w X k c A → w'.heap[k]? = w.heap[k]?) : Rel st tmps w' X O := by
  have hext : ∀ R, Ext R w X w' X (fun _ => False) := fun R => {
    β := fun _ _ => rfl
    ω := fun b e fz h => ⟨e, fz, h, Nat.le_refl _, id, fun _ => ⟨rfl, rfl⟩⟩
    cell := fun b e fz i v h _ hc => by rw [cell_of_heap (hω b e fz h)]; exact hc
    obj := fun b e fz c t _ h hc => ⟨c, by rw [hω b e fz h]; exact hc, rfl⟩ }
  exact {
    size := h.size
    env := fun t x hx => by
      obtain ⟨v, hv, hr⟩ := h.env t x hx
      exact ⟨v, hv, Rep.ext (hext _) _ _ _ (fun _ h => h) (by simp) hr⟩
    envD := h.envD
    box := fun r c hr => by
      obtain ⟨b, h1, h2, h3, h4⟩ := h.box r c hr
      exact ⟨b, h1, by omega, h3, h4.keep (hb b c _ h4) fun l vals A _ _ hr => RepL.ext (hext _) _ _ _ (fun _ h => h) (by simp) hr⟩
    boxD := h.boxD
    inj := h.inj
    lin := h.lin
    dis := h.dis
    ptrE := h.ptrE
    ptrB := h.ptrB
    up := h.up
    dom := fun b e fz hb => by have := h.dom b e fz hb; omega }

theorem sum_pos {α : Type} (c : α → Nat) : ∀ l : List α, 0 < (l.map c).sum → ∃ x ∈ l, 0 < c x
  | [], h => by simp at h
  | x :: l, h => by
    simp only [List.map_cons, List.sum_cons] at h
    by_cases hx : 0 < c x
    · exact ⟨x, by simp, hx⟩
    · obtain ⟨y, hy, hc⟩ := sum_pos c l (by omega)
      exact ⟨y, by simp [hy], hc⟩

theorem repL_undef : ∀ n, RepL w X (List.replicate n .undef) (List.replicate n undef) []
  | 0 => by simp [RepL]
  | n + 1 => by
    simp only [List.replicate_succ, RepL]
    exact ⟨undef, _, [], [], rfl, rfl, by simp [Rep], repL_undef n⟩

theorem ptrs_undef : ∀ n, ptrsL (List.replicate n .undef) = []
  | 0 => rfl
  | n + 1 => by simp [List.replicate_succ, ptrsL, V.ptrs, ptrs_undef n]

theorem results_run {fn : Func} {tmps : Array Value} {vals : List Value} (h : (fn.results.toList.mapM (resVal tmps)).run P w = .ok vals w) :
    (results fn tmps).run P w = .ok (if hs : vals.toArray.size = 1 then vals.toArray[0] else .tuple vals.toArray) w := by
  have e : results fn tmps = (fn.results.mapM (resVal tmps) >>= fun vs => pure (if h : vs.size = 1 then vs[0] else .tuple vs)) := by
    unfold results
    refine congrArg (fun (g : ResultVar → Sem Value) => (fn.results.mapM g >>= fun vs => pure (if h : vs.size = 1 then vs[0] else .tuple vs))) ?_
    funext r; cases r <;> rfl
  rw [e, Array.mapM_eq_mapM_toList]
  simp [h]

theorem runF_ok (hC : OrcOk P C) (hm : P.follows .mixedOrders = true) (hname : ∀ (g : FuncId) (fn : Func), P.funcs[g]? = some fn → fn.body.isSome = true → (fn.name == "runtime.NumGoroutine") = false) {g : FuncId} {args : List V} {M M' : List Level} {r : V}
    (hx : runF P H C g args M = some (r, M')) : CallOk P g args M r M' := by
  unfold runF at hx
  split at hx
  · rename_i fn hfn
    split at hx
    · rename_i c hbody
      split at hx
      · rename_i e st hex
        split at hx
        · rename_i he
          split at hx
          · rename_i rs hrs
            split at hx
            · rename_i hchk
              obtain ⟨rfl, rfl⟩ := Prod.mk.inj (Option.some.inj hx)
              simp only [Bool.and_eq_true] at hchk
              obtain ⟨hptr, hkeys⟩ := hchk
              simp only [keysOk, Bool.and_eq_true] at hkeys
              obtain ⟨hdist, hklv⟩ := hkeys
              intro w X vals O ha hL hp hfz
              left
              have hbs : fn.body.isNone = false := by rw [hbody]; rfl
              refine ⟨?_, ?_⟩
              · simp only [callFunc, Sem.run_bind, run_program, Result.andThen_ok, hfn, hname g fn hfn (by rw [hbody]; rfl), hbs, Bool.false_eq_true, if_false, Sem.run_pure]
              · refine callsIn_wide.1 (callsIn_of_wp_marks (n := 0) hfn hbody trivial ?_)
                have hlen := repL_length _ _ _ ha
                have hE : RepL w X (args ++ List.replicate (fn.ntmps - args.length) .undef) (vals.toArray ++ Array.replicate (fn.ntmps - vals.toArray.size) undef).toList [] := by
                  have := repL_append ha (repL_undef (w := w) (X := X) (fn.ntmps - args.length))
                  simpa [hlen] using this
                obtain ⟨hR0, hF0⟩ := rel_frame hL (tmps := vals.toArray ++ Array.replicate (fn.ntmps - vals.toArray.size) undef) hE (fun q hq => by
                  rw [ptrsL_append, ptrs_undef, List.append_nil] at hq; exact hp q hq)
                refine wpIn_mono (ex_ok hC hm c 0 _ e st hex Fence.wide w X _ _ { tmps := _, defers := [] } w ⟨.inl rfl, fun h0 => hfz (List.eq_nil_of_length_eq_zero h0)⟩ ⟨X, _, hR0, hF0, [], rfl, .nil, by simp⟩).wp ?_
                rintro e' a' w1 ⟨rfl, X1, O1, hR, hF, ks, hD, hnd, hks⟩
                have hgoal : LeavesInM Fence.wide 0 P fn a'.tmps (fun e w' => ∃ v, e = .returned v ∧ Post M (packed (if M.isEmpty && !ownsL rs then reflagL flSettle rs else rs)) st.L w X O v w') a'.defers .returning w1 := by
                  rw [hD]
                  refine leaves_marks ks w1 hnd (fun k hk => (hks k hk).2.1) fun w2 hsz hsame hos hout htape => ?_
                  have hωs : ∀ k e fz, X1.ω k = some (e, fz) → w2.heap[k]? = w1.heap[k]? := fun k e fz hω => hsame k fun hk => by rw [(hks k hk).2.2] at hω; cases hω
                  have hR2 : Rel st a'.tmps w2 X1 O1 := hR.same hsz hωs fun k c A hb => hsame k fun hk => not_mark hb (hks k hk).2.1 rfl
                  have hF2 : Fr w X (Mod M X O) M.length st w2 X1 O1 := {
                    size := by have := hF.size; omega
                    kept := fun b hb hM => by
                      obtain ⟨h1, h2⟩ := hF.kept b hb hM
                      exact ⟨by rw [hsame b fun hk => by have := (hks b hk).1; omega, h1], h2⟩
                    grew := fun b e fz hω => by
                      obtain ⟨e1, fz1, h1, h2, h3, h4⟩ := hF.grew b e fz hω
                      exact ⟨e1, fz1, h1, h2, h3, fun i v hi hc => by rw [cell_of_heap (hωs b e1 fz1 h1)]; exact h4 i v hi hc⟩
                    β := hF.β
                    own := hF.own
                    boxM := hF.boxM
                    lev := hF.lev
                    live := hF.live
                    os := by rw [hos, hF.os]
                    out := by rw [hout, hF.out]
                    tape := by rw [htape, hF.tape] }
                  obtain ⟨vs, Or, hrun, hrep, hcnt, hpl⟩ := results_ok hR2 fn.results.toList rs hrs
                  have hlin : Lin Or := fun b => Nat.le_trans (hcnt b) (sum_le_one hR2.lin hR2.dis b _ hdist)
                  have hwhere : ∀ b ∈ Or, ∃ p, b ∈ O1 p ∧ ∀ q : Root, q.lvl < M.length → p ≠ .box q := fun b hb => by
                    have h1 := List.count_pos_iff.2 hb
                    obtain ⟨rv, hrv, h2⟩ := sum_pos _ _ (Nat.lt_of_lt_of_le h1 (hcnt b))
                    refine ⟨_, List.count_pos_iff.1 h2, fun q hq e => ?_⟩
                    have h3 := List.all_eq_true.1 hklv (resultKey st rv) (List.mem_map.2 ⟨rv, hrv, rfl⟩)
                    generalize hkey : resultKey st rv = key at e h3
                    obtain ⟨kb, kl, ks'⟩ := key
                    cases kb with
                    | false => simp [plOf] at e
                    | true =>
                      simp only [plOf, Pl.box.injEq] at e
                      simp only [Bool.not_true, Bool.false_or, decide_eq_true_eq] at h3
                      rw [← e] at hq; simp only at hq; omega
                  obtain ⟨hlr, hlen', hkind⟩ := rel_leave hR2 hF2
                  have hplv : ∀ q ∈ ptrsL rs, (boxL st.L q).isSome = true := fun q hq => by
                    have h1 := List.all_eq_true.1 hptr q hq
                    rw [boxL_of_box, if_pos (by rw [hlen']; simpa using h1)]
                    exact hpl q hq
                  refine ⟨_, results_run hrun, _, rfl, ?_⟩
                  by_cases hset : (M.isEmpty && !ownsL rs) = true
                  · rw [if_pos hset]
                    simp only [Bool.and_eq_true, Bool.not_eq_true'] at hset
                    have hM : M = [] := by simpa using hset.1
                    have hOr : Or = [] := repL_noowns rs vs Or hset.2 hrep
                    subst hOr
                    subst hM
                    have hL0 : st.L = [] := List.eq_nil_of_length_eq_zero (by rw [hlen']; rfl)
                    have hnoM : ∀ b, ¬ Mod [] X O b := fun b hb => by
                      rcases hb with ⟨q, h1, _⟩ | ⟨q, h1⟩
                      · simp [boxL] at h1
                      · rw [hL.boxD q (by simp [boxL])] at h1; simp at h1
                    have hold : ∀ b, b < w.heap.size → X1.ω b = X.ω b := fun b hb => (hF2.kept b hb (hnoM b)).2
                    let X2 : Cx := { β := X1.β, ω := fun b => (X1.ω b).map fun p => (p.1, true) }
                    have hX2 : ∀ b e fz, X1.ω b = some (e, fz) → X2.ω b = some (e, true) := fun b e fz h => by simp [X2, h]
                    have hX2o : ∀ b, b < w.heap.size → X2.ω b = X.ω b := fun b hb => by
                      show (X1.ω b).map _ = _
                      rw [hold b hb]
                      cases hω : X.ω b with
                      | none => rfl
                      | some p => obtain ⟨e, fz⟩ := p; have := hfz rfl b e fz hω; subst this; rfl
                    have hrep2 : RepL w2 X2 (reflagL flSettle rs) vs [] := RepL.flags' (X := X1) (X' := X2) (S := fun _ => False) { β := rfl, own := fun f => by cases f <;> simp [flSettle], ω := fun b e fz h => ⟨true, hX2 b e fz h, fun h => h.elim⟩, sh := fun f b e fz h _ _ _ => hX2 b e fz h } _ _ _ (by simp) hrep
                    refine ⟨X2, fun _ => [], [], rep_packed hrep2, ?_, Lin.nil, by simp, ?_, hlen', hkind, ?_⟩
                    · rw [hL0]
                      exact { box := fun r c hc => by simp [boxL] at hc, boxD := fun _ _ => rfl, inj := fun r r' b h1 => by simp [boxL] at h1, lin := fun _ => Lin.nil, dis := fun _ _ _ _ h => by simp at h, ptrB := fun r c hc => by simp [boxL] at hc, up := fun r c hc => by simp [boxL] at hc
                              dom := fun b e fz hω => by
                                obtain ⟨p, hp, _⟩ := Option.map_eq_some_iff.1 hω
                                exact hR2.dom b p.1 p.2 hp }
                    · intro q hq
                      have : q ∈ ptrsL rs := by
                        have hpk : ∀ l : List V, q ∈ (packed l).ptrs → q ∈ ptrsL l := fun l hq => by
                          match l, hq with
                          | [], hq => simpa [packed, V.ptrs] using hq
                          | [x], hq => simpa [packed, ptrsL] using hq
                          | x :: y :: l, hq => simpa only [packed, V.ptrs] using hq
                        have := hpk _ hq
                        rw [ptrsL_reflag] at this; exact this
                      exact hplv q this
                    · exact {
                        size := hF2.size
                        kept := fun b hb hM => ⟨(hF2.kept b hb hM).1, hX2o b hb⟩
                        grew := fun b e fz hω => by
                          have hb := hL.dom b e fz hω
                          exact ⟨e, fz, by rw [hX2o b hb]; exact hω, Nat.le_refl _, id, fun i v hi hc => by rw [cell_of_heap (hF2.kept b hb (hnoM b)).1]; exact hc⟩
                        β := hF2.β
                        own := fun b hb => by
                          rcases hb with hb | ⟨q, hb⟩ <;> simp at hb
                        os := hF2.os
                        out := hF2.out
                        tape := hF2.tape }
                  · rw [if_neg hset]
                    refine ⟨X1, leaveO M.length O1, Or, rep_packed hrep, hlr, hlin, fun q b hb hbq => ?_, fun q hq => ?_, hlen', hkind, fr_aft hF2 fun b hb => ?_⟩
                    · obtain ⟨p, h1, h2⟩ := hwhere b hb
                      unfold leaveO at hbq
                      split at hbq
                      · rename_i hq; exact hR2.dis p (.box q) (h2 q hq) b h1 hbq
                      · simp at hbq
                    · have hpk : ∀ l : List V, q ∈ (packed l).ptrs → q ∈ ptrsL l := fun l hq => by
                        match l, hq with
                        | [], hq => simpa [packed, V.ptrs] using hq
                        | [x], hq => simpa [packed, ptrsL] using hq
                        | x :: y :: l, hq => simpa only [packed, V.ptrs] using hq
                      exact hplv q (hpk _ hq)
                    · rcases hb with hb | ⟨q, hb⟩
                      · obtain ⟨p, h1, _⟩ := hwhere b hb; exact ⟨p, h1⟩
                      · exact ⟨.box q, mem_leaveO hb⟩
                rcases he with rfl | rfl
                · exact hgoal
                · exact hgoal
            · cases hx
          · cases hx
        · cases hx
      · cases hx
    · cases hx
  · cases hx

/-- THE INTERPRETER WITH FUEL IS SOUND -/
theorem orcN_ok (hm : P.follows .mixedOrders = true) (hname : ∀ (g : FuncId) (fn : Func), P.funcs[g]? = some fn → fn.body.isSome = true → (fn.name == "runtime.NumGoroutine") = false) {lib : FuncId → Option (List V → Option V)}
    (hlib : ∀ g h args r, lib g = some h → h args = some r → CallOk P g args [] r []) : ∀ n, OrcOk P (orcN P H lib n)
  | 0 => ⟨fun _ _ _ _ _ h => by simp [orcN] at h, fun _ _ _ _ _ _ h => by simp [orcN] at h⟩
  | n + 1 => by
    have ih := orcN_ok hm hname hlib n
    refine ⟨fun g args M r M' h => ?_, fun f bid c st e st' h => ex_ok ih hm c bid st e st' h⟩
    simp only [orcN] at h
    split at h
    · rename_i h0 hl
      split at h
      · rename_i hM
        obtain ⟨v, h1, h2⟩ := Option.map_eq_some_iff.1 h
        obtain ⟨rfl, rfl⟩ := Prod.mk.inj h2
        have : M = [] := by simpa using hM
        subst this
        exact hlib g h0 args v hl h1
      · cases h
    · exact runF_ok ih hm hname h
end Go.Ab
end
section
/-
  TREES OF TEMPORARIES, MASKS: kept so that the kernel reads and writes them quickly; what they say as lists.
-/
set_option linter.unusedVariables false
namespace Go.Tx

/-- a set of numbers, as bits -/
structure Mask where
  bits : Nat
  deriving DecidableEq
def Mask.has (m : Mask) (t : Nat) : Bool := Nat.testBit m.bits t
instance : Membership Nat Mask := ⟨fun m t => m.has t = true⟩
instance (t : Nat) (m : Mask) : Decidable (t ∈ m) := inferInstanceAs (Decidable (m.has t = true))
def Mask.empty : Mask := ⟨0⟩
def Mask.ins (t : Nat) (m : Mask) : Mask := ⟨Nat.lor m.bits (Nat.shiftLeft 1 t)⟩
def Mask.union (a b : Mask) : Mask := ⟨Nat.lor a.bits b.bits⟩
instance : Append Mask := ⟨Mask.union⟩
def Mask.sub (a b : Mask) : Bool := Nat.beq (Nat.lor a.bits b.bits) b.bits
def Mask.ofList (l : List Nat) : Mask := l.foldr Mask.ins .empty
theorem Mask.mem_iff {m : Mask} {t : Nat} : t ∈ m ↔ m.has t = true := Iff.rfl
@[simp] theorem Mask.mem_empty {t : Nat} : ¬ t ∈ Mask.empty := by
  rw [Mask.mem_iff]; unfold Mask.has Mask.empty; simp
@[simp] theorem Mask.mem_ins {m : Mask} {t u : Nat} : u ∈ Mask.ins t m ↔ u = t ∨ u ∈ m := by
  rw [Mask.mem_iff, Mask.mem_iff]
  unfold Mask.has Mask.ins
  have e : Nat.lor m.bits (Nat.shiftLeft 1 t) = m.bits ||| (1 <<< t) := rfl
  simp only [e, Nat.testBit_or, Bool.or_eq_true, Nat.one_shiftLeft, Nat.testBit_two_pow, decide_eq_true_eq]
  constructor
  · rintro (h | h)
    · exact .inr h
    · exact .inl h.symm
  · rintro (h | h)
    · exact .inr h.symm
    · exact .inl h
@[simp] theorem Mask.mem_append {a b : Mask} {t : Nat} : t ∈ a ++ b ↔ t ∈ a ∨ t ∈ b := by
  show t ∈ Mask.union a b ↔ _
  rw [Mask.mem_iff, Mask.mem_iff, Mask.mem_iff]
  unfold Mask.has Mask.union
  have e : Nat.lor a.bits b.bits = a.bits ||| b.bits := rfl
  simp only [e, Nat.testBit_or, Bool.or_eq_true]
@[simp] theorem Mask.mem_ofList {l : List Nat} {t : Nat} : t ∈ Mask.ofList l ↔ t ∈ l := by
  induction l with
  | nil => simp [Mask.ofList]
  | cons a l ih =>
    have : Mask.ofList (a :: l) = Mask.ins a (Mask.ofList l) := rfl
    rw [this, Mask.mem_ins, ih]; simp
theorem Mask.sub_mem {a b : Mask} (h : a.sub b = true) {t : Nat} (ht : t ∈ a) : t ∈ b := by
  unfold Mask.sub at h
  have h1 := Nat.eq_of_beq_eq_true h
  rw [Mask.mem_iff] at ht ⊢
  unfold Mask.has at ht ⊢
  rw [← h1]
  have e : Nat.lor a.bits b.bits = a.bits ||| b.bits := rfl
  rw [e, Nat.testBit_or, ht]; rfl
theorem Mask.sub_of {a b : Mask} (h : ∀ t, t ∈ a → t ∈ b) : a.sub b = true := by
  unfold Mask.sub
  have : Nat.lor a.bits b.bits = b.bits := by
    apply Nat.eq_of_testBit_eq
    intro i
    have e : Nat.lor a.bits b.bits = a.bits ||| b.bits := rfl
    rw [e, Nat.testBit_or]
    have h1 := h i
    rw [Mask.mem_iff, Mask.mem_iff] at h1
    unfold Mask.has at h1
    cases ha : a.bits.testBit i with
    | false => rfl
    | true => rw [h1 ha]; rfl
  rw [this]; exact Nat.beq_refl _

inductive Tr (α : Type) where
  | nil
  | node (v : α) (l r : Tr α)

section
variable {α : Type} (d : α)
noncomputable def Tr.get (t : Tr α) : Nat → α :=
  Tr.rec (motive := fun _ => Nat → α) (fun _ => d) (fun v l r gl gr i => Bool.rec (motive := fun _ => α) (Bool.rec (motive := fun _ => α) (gr (Nat.pred (Nat.div i 2))) (gl (Nat.div i 2)) (Nat.beq (Nat.mod i 2) 1)) v (Nat.beq i 0)) t
noncomputable def Tr.one (k : Nat) : Nat → α → Tr α :=
  Nat.rec (motive := fun _ => Nat → α → Tr α) (fun _ _ => .nil) (fun _ g i v => Bool.rec (motive := fun _ => Tr α) (Bool.rec (motive := fun _ => Tr α) (.node d .nil (g (Nat.pred (Nat.div i 2)) v)) (.node d (g (Nat.div i 2) v) .nil) (Nat.beq (Nat.mod i 2) 1)) (.node v .nil .nil) (Nat.beq i 0)) k
noncomputable def Tr.set (t : Tr α) : Nat → α → Tr α :=
  Tr.rec (motive := fun _ => Nat → α → Tr α) (fun i v => Tr.one d (Nat.succ i) i v) (fun u l r gl gr i v => Bool.rec (motive := fun _ => Tr α) (Bool.rec (motive := fun _ => Tr α) (.node u l (gr (Nat.pred (Nat.div i 2)) v)) (.node u (gl (Nat.div i 2) v) r) (Nat.beq (Nat.mod i 2) 1)) (.node v l r) (Nat.beq i 0)) t

theorem Tr.get_nil (i : Nat) : (Tr.nil : Tr α).get d i = d := rfl
theorem brec {β : Type} (a b : β) (c : Bool) : Bool.rec (motive := fun _ => β) b a c = if c = true then a else b := by cases c <;> rfl
theorem Tr.get_node (v : α) (l r : Tr α) (i : Nat) : (Tr.node v l r).get d i = if i = 0 then v else if i % 2 = 1 then l.get d (i / 2) else r.get d (i / 2 - 1) := by
  have e : (Tr.node v l r).get d i = Bool.rec (motive := fun _ => α) (Bool.rec (motive := fun _ => α) (r.get d (Nat.pred (Nat.div i 2))) (l.get d (Nat.div i 2)) (Nat.beq (Nat.mod i 2) 1)) v (Nat.beq i 0) := rfl
  rw [e, brec, brec]
  simp only [Nat.beq_eq]
  rfl
theorem Tr.one_succ (k i : Nat) (v : α) : Tr.one d (k + 1) i v = if i = 0 then .node v .nil .nil else if i % 2 = 1 then .node d (Tr.one d k (i / 2) v) .nil else .node d .nil (Tr.one d k (i / 2 - 1) v) := by
  have e : Tr.one d (k + 1) i v = Bool.rec (motive := fun _ => Tr α) (Bool.rec (motive := fun _ => Tr α) (.node d .nil (Tr.one d k (Nat.pred (Nat.div i 2)) v)) (.node d (Tr.one d k (Nat.div i 2) v) .nil) (Nat.beq (Nat.mod i 2) 1)) (.node v .nil .nil) (Nat.beq i 0) := rfl
  rw [e, brec, brec]
  simp only [Nat.beq_eq]
  rfl
theorem Tr.set_nil (i : Nat) (v : α) : (Tr.nil : Tr α).set d i v = Tr.one d (i + 1) i v := rfl
theorem Tr.set_node (u : α) (l r : Tr α) (i : Nat) (v : α) : (Tr.node u l r).set d i v = if i = 0 then .node v l r else if i % 2 = 1 then .node u (l.set d (i / 2) v) r else .node u l (r.set d (i / 2 - 1) v) := by
  have e : (Tr.node u l r).set d i v = Bool.rec (motive := fun _ => Tr α) (Bool.rec (motive := fun _ => Tr α) (.node u l (r.set d (Nat.pred (Nat.div i 2)) v)) (.node u (l.set d (Nat.div i 2) v) r) (Nat.beq (Nat.mod i 2) 1)) (.node v l r) (Nat.beq i 0) := rfl
  rw [e, brec, brec]
  simp only [Nat.beq_eq]
  rfl
theorem half (i j : Nat) : (i % 2 = 1 → j % 2 = 1 → (i = j ↔ i / 2 = j / 2)) ∧ (i ≠ 0 → j ≠ 0 → i % 2 ≠ 1 → j % 2 ≠ 1 → (i = j ↔ i / 2 - 1 = j / 2 - 1)) := by
  constructor <;> intros <;> omega
theorem Tr.get_one : ∀ (k i : Nat) (v : α) (j : Nat), i < k → (Tr.one d k i v).get d j = if i = j then v else d
  | 0, i, v, j, h => by omega
  | k + 1, i, v, j, h => by
    rw [Tr.one_succ]
    obtain ⟨h1, h2⟩ := half i j
    by_cases i0 : i = 0
    · rw [if_pos i0, Tr.get_node]
      by_cases j0 : j = 0
      · rw [if_pos j0, if_pos (show i = j by omega)]
      · rw [if_neg j0, if_neg (show ¬ i = j by omega)]
        by_cases jo : j % 2 = 1
        · rw [if_pos jo]; rfl
        · rw [if_neg jo]; rfl
    · rw [if_neg i0]
      by_cases io : i % 2 = 1
      · rw [if_pos io, Tr.get_node]
        by_cases j0 : j = 0
        · rw [if_pos j0, if_neg (show ¬ i = j by omega)]
        · rw [if_neg j0]
          by_cases jo : j % 2 = 1
          · rw [if_pos jo, Tr.get_one k _ v _ (by omega)]
            simp only [h1 io jo]
          · rw [if_neg jo, if_neg (show ¬ i = j by omega)]; rfl
      · rw [if_neg io, Tr.get_node]
        by_cases j0 : j = 0
        · rw [if_pos j0, if_neg (show ¬ i = j by omega)]
        · rw [if_neg j0]
          by_cases jo : j % 2 = 1
          · rw [if_pos jo, if_neg (show ¬ i = j by omega)]; rfl
          · rw [if_neg jo, Tr.get_one k _ v _ (by omega)]
            simp only [h2 i0 j0 io jo]
theorem Tr.get_set : ∀ (t : Tr α) (i : Nat) (v : α) (j : Nat), (t.set d i v).get d j = if i = j then v else t.get d j
  | .nil, i, v, j => by rw [Tr.set_nil, Tr.get_one d _ _ _ _ (by omega), Tr.get_nil]
  | .node u l r, i, v, j => by
    rw [Tr.set_node]
    obtain ⟨h1, h2⟩ := half i j
    by_cases i0 : i = 0
    · rw [if_pos i0, Tr.get_node, Tr.get_node]
      by_cases j0 : j = 0
      · rw [if_pos j0, if_pos (show i = j by omega)]
      · rw [if_neg j0, if_neg j0, if_neg (show ¬ i = j by omega)]
    · rw [if_neg i0]
      by_cases io : i % 2 = 1
      · rw [if_pos io, Tr.get_node, Tr.get_node]
        by_cases j0 : j = 0
        · rw [if_pos j0, if_pos j0, if_neg (show ¬ i = j by omega)]
        · rw [if_neg j0, if_neg j0]
          by_cases jo : j % 2 = 1
          · rw [if_pos jo, if_pos jo, Tr.get_set l]
            simp only [h1 io jo]
          · rw [if_neg jo, if_neg jo, if_neg (show ¬ i = j by omega)]
      · rw [if_neg io, Tr.get_node, Tr.get_node]
        by_cases j0 : j = 0
        · rw [if_pos j0, if_pos j0, if_neg (show ¬ i = j by omega)]
        · rw [if_neg j0, if_neg j0]
          by_cases jo : j % 2 = 1
          · rw [if_pos jo, if_pos jo, if_neg (show ¬ i = j by omega)]
          · rw [if_neg jo, if_neg jo, Tr.get_set r]
            simp only [h2 i0 j0 io jo]

/-! all of a tree at once: the number of a node's own element is b, of the element that it calls j is a * j + b -/
noncomputable def Tr.fill (n : Nat) (f : Nat → α → α) (k : Nat) : Nat → Nat → Tr α :=
  Nat.rec (motive := fun _ => Nat → Nat → Tr α) (fun _ _ => .nil) (fun _ g a b => Bool.rec (motive := fun _ => Tr α) .nil (.node (f b d) (g (Nat.mul 2 a) (Nat.add a b)) (g (Nat.mul 2 a) (Nat.add (Nat.mul 2 a) b))) (Nat.ble (Nat.succ b) n)) k
noncomputable def Tr.mapI (n : Nat) (f : Nat → α → α) (t : Tr α) : Nat → Nat → Tr α :=
  Tr.rec (motive := fun _ => Nat → Nat → Tr α) (fun a b => Tr.fill d n f n a b) (fun v l r gl gr a b => .node (f b v) (gl (Nat.mul 2 a) (Nat.add a b)) (gr (Nat.mul 2 a) (Nat.add (Nat.mul 2 a) b))) t
noncomputable def Tr.allI (p : Nat → α → Bool) (t : Tr α) : Nat → Nat → Bool :=
  Tr.rec (motive := fun _ => Nat → Nat → Bool) (fun a b => true) (fun v l r gl gr a b => Bool.rec (motive := fun _ => Bool) false (Bool.rec (motive := fun _ => Bool) false (gr (Nat.mul 2 a) (Nat.add (Nat.mul 2 a) b)) (gl (Nat.mul 2 a) (Nat.add a b))) (p b v)) t
noncomputable def Tr.maskI (p : α → Bool) (t : Tr α) : Nat → Nat → Nat :=
  Tr.rec (motive := fun _ => Nat → Nat → Nat) (fun a b => 0) (fun v l r gl gr a b => Nat.lor (Nat.lor (gl (Nat.mul 2 a) (Nat.add a b)) (gr (Nat.mul 2 a) (Nat.add (Nat.mul 2 a) b))) (Bool.rec (motive := fun _ => Nat) 0 (Nat.shiftLeft 1 b) (p v))) t
theorem Tr.get_fill (n : Nat) (f : Nat → α → α) : ∀ (k a b j : Nat), 1 ≤ a → n ≤ b + k → a * j + b < n → (Tr.fill d n f k a b).get d j = f (a * j + b) d
  | 0, a, b, j, ha, hk, hj => by have := Nat.le_add_left b (a * j); omega
  | k + 1, a, b, j, ha, hk, hj => by
    have hb : b < n := by have := Nat.le_add_left b (a * j); omega
    have e : Tr.fill d n f (k + 1) a b = Bool.rec (motive := fun _ => Tr α) .nil (.node (f b d) (Tr.fill d n f k (2 * a) (a + b)) (Tr.fill d n f k (2 * a) (2 * a + b))) (Nat.ble (b + 1) n) := rfl
    rw [e, brec, if_pos (by rw [Nat.ble_eq]; omega), Tr.get_node]
    by_cases j0 : j = 0
    · rw [if_pos j0]; subst j0; simp
    · rw [if_neg j0]
      by_cases jo : j % 2 = 1
      · have e1 : 2 * a * (j / 2) + (a + b) = a * j + b := by
          have : j = 2 * (j / 2) + 1 := by omega
          conv => rhs; rw [this]
          rw [Nat.mul_add, ← Nat.mul_assoc, Nat.mul_comm a 2]; omega
        rw [if_pos jo, Tr.get_fill n f k _ _ _ (by omega) (by omega) (by omega), e1]
      · have e1 : 2 * a * (j / 2 - 1) + (2 * a + b) = a * j + b := by
          have : j = 2 * (j / 2 - 1) + 2 := by omega
          conv => rhs; rw [this]
          rw [Nat.mul_add, ← Nat.mul_assoc, Nat.mul_comm a 2]; omega
        rw [if_neg jo, Tr.get_fill n f k _ _ _ (by omega) (by omega) (by omega), e1]
theorem Tr.get_mapI (n : Nat) (f : Nat → α → α) : ∀ (t : Tr α) (a b j : Nat), 1 ≤ a → a * j + b < n → (t.mapI d n f a b).get d j = f (a * j + b) (t.get d j)
  | .nil, a, b, j, ha, hj => Tr.get_fill d n f n a b j ha (by omega) hj
  | .node v l r, a, b, j, ha, hj => by
    have e : (Tr.node v l r).mapI d n f a b = .node (f b v) (l.mapI d n f (2 * a) (a + b)) (r.mapI d n f (2 * a) (2 * a + b)) := rfl
    rw [e, Tr.get_node, Tr.get_node]
    by_cases j0 : j = 0
    · rw [if_pos j0, if_pos j0]; subst j0; simp
    · rw [if_neg j0, if_neg j0]
      by_cases jo : j % 2 = 1
      · have e1 : 2 * a * (j / 2) + (a + b) = a * j + b := by
          have : j = 2 * (j / 2) + 1 := by omega
          conv => rhs; rw [this]
          rw [Nat.mul_add, ← Nat.mul_assoc, Nat.mul_comm a 2]; omega
        rw [if_pos jo, if_pos jo, Tr.get_mapI n f l _ _ _ (by omega) (by omega), e1]
      · have e1 : 2 * a * (j / 2 - 1) + (2 * a + b) = a * j + b := by
          have : j = 2 * (j / 2 - 1) + 2 := by omega
          conv => rhs; rw [this]
          rw [Nat.mul_add, ← Nat.mul_assoc, Nat.mul_comm a 2]; omega
        rw [if_neg jo, if_neg jo, Tr.get_mapI n f r _ _ _ (by omega) (by omega), e1]
theorem Tr.allI_get {p : Nat → α → Bool} (hp : ∀ i, p i d = true) : ∀ (t : Tr α) (a b j : Nat), t.allI p a b = true → p (a * j + b) (t.get d j) = true
  | .nil, a, b, j, h => hp _
  | .node v l r, a, b, j, h => by
    have e : (Tr.node v l r).allI p a b = Bool.rec (motive := fun _ => Bool) false (Bool.rec (motive := fun _ => Bool) false (r.allI p (2 * a) (2 * a + b)) (l.allI p (2 * a) (a + b))) (p b v) := rfl
    rw [e, brec, brec] at h
    have hv : p b v = true := by
      cases hh : p b v with
      | true => rfl
      | false => rw [hh] at h; simp at h
    have hl : l.allI p (2 * a) (a + b) = true := by
      cases hh : l.allI p (2 * a) (a + b) with
      | true => rfl
      | false => rw [hh] at h; simp at h
    have hr : r.allI p (2 * a) (2 * a + b) = true := by rw [hv, hl] at h; simpa using h
    rw [Tr.get_node]
    by_cases j0 : j = 0
    · rw [if_pos j0]; subst j0; simpa using hv
    · rw [if_neg j0]
      by_cases jo : j % 2 = 1
      · have e1 : 2 * a * (j / 2) + (a + b) = a * j + b := by
          have : j = 2 * (j / 2) + 1 := by omega
          conv => rhs; rw [this]
          rw [Nat.mul_add, ← Nat.mul_assoc, Nat.mul_comm a 2]; omega
        rw [if_pos jo, ← e1]
        exact Tr.allI_get hp l _ _ _ hl
      · have e1 : 2 * a * (j / 2 - 1) + (2 * a + b) = a * j + b := by
          have : j = 2 * (j / 2 - 1) + 2 := by omega
          conv => rhs; rw [this]
          rw [Nat.mul_add, ← Nat.mul_assoc, Nat.mul_comm a 2]; omega
        rw [if_neg jo, ← e1]
        exact Tr.allI_get hp r _ _ _ hr
theorem Tr.maskI_get {p : α → Bool} (hp : p d = false) : ∀ (t : Tr α) (a b j : Nat), p (t.get d j) = true → (t.maskI p a b).testBit (a * j + b) = true
  | .nil, a, b, j, h => by rw [Tr.get_nil, hp] at h; cases h
  | .node v l r, a, b, j, h => by
    have e : (Tr.node v l r).maskI p a b = (l.maskI p (2 * a) (a + b) ||| r.maskI p (2 * a) (2 * a + b)) ||| Bool.rec (motive := fun _ => Nat) 0 (1 <<< b) (p v) := rfl
    rw [e, brec, Nat.testBit_or, Nat.testBit_or]
    rw [Tr.get_node] at h
    by_cases j0 : j = 0
    · rw [if_pos j0] at h
      subst j0
      rw [h]
      simp [Nat.one_shiftLeft]
    · rw [if_neg j0] at h
      by_cases jo : j % 2 = 1
      · have e1 : 2 * a * (j / 2) + (a + b) = a * j + b := by
          have : j = 2 * (j / 2) + 1 := by omega
          conv => rhs; rw [this]
          rw [Nat.mul_add, ← Nat.mul_assoc, Nat.mul_comm a 2]; omega
        rw [if_pos jo] at h
        have := Tr.maskI_get hp l (2 * a) (a + b) _ h
        rw [e1] at this
        rw [this]; rfl
      · have e1 : 2 * a * (j / 2 - 1) + (2 * a + b) = a * j + b := by
          have : j = 2 * (j / 2 - 1) + 2 := by omega
          conv => rhs; rw [this]
          rw [Nat.mul_add, ← Nat.mul_assoc, Nat.mul_comm a 2]; omega
        rw [if_neg jo] at h
        have := Tr.maskI_get hp r (2 * a) (2 * a + b) _ h
        rw [e1] at this
        rw [this]; simp
end
end Go.Tx
end
section
/-
  THE TYPED INTERPRETER: it runs the model's Code over typed values (a slice is a Lean list of a known type) in continuation style, so that what it computes of a function whose arguments are variables IS, by definition, a plain Lean function. Definitions; the texts behind it show that it is the abstract interpreter's answer.
-/
set_option linter.unusedVariables false
namespace Go.Tx
open Go Go.Ab

inductive Ty where
  | int (k : IntKind)
  | bool
  | str
  | sl (t : Ty)
  | unit
  | pair (a b : Ty)
  deriving DecidableEq

@[reducible] def Ty.den : Ty → Type
  | .int _ => Int
  | .bool => Bool
  | .str => List UInt8
  | .sl t => List t.den
  | .unit => Unit
  | .pair a b => a.den × b.den

/-- how many levels of slices -/
def Ty.depth : Ty → Nat
  | .sl t => t.depth + 1
  | .pair a b => max a.depth b.depth
  | _ => 0
/-- of one cell -/
def Ty.one : Ty → Bool
  | .unit | .pair .. => false
  | _ => true
def Ty.ncells : Ty → Nat
  | .unit => 0
  | .pair _ b => b.ncells + 1
  | _ => 1
/-- aggregates are rows of cells of one -/
def Ty.rowOk : Ty → Bool
  | .unit => true
  | .pair a b => a.one && b.rowOk
  | _ => false
def Ty.elemOk : Ty → Bool
  | .unit => true
  | .pair a b => a.one && b.rowOk
  | _ => true
def Ty.ok : Ty → Bool
  | .sl t => t.elemOk && t.ok
  | .pair a b => a.one && a.ok && b.rowOk && b.ok
  | _ => true

/-! levels: how many are owned; from 1000 on what lies below these is shared -/
/-- from 2000 on it is anything -/
def isOwn (o : Nat) : Bool := !(decide (o = 0) || (decide (o = 1000) || decide (o = 2000)))
def nx (o : Nat) : Nat := if isOwn o then o - 1 else o
def dl (o : Nat) : Nat := if o = 1000 then 1000 else 0
def lo (o : Nat) : Nat := if 1000 ≤ o ∧ o < 2000 then o - 1000 else o
/-- is none of so many levels another's to write? -/
def sure (o d : Nat) : Bool := if o < 1000 then decide (d ≤ o) else if o < 2000 then true else decide (d ≤ o - 2000)
def nf (o d : Nat) : Nat := if o < 1000 then min o d else o
/-- what is so may be taken for this -/
def fits : Nat → Nat → Nat → Bool
  | 0, _, _ => true
  | d + 1, o', o => decide (o = 2000) || ((isOwn o' == isOwn o) && !decide (o' = 2000) && (!decide (o = 1000) || decide (o' = 1000)) && fits d (nx o') (nx o))

inductive TV where
  | any (rs : List Root)
  | t (τ : Ty) (own : Nat) (x : τ.den)
  | clp (τ : Ty) (x : List τ.den)
  | empty (o : Nat)
  | val (v : Value)
  | agg (l : List TV)
  | tuple (l : List TV)
  | fn (g : FuncId) (first cap : List TV)
  | ptr (r : Root) (off : Nat)
  | cptr (l : List TV)
  | iface (t : TypeId) (v : TV)
instance : Inhabited TV := ⟨.any []⟩

/-- the temporaries -/
structure Env where
  n : Nat
  t : Tr TV
noncomputable def Env.get (e : Env) (i : Nat) : TV := Env.rec (motive := fun _ => TV) (fun n t => Bool.rec (motive := fun _ => TV) (.any []) (t.get (.any []) i) (Nat.ble (Nat.succ i) n)) e
noncomputable def Env.set (e : Env) (i : Nat) (v : TV) : Env := Env.rec (motive := fun _ => Env) (fun n t => ⟨n, t.set (.any []) i v⟩) e
noncomputable def Env.mapI (f : Nat → TV → TV) (e : Env) : Env := Env.rec (motive := fun _ => Env) (fun n t => ⟨n, t.mapI (.any []) n f 1 0⟩) e
noncomputable def Env.all (p : Nat → TV → Bool) (e : Env) : Bool := e.t.allI p 1 0
noncomputable def Env.mask (p : TV → Bool) (e : Env) : Mask := ⟨e.t.maskI p 1 0⟩
noncomputable def fillTr : List TV → Nat → Tr TV → Tr TV
  | [], _, t => t
  | v :: l, i, t => fillTr l (i + 1) (t.set (.any []) i v)
noncomputable def Env.ofArgs (args : List TV) (n : Nat) : Env := ⟨args.length + (n - args.length), fillTr args 0 .nil⟩
/-- as a list -/
noncomputable def Env.toL (e : Env) : List TV := (List.range e.n).map fun i => e.t.get (.any []) i
noncomputable def forgetM (D : Mask) (rs : List Root) (e : Env) : Env := e.mapI fun i v => Bool.rec (motive := fun _ => TV) v (.any rs) (D.has i)

def TV.cells : TV → List TV
  | .agg l => l
  | v => [v]
def TV.one : TV → Bool
  | .any _ | .agg _ | .tuple _ => false
  | .t τ _ _ => τ.one
  | .val u => match u with
    | .agg _ => false
    | .tuple _ => false
    | _ => true
  | _ => true
def TV.oks (x : TV) : Bool := x.cells.all TV.one

mutual
def TV.dull : TV → TV
  | .any rs => .any rs
  | .t τ o x => .t τ (dl o) x
  | .clp τ x => .clp τ x
  | .empty o => .empty (dl o)
  | .val v => .val v
  | .agg l => .agg (dullL l)
  | .tuple l => .tuple (dullL l)
  | .fn g a b => .fn g (dullL a) (dullL b)
  | .ptr r o => .ptr r o
  | .cptr l => .cptr (dullL l)
  | .iface t v => .iface t v.dull
def dullL : List TV → List TV
  | [] => []
  | v :: l => v.dull :: dullL l
end
mutual
/-- what is handed to a function without boxes: never to be written again -/
def TV.share : TV → TV
  | .any rs => .any rs
  | .t τ _ x => .t τ 1000 x
  | .clp τ x => .t (.sl τ) 1000 x
  | .empty _ => .empty 1000
  | .val v => .val v
  | .agg l => .agg (shareL l)
  | .tuple l => .tuple (shareL l)
  | .fn g a b => .fn g (shareL a) (shareL b)
  | .ptr r o => .ptr r o
  | .cptr l => .cptr (shareL l)
  | .iface t v => .iface t v.share
def shareL : List TV → List TV
  | [] => []
  | v :: l => v.share :: shareL l
end
mutual
def TV.loosen : TV → TV
  | .any rs => .any rs
  | .t τ o x => .t τ (lo o) x
  | .clp τ x => .clp τ x
  | .empty o => .empty (lo o)
  | .val v => .val v
  | .agg l => .agg (loosenL l)
  | .tuple l => .tuple (loosenL l)
  | .fn g a b => .fn g (loosenL a) (loosenL b)
  | .ptr r o => .ptr r o
  | .cptr l => .cptr (loosenL l)
  | .iface t v => .iface t v.loosen
def loosenL : List TV → List TV
  | [] => []
  | v :: l => v.loosen :: loosenL l
end

mutual
def TV.ptrs : TV → List Root
  | .any rs => rs
  | .ptr r _ => [r]
  | .cptr cs => ptrsTL cs
  | .fn _ a b => ptrsTL a ++ ptrsTL b
  | .iface _ v => v.ptrs
  | .agg l => ptrsTL l
  | .tuple l => ptrsTL l
  | _ => []
def ptrsTL : List TV → List Root
  | [] => []
  | v :: l => v.ptrs ++ ptrsTL l
end

mutual
/-- may it hold an owner? -/
def TV.owns : TV → Bool
  | .any _ => true
  | .t τ o _ => (isOwn o || decide (o = 2000)) && decide (0 < τ.depth)
  | .empty o => isOwn o || decide (o = 2000)
  | .fn _ a b => ownsTL a || ownsTL b
  | .cptr l => ownsTL l
  | .iface _ v => v.owns
  | .agg l => ownsTL l
  | .tuple l => ownsTL l
  | _ => false
def ownsTL : List TV → Bool
  | [] => false
  | v :: l => v.owns || ownsTL l
end

mutual
/-- is all of it known? -/
def TV.known : TV → Bool
  | .any _ => false
  | .fn _ a b => knownL a && knownL b
  | .cptr l => knownL l
  | .iface _ v => v.known
  | .agg l => knownL l
  | .tuple l => knownL l
  | _ => true
def knownL : List TV → Bool
  | [] => true
  | v :: l => v.known && knownL l
end

mutual
/-- surely without elements that somebody may write -/
def TV.firm : TV → Bool
  | .any _ => false
  | .t τ o _ => sure o τ.depth
  | .clp _ _ => false
  | .fn _ a b => firmL a && firmL b
  | .cptr _ => false
  | .iface _ v => v.firm
  | .agg l => firmL l
  | .tuple l => firmL l
  | _ => true
def firmL : List TV → Bool
  | [] => true
  | v :: l => v.firm && firmL l
end
mutual
/-- surely without anything that belongs to others -/
def TV.tight : TV → Bool
  | .any _ => false
  | .t τ o _ => sure o τ.depth
  | .empty o => sure o 1
  | .clp _ _ => false
  | .fn _ a b => tightL a && tightL b
  | .cptr _ => false
  | .iface _ v => v.tight
  | .agg l => tightL l
  | .tuple l => tightL l
  | _ => true
def tightL : List TV → Bool
  | [] => true
  | v :: l => v.tight && tightL l
end
def TV.isAny : TV → Bool
  | .any _ => true
  | _ => false
def TV.hard (x : TV) : TV := if x.firm then x else .any x.ptrs

mutual
def ofTy : (τ : Ty) → Nat → τ.den → TV
  | .unit, _, _ => .agg []
  | .pair a b, o, x => .agg (ofTy a o x.1 :: ofTyC b o x.2)
  | .int k, o, x => .t (.int k) o x
  | .bool, o, x => .t .bool o x
  | .str, o, x => .t .str o x
  | .sl t, o, x => .t (.sl t) o x
def ofTyC : (τ : Ty) → Nat → τ.den → List TV
  | .pair a b, o, x => ofTy a o x.1 :: ofTyC b o x.2
  | _, _, _ => []
end

def cast' {τ τ' : Ty} (h : τ' = τ) (x : τ'.den) : τ.den := h ▸ x
def asTy : (τ : Ty) → Nat → TV → Option τ.den
  | .unit, _, .agg [] => some ()
  | .pair a b, o, .agg (v :: l) => (asTy a o v).bind fun x => (asTy b o (.agg l)).bind fun y => some (x, y)
  | .sl _, o, .empty o' => if fits 1 o' o = true then some [] else none
  | τ, o, .t τ' o' x => if h : τ' = τ then (if fits τ.depth o' o = true then some (cast' h x) else none) else none
  | _, _, _ => none

@[reducible] def denL : List Ty → Type
  | [] => Unit
  | [τ] => τ.den
  | τ :: τ' :: l => τ.den × denL (τ' :: l)
def asL : (ps : List (Ty × Nat)) → List TV → Option (denL (ps.map (·.1)))
  | [], [] => some ()
  | [(τ, o)], [v] => asTy τ o v
  | (τ, o) :: q :: ps, v :: l => (asTy τ o v).bind fun x => (asL (q :: ps) l).bind fun y => some (x, y)
  | _, _ => none
def ofL : (ps : List (Ty × Nat)) → denL (ps.map (·.1)) → List TV
  | [], _ => []
  | [(τ, o)], x => [ofTy τ o x]
  | (τ, o) :: q :: ps, x => ofTy τ o x.1 :: ofL (q :: ps) x.2

/-! what the typed functions are made of -/
def idx {α : Type} (l : List α) (n : Int) : Option α := if 0 ≤ n then l[n.toNat]? else none
def app {α : Type} (l l2 : List α) : Option (List α) := if l.length + l2.length ≤ 4294967296 then some (l ++ l2) else none
def slc {α : Type} (l : List α) (lo hi : Int) : Option (List α) := if 0 ≤ lo ∧ lo ≤ hi ∧ hi ≤ l.length then some ((l.take hi.toNat).drop lo.toNat) else none
def mkS {α : Type} (z : α) (n : Int) : Option (List α) := if 0 ≤ n ∧ n ≤ 4294967296 then some (List.replicate n.toNat z) else none
/-- a loop: as long as it says so it goes on; none if it never ends, or fails -/
def loopN {σ ρ : Type} (f : σ → Option (σ ⊕ ρ)) : Nat → σ → Option ρ
  | 0, _ => none
  | n + 1, s => match f s with
    | some (.inl s') => loopN f n s'
    | some (.inr r) => some r
    | none => none
open Classical in
noncomputable def loopO {σ ρ : Type} (f : σ → Option (σ ⊕ ρ)) (s : σ) : Option ρ :=
  if h : ∃ n r, loopN f n s = some r then some (Classical.choose (Classical.choose_spec h)) else none

abbrev TLevel := List (Nat × Option (List TV))
structure TSt where
  E : Env
  L : List TLevel
  B : TLevel
  /-- what was written: temporaries, boxes -/
  Wt : Mask
  Wb : List Root

def lookT : TLevel → Nat → Option (Option (List TV))
  | [], _ => none
  | (k, c) :: l, s => if k = s then some c else lookT l s
def setT : TLevel → Nat → Option (List TV) → TLevel
  | [], _, _ => []
  | (k, c) :: l, s, c' => if k = s then (k, c') :: l else (k, c) :: setT l s c'
def TSt.box (st : TSt) (r : Root) : Option (List TV) :=
  match if r.lvl = st.L.length then lookT st.B r.slot else match st.L[r.lvl]? with | some b => lookT b r.slot | none => none with
  | some (some c) => some c
  | _ => none
def TSt.setBox (st : TSt) (r : Root) (c : List TV) : TSt :=
  if r.lvl = st.L.length then { st with B := setT st.B r.slot (some c), Wb := r :: st.Wb }
  else { st with L := st.L.modify r.lvl fun b => setT b r.slot (some c), Wb := r :: st.Wb }
noncomputable def TSt.put (st : TSt) (d : Option Tmp) (v : TV) : TSt :=
  match d with
  | some t => { st with E := st.E.set t v, Wt := Mask.ins t st.Wt }
  | none => st

def zeroTV (precise : Bool) : Value → TV
  | .int k n => .t (.int k) 0 n
  | .bool b => .t .bool 0 b
  | .string s => .t .str 0 s.data.toList
  | .slice none 0 0 => if precise then .val (.slice none 0 0) else .empty 1
  | v => .val v
def constTV (precise : Bool) : Value → TV
  | .agg cs => .agg (cs.toList.map (zeroTV precise))
  | v => zeroTV precise v

structure Place where
  /-- none: a temporary; else the box's level -/
  lvl : Option Nat
  slot : Nat
  cell : Nat
/-- where ways meet again: what goes on typed, what is forgotten -/
structure Join where
  lv : List Place
  ps : List (Ty × Nat)
  abn : Bool := false
  /-- temporaries and boxes that are forgotten; what boxes these may point to -/
  D : Mask
  wr : List Root := []
  rs : List Root := []

inductive Kind where
  | loop (id : Nat) | block (id : Nat) | cond (t : Tmp) | region (id : Nat) | inl (d : Tmp)
  deriving DecidableEq
/-- where joins are; which calls are run in place (some true: with a join of what they give) -/
structure TH where
  /-- library functions: never run in place -/
  lib : FuncId → Bool := fun _ => false
  join : List Tmp → FuncId → Kind → Option Join
  inl : List Tmp → FuncId → Tmp → Bool

/-- called functions -/
abbrev CallT := FuncId → List TV → (R : Type) → (TV → Option R) → Option R

section
variable (P : Program) (H : Hints) (f : FuncId)

def cellsTy : Nat → TypeId → Option (List Ty)
  | 0, _ => none
  | d + 1, t => match P.underlying t with
    | some (.int k) => some [.int k]
    | some .bool => some [.bool]
    | some .string => some [.str]
    | some (.slice e) => match cellsTy d e, P.underlying e with
      | some cs, some (.struct _) => some [.sl (cs.foldr .pair .unit)]
      | some cs, some (.array ..) => some [.sl (cs.foldr .pair .unit)]
      | some [τ], _ => some [.sl τ]
      | _, _ => none
    | some (.struct fields) => (fields.toList.mapM fun fd => cellsTy d fd.type).map List.flatten
    | some (.array n e) => (cellsTy d e).map fun cs => (List.replicate n cs).flatten
    | _ => none
def tyOf (t : TypeId) : Option Ty :=
  match cellsTy P 10 t with
  | some cs => if isAggT P t then some (cs.foldr .pair .unit) else cs.head?
  | none => none

def ofCellsT (t : TypeId) (cs : List TV) : Option TV :=
  match P.underlying t with
  | none => none
  | some _ => if isAggT P t then (if P.cellsOf t ≤ cs.length then some (.agg (cs.take (P.cellsOf t))) else none) else cs.head?
def zeroT (t : TypeId) : Option TV := ((P.info? t).bind (·.zero)).map (constTV (H.precise f))

def spliceT (cs : List TV) (off : Nat) (vs : List TV) : List TV := cs.take off ++ vs ++ cs.drop (off + vs.length)
def fillT (place : Nat → Option (Nat × Nat)) (cs : List TV) : List (Nat × TV) → Option (List TV)
  | [] => some cs
  | (i, v) :: rest =>
    match place i with
    | none => none
    | some (off, size) => if v.cells.length ≠ size ∨ off + v.cells.length > cs.length ∨ v.oks = false then none else fillT place (spliceT cs off v.cells) rest
def tbuild (t : TypeId) (parts : List (Nat × TV)) : Option TV :=
  match zeroT P H f t, P.underlying t with
  | some z, some (.struct fields) =>
    match fields.toList.mapM (fun f => (P.info? f.type).map fun i => (f.offset, i.size)) with
    | some places => (fillT (places.toArray[·]?) z.cells parts).map .agg
    | none => none
  | some z, some (.array _ elem) =>
    match P.info? elem with
    | some ie => (fillT (fun i => some (i * ie.size, ie.size)) z.cells parts).map .agg
    | none => none
  | _, _ => none
def chunkT (agg : Bool) (s : Nat) : Nat → List TV → List TV
  | 0, _ => []
  | n + 1, cs => (if agg then .agg (cs.take s) else cs.headD (.any [])) :: chunkT agg s n (cs.drop s)

mutual
/-- the level of ownership of the slices in it: as its first slice has it -/
def TV.lev : TV → Option Nat
  | .t τ o _ => if τ.depth = 0 then none else some (nf o τ.depth)
  | .empty o => if isOwn o then none else some o
  | .agg l => levL l
  | _ => none
def levL : List TV → Option Nat
  | [] => none
  | v :: l => match v.lev with
    | some n => some n
    | none => levL l
end
mutual
def TV.hasEmpty : TV → Bool
  | .empty _ => true
  | .agg l => hasEmptyL l
  | _ => false
def hasEmptyL : List TV → Bool
  | [] => false
  | v :: l => v.hasEmpty || hasEmptyL l
end
def levOf (l : List TV) : Nat := (levL l).getD (if hasEmptyL l then 1 else 0)
def asAll (τ : Ty) (o : Nat) : List TV → Option (List τ.den)
  | [] => some []
  | v :: l => (asTy τ o v).bind fun x => (asAll τ o l).bind fun y => some (x :: y)

def tbuildSlice (t : TypeId) (len : Nat) (parts : List (Nat × TV)) : Option TV :=
  match P.underlying t with
  | some (.slice elem) =>
    match P.info? elem, zeroT P H f elem, tyOf P elem with
    | some ie, some z, some τ =>
      if ie.size = 0 ∨ (isAggT P elem = false ∧ ie.size ≠ 1) ∨ z.cells.length ≠ ie.size ∨ len * ie.size > 16777216 ∨ τ.ok = false ∨ τ.elemOk = false then none else
      match fillT (fun i => some (i * ie.size, ie.size)) ((List.replicate len z.cells).flatten) parts with
      | some cs => if cs.all TV.one && (ptrsTL cs).isEmpty && isOwn (levOf (chunkT (isAggT P elem) ie.size len cs) + 1) then
          (asAll τ (levOf (chunkT (isAggT P elem) ie.size len cs)) (chunkT (isAggT P elem) ie.size len cs)).map fun l => .t (.sl τ) (levOf (chunkT (isAggT P elem) ie.size len cs) + 1) l else none
      | none => none
    | _, _, _ => none
  | _ => none

def tfield (t : TypeId) (x : TV) (fd : Nat) : Option TV :=
  match P.underlying t, x with
  | some (.struct fields), .agg cs =>
    match fields[fd]? with
    | some d => ofCellsT P d.type (cs.drop d.offset)
    | none => none
  | _, _ => none
def tfieldAddr (t : TypeId) (x : TV) (fd : Nat) : Option TV :=
  match P.underlying t with
  | some (.struct fields) =>
    match fields[fd]? with
    | some d => if P.cellsOf d.type = 0 then none else
      match x with
      | .ptr r off => some (.ptr r (off + d.offset))
      | .cptr cs => if d.offset ≤ cs.length then some (.cptr (cs.drop d.offset)) else none
      | _ => none
    | none => none
  | _ => none

/-- by the value of an index below n -/
def upTo (R : Type) (i : Int) (k : Nat → Option R) : Nat → Nat → Option R
  | 0, _ => none
  | n + 1, j => bif decide (i = (j : Int)) then k j else upTo R i k n (j + 1)
/-- a part of an array: the cells, or where they lie -/
def tindex (elem : TypeId) (len : Nat) (cs : List TV) (i : Int) (R : Type) (k : TV → Option R) : Option R :=
  if P.cellsOf elem = 0 then none else
  upTo R i (fun j => match ofCellsT P elem (cs.drop (j * P.cellsOf elem)) with
    | some v => k v
    | none => none) len 0
def tindexAddr (t : TypeId) (x : TV) (i : Int) (R : Type) (k : TV → Option R) : Option R :=
  match P.underlying t, x with
  | some (.array len elem), .ptr r off => if P.cellsOf elem = 0 then none else upTo R i (fun j => k (.ptr r (off + j * P.cellsOf elem))) len 0
  | some (.array len elem), .cptr cs => if P.cellsOf elem = 0 then none else upTo R i (fun j => if j * P.cellsOf elem ≤ cs.length then k (.cptr (cs.drop (j * P.cellsOf elem))) else none) len 0
  | some (.slice elem), .t (.sl τ) o l => if P.cellsOf elem = τ.ncells ∧ τ.ncells ≠ 0 ∧ τ.ok = true ∧ τ.elemOk = true then (idx l i).bind fun e => k (.cptr (ofTy τ (dl (nx o)) e).cells) else none
  | some (.slice elem), .clp τ l => if P.cellsOf elem = τ.ncells ∧ τ.ncells ≠ 0 ∧ τ.ok = true ∧ τ.elemOk = true then (idx l i).bind fun e => k (.cptr (ofTy τ 0 e).cells) else none
  | _, _ => none

def tint : TV → Option Int
  | .t (.int _) _ n => some n
  | _ => none
/-- x[lo:hi:mx] of a slice, within its length -/
def tslice (t : TypeId) (x : TV) (lo hi mx : Option TV) (R : Type) (k : TV → Option R) : Option R :=
  let lo' : Option Int := match lo with | none => some 0 | some v => tint v
  match P.underlying t, x with
  | some (.slice elem), .t (.sl τ) o l =>
    if isOwn o = true ∨ o = 2000 ∨ P.cellsOf elem = 0 ∨ P.cellsOf elem ≠ τ.ncells ∨ τ.ok = false ∨ τ.elemOk = false then none else
    match lo', (match hi with | none => some (l.length : Int) | some v => tint v) with
    | some a, some b =>
      match mx with
      | none => (slc l a b).bind fun l' => k (.t (.sl τ) o l')
      | some m => match tint m with
        | some c => if hi.isSome then (slc l a b).bind fun l' => bif decide (c = b) then k (.clp τ l') else none else none
        | none => none
    | _, _ => none
  | some (.slice elem), .empty o =>
    if isOwn o = true ∨ o = 2000 ∨ P.cellsOf elem = 0 then none else
    match lo', (match hi with | none => some 0 | some v => tint v), mx with
    | some a, some b, none => bif decide (a = 0) && decide (b = 0) then k (.empty o) else none
    | _, _, _ => none
  | some .string, .t .str _ s =>
    match lo', (match hi with | none => some (s.length : Int) | some v => tint v), mx with
    | some a, some b, none => (slc s a b).bind fun l' => k (.t .str 0 l')
    | _, _, _ => none
  | _, _ => none

def tmakeSlice (t : TypeId) (len cap : TV) (R : Type) (k : TV → Option R) : Option R :=
  match P.underlying t with
  | some (.slice elem) =>
    match zeroT P H f elem, tyOf P elem, tint len, tint cap with
    | some z, some τ, some n, some c =>
      if P.cellsOf elem ≠ 0 ∧ z.cells.length = P.cellsOf elem ∧ z.oks = true ∧ P.bytesOf elem ≤ 8192 ∧ τ.ok = true ∧ τ.elemOk = true ∧ isOwn (levOf [z] + 1) = true then
        match asTy τ (levOf [z]) z with
        | some x => (mkS x n).bind fun l => bif decide (c = n) then k (.t (.sl τ) (levOf [z] + 1) l) else none
        | none => none
      else none
    | _, _, _, _ => none
  | _ => none

/-- what is appended: its elements' type, level, list -/
def tail? (yt : TypeDesc) : TV → Option (Σ τ : Ty, Nat × List τ.den)
  | .t (.sl τ) o l => match yt with
    | .slice _ => some ⟨τ, (nx o, l)⟩
    | _ => none
  | .clp τ l => match yt with
    | .slice _ => some ⟨τ, (0, l)⟩
    | _ => none
  | .t .str _ s => match yt with
    | .string => some ⟨.int .u8, (0, s.map fun c => (c.toNat : Int))⟩
    | _ => none
  | _ => none
def tappend (argTypes : Array TypeId) (x y : TV) (R : Type) (k : TV → Option R) : Option R :=
  match (argTypes[0]?).bind P.underlying, (argTypes[1]?).bind P.underlying with
  | some (.slice elem), some yt =>
    match y with
    | .empty _ => (match yt, x with
      | .slice _, .t (.sl τ) o l => if isOwn o = true ∧ τ.ncells = P.cellsOf elem ∧ P.cellsOf elem ≠ 0 ∧ ((P.info? elem).bind (·.zero)).map (fun z => z.cells.size) = some (P.cellsOf elem) ∧ P.bytesOf elem ≤ 8192 ∧ τ.ok = true ∧ τ.elemOk = true then (app l []).bind fun l' => k (.t (.sl τ) o l') else none
      | .slice _, .empty o => if isOwn o = true ∧ P.cellsOf elem ≠ 0 ∧ ((P.info? elem).bind (·.zero)).map (fun z => z.cells.size) = some (P.cellsOf elem) ∧ P.bytesOf elem ≤ 8192 then k (.empty o) else none
      | _, _ => none)
    | y => match tail? yt y with
    | none => none
    | some ⟨τ, (o2, l2)⟩ =>
      if τ.ncells = P.cellsOf elem ∧ P.cellsOf elem ≠ 0 ∧ ((P.info? elem).bind (·.zero)).map (fun z => z.cells.size) = some (P.cellsOf elem) ∧ P.bytesOf elem ≤ 8192 ∧ τ.ok = true ∧ τ.elemOk = true then
        match x with
        | .t (.sl τ') o l => if h : τ' = τ then (if isOwn o = true then (app (cast' (congrArg Ty.sl h) l : (Ty.sl τ).den) l2).bind fun l' => k (.t (.sl τ) (if fits τ.depth o2 (nx o) = true then o else 2001) l') else none) else none
        | .empty o => if isOwn o = true ∧ isOwn (o2 + 1) = true then (app [] l2).bind fun l' => k (.t (.sl τ) (o2 + 1) l') else none
        | .clp τ' l => if h : τ' = τ then (if τ.depth = 0 ∨ (isOwn o2 = false ∧ o2 ≠ 2000) then (match l2 with
            | [] => none
            | e :: l3 => (app (cast' (congrArg Ty.sl h) l : (Ty.sl τ).den) (e :: l3)).bind fun l' => k (.t (.sl τ) 1 l')) else none) else none
        | _ => none
      else none
  | _, _ => none

def scal : TV → Bool
  | .t (.int _) _ _ | .t .bool _ _ | .t .str _ _ => true
  | _ => false
/-- equality of numbers, bools, strings, and structs of such -/
def teq : Nat → TypeId → TV → TV → Option Bool
  | 0, _, _, _ => none
  | d + 1, t, x, y => match P.underlying t, x, y with
    | some (.int _), .t (.int k) _ a, .t (.int k') _ b => if k = k' then some (decide (a = b)) else none
    | some .bool, .t .bool _ a, .t .bool _ b => some (a == b)
    | some .string, .t .str _ a, .t .str _ b => some (decide (a = b))
    | some (.struct fields), .agg xs, .agg ys => if P.stoodInHeld t then none else
      fields.toList.foldr (fun fd acc => if fd.name = "_" then none else
        match ofCellsT P fd.type (xs.drop fd.offset), ofCellsT P fd.type (ys.drop fd.offset), acc with
        | some u, some v, some b => (teq d fd.type u v).map fun a => bif a then b else false
        | _, _, _ => none) (some true)
    | _, _, _ => none

def notNilT : TypeDesc → TV → TV → Bool
  | .pointer _, .ptr .., .val (.pointer none) => true
  | .pointer _, .cptr _, .val (.pointer none) => true
  | .func .., .fn .., .val .nilFunc => true
  | _, _, _ => false
def isNilT : TypeDesc → TV → TV → Bool
  | .slice _, .val (.slice none 0 0), .val (.slice none 0 0) => true
  | .pointer _, .val (.pointer none), .val (.pointer none) => true
  | .func .., .val .nilFunc, .val .nilFunc => true
  | _, _, _ => false

def tbin (op : BinOp) (t : TypeId) (x y : TV) (R : Type) (k : TV → Option R) : Option R :=
  match x, y with
  | .t (.int k1) _ a, .t (.int k2) _ b =>
    match op with
    | .shl | .shr => none
    | _ => if k1 = k2 then (match op with
      | .add => k (.t (.int k1) 0 (k1.wrap (a + b)))
      | .sub => k (.t (.int k1) 0 (k1.wrap (a - b)))
      | .mul => k (.t (.int k1) 0 (k1.wrap (a * b)))
      | .quo => bif decide (b = 0) then none else k (.t (.int k1) 0 (k1.wrap (a.tdiv b)))
      | .rem => bif decide (b = 0) then none else k (.t (.int k1) 0 (a.tmod b))
      | .eql => k (.t .bool 0 (decide (a = b)))
      | .neq => k (.t .bool 0 (!decide (a = b)))
      | .lss => k (.t .bool 0 (decide (a < b)))
      | .leq => k (.t .bool 0 (decide (a ≤ b)))
      | .gtr => k (.t .bool 0 (decide (a > b)))
      | .geq => k (.t .bool 0 (decide (a ≥ b)))
      | _ => none) else none
  | .t .str _ a, .t .str _ b =>
    match op with
    | .eql => k (.t .bool 0 (decide (a = b)))
    | .neq => k (.t .bool 0 (!decide (a = b)))
    | .lss => k (.t .bool 0 (Op.bytesLess a b))
    | .add => (app a b).bind fun l => k (.t .str 0 l)
    | _ => none
  | .t .bool _ a, .t .bool _ b =>
    match P.underlying t, op with
    | some .bool, .eql => k (.t .bool 0 (a == b))
    | some .bool, .neq => k (.t .bool 0 (!(a == b)))
    | _, _ => none
  | .agg l, .agg l' => if P.eqGuardType P.depth t || !(l.all scal && l'.all scal) then none else (match teq P 9 t (.agg l) (.agg l') with
    | some b => (match op with
      | .eql => k (.t .bool 0 b)
      | .neq => k (.t .bool 0 (!b))
      | _ => none)
    | none => none)
  | .t (.sl τ) _ l, .val (.slice none 0 0) =>
    match P.underlying t with
    | some (.slice _) => bif List.isEmpty l then none else (match op with
      | .eql => k (.t .bool 0 false)
      | .neq => k (.t .bool 0 true)
      | _ => none)
    | _ => none
  | x, y => match P.underlying t with
    | some d =>
      if notNilT d x y then (match op with
      | .eql => k (.t .bool 0 false)
      | .neq => k (.t .bool 0 true)
      | _ => none)
      else if isNilT d x y then (match op with
      | .eql => k (.t .bool 0 true)
      | .neq => k (.t .bool 0 false)
      | _ => none)
      else none
    | none => none

def tun (op : UnOp) (x : TV) : Option TV :=
  match op, x with
  | .not, .t .bool _ b => some (.t .bool 0 (!b))
  | .neg, .t (.int k) _ n => some (.t (.int k) 0 (k.wrap (0 - n)))
  | _, _ => none

def tconv (src dst : TypeId) (x : TV) : Option TV :=
  match P.underlying src, P.underlying dst, x with
  | some _, some (.int k), .t (.int _) _ n => some (.t (.int k) 0 (k.wrap n))
  | some _, some .string, .t .str _ s => some (.t .str 0 s)
  | _, _, _ => none

def tints (k : IntKind) : List TV → Option (List Int)
  | [] => some []
  | .t (.int k') _ n :: l => if k = k' then (tints k l).map (n :: ·) else none
  | _ => none
def tbuiltin (b : Builtin) (argTypes : Array TypeId) (xs : List TV) (R : Type) (k : TV → Option R) : Option R :=
  match b, xs with
  | .len, [.t (.sl _) _ l] => match (argTypes[0]?).bind P.underlying with
    | some (.slice _) => k (.t (.int .i64) 0 (l.length : Int))
    | _ => none
  | .len, [.clp _ l] => match (argTypes[0]?).bind P.underlying with
    | some (.slice _) => k (.t (.int .i64) 0 (l.length : Int))
    | _ => none
  | .len, [.empty _] => match (argTypes[0]?).bind P.underlying with
    | some (.slice _) => k (.t (.int .i64) 0 0)
    | _ => none
  | .len, [.t .str _ s] => match (argTypes[0]?).bind P.underlying with
    | some .string => k (.t (.int .i64) 0 (s.length : Int))
    | _ => none
  | .append, [x, y] => tappend P argTypes x y R k
  | .max, .t (.int kk) _ n :: xs => match tints kk xs with
    | some l => k (.t (.int kk) 0 (l.foldl max n))
    | none => none
  | .min, .t (.int kk) _ n :: xs => match tints kk xs with
    | some l => k (.t (.int kk) 0 (l.foldl min n))
    | none => none
  | _, _ => none

/-- what an operation gives that touches at most one box: its value, and what the box then holds -/
def topSem (tk : Bool) (o : Op) (xs : List TV) (bx : Option (List TV)) (R : Type) (k : TV → Option (List TV) → Option R) : Option R :=
  let v (x : Option TV) : Option R := match x with
    | some x => k x none
    | none => none
  match o, xs with
  | .move _, [x] | .assign _, [x] => k x none
  | .pick .., [.t .bool _ c, a, b] => bif c then k a none else k b none
  | .build t parts, xs => v (tbuild P H f t (parts.toList.map (·.1) |>.zip xs))
  | .buildSlice t len parts, xs => v (tbuildSlice P H f t len (parts.toList.map (·.1) |>.zip xs))
  | .load t _, [.cptr cs] => v ((ofCellsT P t cs).map TV.dull)
  | .load t _, [.ptr _ off] => match bx with
    | some cs => if tk then (match ofCellsT P t (cs.drop off) with
        | some x => k x (some (spliceT cs off (dullL ((cs.drop off).take (if isAggT P t then P.cellsOf t else 1)))))
        | none => none)
      else v ((ofCellsT P t (cs.drop off)).map TV.dull)
    | none => none
  | .store t _ _, [.ptr _ off, x] => match bx with
    | some cs => if P.cellsOf t ≠ 0 ∧ x.cells.length = P.cellsOf t ∧ off + x.cells.length ≤ cs.length ∧ x.oks = true then k (.any []) (some (spliceT cs off x.cells)) else none
    | none => none
  | .nilCheck _, [.ptr r off] => k (.ptr r off) none
  | .nilCheck _, [.cptr cs] => k (.cptr cs) none
  | .nilCheck _, [.fn g a b] => k (.fn g a b) none
  | .binOp op t _ _ _, [x, y] => tbin P op t x y R fun x => k x none
  | .unOp op _ _, [x] => v (tun op x)
  | .convert src dst _, [x] => v (tconv P src dst x)
  | .makeFunc (.func g) first _, xs => k (.fn g (xs.take first.size) (xs.drop first.size)) none
  | .makeSlice t _ _, [l, c] => tmakeSlice P H f t l c R fun x => k x none
  | .slice t _ lo hi mx, x :: rest =>
    let r1 := if lo.isSome then rest.tail else rest
    let r2 := if hi.isSome then r1.tail else r1
    tslice P t x (if lo.isSome then rest.head? else none) (if hi.isSome then r1.head? else none) (if mx.isSome then r2.head? else none) R fun x => k x none
  | .fieldAddr t _ fd, [x] => v (tfieldAddr P t x fd)
  | .field t _ fd, [x] => v (tfield P t x fd)
  | .indexAddr t _ _, [x, .t (.int _) _ i] => tindexAddr P t x i R fun x => k x none
  | .index t _ _, [x, .t (.int _) _ i] => (match P.underlying t, x with
    | some (.array len elem), .agg cs => tindex P elem len cs i R fun x => k x none
    | some .string, .t .str _ s => (idx s i).bind fun b => k (.t (.int .u8) 0 (b.toNat : Int)) none
    | _, _ => none)
  | .extract _ i, [.tuple l] => v l[i]?
  | .call { callee := .builtin b, argTypes, .. }, xs => tbuiltin P b argTypes xs R fun x => k x none
  | _, _ => none

noncomputable def rdT (o : Oper) (E : Env) : Operand → TV
  | .tmp t => if takes H f o then E.get t else (E.get t).dull
  | .const v => constTV (H.precise f || preciseOp o.op) v
  | .func g => .fn g [] []
  | .global _ => .any []
noncomputable def dullAtT (E : Env) (ts : List Tmp) : Env := ts.foldl (fun E t => E.set t (E.get t).dull) E
def rootOfT : Op → List TV → Option Root
  | .load .., .ptr r _ :: _ => some r
  | .store .., .ptr r _ :: _ => some r
  | _, _ => none
def rangeOfT : Op → List TV → Nat × Nat
  | .load t _, .ptr _ off :: _ => (off, if isAggT P t then P.cellsOf t else 1)
  | .store .., [.ptr _ off, x] => (off, x.cells.length)
  | _, _ => (0, 0)
def wptrsT : Op → List TV → List Root
  | .store .., [_, x] => x.ptrs
  | _, _ => []
def pureCallT : TV → List TV → Bool
  | .fn _ first cap, args => (ptrsTL (first ++ args ++ cap)).isEmpty
  | _, _ => false
end

/-! ### joins -/
noncomputable def TSt.get (st : TSt) (p : Place) : TV :=
  match p.lvl with
  | none => st.E.get p.slot
  | some l => match st.box ⟨l, p.slot⟩ with
    | some cs => cs.getD p.cell (.any [])
    | none => .any []
def subset (l m : List Root) : Bool := l.all fun r => m.contains r
def Place.isIn (lv : List Place) (l : Option Nat) (s c : Nat) : Bool := lv.any fun p => decide (p.lvl = l) && decide (p.slot = s) && decide (p.cell = c)
/-- all that is forgotten may be -/
noncomputable def TSt.forgets (st : TSt) (j : Join) : Bool :=
  (st.E.all fun t v => Bool.rec (motive := fun _ => Bool) true (Place.isIn j.lv none t 0 || subset v.ptrs j.rs) (j.D.has t)) &&
  (j.wr.all fun r => match st.box r with
    | some cs => (List.range cs.length).all fun i => Place.isIn j.lv (some r.lvl) r.slot i || subset (cs.getD i (.any [])).ptrs j.rs
    | none => true)
/-- what was written is what may be forgotten -/
def TSt.wrote (st : TSt) (j : Join) : Bool := st.Wt.sub j.D && (st.Wb.all fun r => j.wr.contains r || decide (st.L.length < r.lvl))
def anyB (rs : List Root) (b : TLevel) (s : Nat) : TLevel :=
  match lookT b s with
  | none => (s, none) :: b
  | some none => b
  | some (some cs) => setT b s (some (cs.map fun _ => .any rs))
def TSt.forget (st : TSt) (rs : List Root) (r : Root) : TSt :=
  if r.lvl = st.L.length then { st with B := anyB rs st.B r.slot } else { st with L := st.L.modify r.lvl fun b => anyB rs b r.slot }
noncomputable def TSt.setPlace (st : TSt) (p : Place) (v : TV) : TSt :=
  match p.lvl with
  | none => { st with E := st.E.set p.slot v }
  | some l => match st.box ⟨l, p.slot⟩ with
    | some cs => { st.setBox ⟨l, p.slot⟩ (cs.set p.cell v) with Wb := st.Wb }
    | none => st
noncomputable def setPlaces (st : TSt) : List Place → List TV → TSt
  | p :: ps, v :: vs => setPlaces (st.setPlace p v) ps vs
  | _, _ => st
/-- behind a join: what is forgotten, what goes on -/
noncomputable def TSt.rebuild (st : TSt) (j : Join) (vs : List TV) : TSt :=
  setPlaces { j.wr.foldl (fun st r => st.forget j.rs r) { st with E := forgetM j.D j.rs st.E } with Wt := j.D ++ st.Wt, Wb := j.wr ++ st.Wb } j.lv vs
def TSt.fresh (st : TSt) : TSt := { st with Wt := .empty, Wb := [] }
def TSt.merge (st st0 : TSt) : TSt := { st with Wt := st.Wt ++ st0.Wt, Wb := st.Wb ++ st0.Wb }
/-- boxes that are forgotten have as many cells as they had -/
def TSt.like (st st0 : TSt) (j : Join) : Bool := j.wr.all fun r => match st0.box r with
  | some cs => (match st.box r with
    | some cs2 => decide (cs2.length = cs.length)
    | none => false)
  | none => true
noncomputable def TSt.outs (st st0 : TSt) (j : Join) : Option (denL (j.ps.map (·.1))) :=
  if st.forgets j && st.wrote j && st.like st0 j then asL j.ps (j.lv.map st.get) else none

noncomputable def joinT (j : Option Join) (st : TSt) (run : TSt → (R : Type) → (Ex → TSt → Option R) → Option R) (R : Type) (k : Ex → TSt → Option R) : Option R :=
  match j with
  | none => run st R k
  | some j =>
    if j.abn then
      (run st.fresh (denL (j.ps.map (·.1)) ⊕ R) fun e st2 => match e with
        | .normal => (st2.outs st j).map .inl
        | e => (k e (st2.merge st)).map .inr).bind (Sum.elim (fun x => k .normal (st.rebuild j (ofL j.ps x))) some)
    else
      (run st.fresh (denL (j.ps.map (·.1))) fun e st2 => match e with
        | .normal => st2.outs st j
        | _ => none).bind fun x => k .normal (st.rebuild j (ofL j.ps x))

/-! ### the clearing at a loop's head -/
def clearTB (D : List Tmp) : TLevel → TLevel
  | [] => []
  | (k, c) :: l => if D.contains k then clearTB D l else (k, c) :: clearTB D l
noncomputable def clearTE (D : List Tmp) (E : Env) : Env := forgetM (Mask.ofList D) [] E
def ptrsTB : TLevel → List Root
  | [] => []
  | (_, some c) :: l => ptrsTL c ++ ptrsTB l
  | (_, none) :: l => ptrsTB l
def fullB : TLevel → Bool
  | [] => true
  | (_, c) :: l => c.isSome && fullB l
def goneB (D : List Tmp) (n : Nat) : TLevel → List Root
  | [] => []
  | (k, _) :: l => if D.contains k then ⟨n, k⟩ :: goneB D n l else goneB D n l
noncomputable def TSt.clear (D : List Tmp) (st : TSt) : Option TSt :=
  let E := clearTE D st.E
  let B := clearTB D st.B
  if decide (B.length = st.B.length) || ((E.all fun _ v => okPtrs st.L.length D v.ptrs) && okPtrs st.L.length D (ptrsTB B) && fullB B) then some { st with E, B, Wt := Mask.ofList D ++ st.Wt, Wb := goneB D st.L.length st.B ++ st.Wb } else none

structure TOrc where
  call : List Tmp → FuncId → List TV → List TLevel → (R : Type) → (TV → List TLevel → List Root → Option R) → Option R
  code : List Tmp → FuncId → Nat → Code → TSt → (R : Type) → (Ex → TSt → Option R) → Option R

def lastSplitT : List TLevel → Option (List TLevel × TLevel)
  | [] => none
  | [b] => some ([], b)
  | b :: c :: l => (lastSplitT (c :: l)).map fun (x, y) => (b :: x, y)

section
variable (P : Program) (H : Hints) (J : TH) (T : CallT) (O : TOrc) (ctx : List Tmp) (f : FuncId)

noncomputable def callVT (d : Tmp) (fv : TV) (args : List TV) (st : TSt) (R : Type) (k : TV → TSt → Option R) : Option R :=
  match fv with
  | .fn g first cap =>
    if knownL (first ++ args ++ cap) then
      (if (ptrsTL (first ++ args ++ cap)).isEmpty then
        (if J.inl ctx f d then O.call (d :: ctx) g (shareL (first ++ args ++ cap)) [] R fun r M _ => match M with
          | [] => k (if tightL (first ++ args ++ cap) then r else r.loosen) st
          | _ => none
        else T g (shareL (first ++ args ++ cap)) R fun r => k (if tightL (first ++ args ++ cap) then r else r.loosen) st)
      else if H.peek g then none
      else O.call (d :: ctx) g (dullL (first ++ args ++ cap)) (st.L ++ [st.B]) R fun r M wb => match lastSplitT M with
        | some (L, B) => if L.length = st.L.length then k r { st with L, B, Wb := wb ++ st.Wb } else none
        | none => none)
    else none
  | _ => none

/-- an operation behind its operands -/
noncomputable def stepMT (o : Oper) (xs : List TV) (st : TSt) (R : Type) (k : TV → TSt → Fp → Option R) : Option R :=
  match o.op with
  | .alloc t => match o.dst, zeroT P H f t with
    | some d, some z => if (lookT st.B d).isNone then k (.ptr ⟨st.L.length, d⟩ 0) { st with B := (d, some z.cells) :: st.B, Wb := ⟨st.L.length, d⟩ :: st.Wb } (.fresh ⟨st.L.length, d⟩) else none
    | _, _ => none
  | .box t _ => match o.dst, xs with
    | some d, [x] => if (lookT st.B d).isNone ∧ x.cells.length = P.cellsOf t ∧ x.oks = true then k (.ptr ⟨st.L.length, d⟩ 0) { st with B := (d, some x.cells) :: st.B, Wb := ⟨st.L.length, d⟩ :: st.Wb } (.fresh ⟨st.L.length, d⟩) else none
    | _, _ => none
  | .call { callee := .value _, .. } => match xs with
    | fv :: args => callVT H J T O ctx f (o.dst.getD 0) fv args st R fun v s => k v s (if pureCallT fv args then .none else .all)
    | [] => none
  | op => match rootOfT op xs with
    | none => topSem P H f (takes H f o) op xs none R fun v c => match c with
      | none => k v st .none
      | some _ => none
    | some r => topSem P H f (takes H f o) op xs (st.box r) R fun v c => match c with
      | none => k v st (.root r (rangeOfT P op xs).1 (rangeOfT P op xs).2 false)
      | some c => if (wptrsT op xs).all (fun p => decide (p.lvl ≤ r.lvl)) && decide ((rangeOfT P op xs).1 + (rangeOfT P op xs).2 ≤ c.length) then k v (st.setBox r c) (.root r (rangeOfT P op xs).1 (rangeOfT P op xs).2 true) else none

noncomputable def stepFpT (o : Oper) (st : TSt) (R : Type) (k : TSt → Fp → Option R) : Option R :=
  if takes H f o && !nodupT (tmpsOf o) then none else
  stepMT P H J T O ctx f o (o.op.operands.toList.map (rdT H f o st.E)) (if takes H f o then { st with E := dullAtT st.E (tmpsOf o), Wt := Mask.ofList ((tmpsOf o).filter (fun t => (st.E.get t).owns)) ++ st.Wt } else st) R fun v s fp => k (s.put o.dst v) fp

/-- by its guard -/
noncomputable def gateT (ops : Array Oper) (o : Oper) (st : TSt) (R : Type) (yes no : TSt → Option R) : Option R :=
  match o.guard with
  | none => yes st
  | some (j, want) => match (ops[j]?).bind (·.dst) with
    | some t => match st.E.get t with
      | .t .bool _ b => bif b then (let st1 : TSt := { st with E := st.E.set t (.t .bool 0 true) }; if want then yes st1 else no st1)
          else (let st1 : TSt := { st with E := st.E.set t (.t .bool 0 false) }; if want then no st1 else yes st1)
      | .val (.tuple vs) => if vs.size = 0 then no st else none
      | _ => none
    | none => none

noncomputable def execT (ops : Array Oper) : List Nat → TSt → (R : Type) → (TSt → Option R) → Option R
  | [], st, _, k => k st
  | i :: rest, st, R, k =>
    match ops[i]? with
    | none => none
    | some o => gateT ops o st R (fun st => stepFpT P H J T O ctx f o st R fun st' _ => execT ops rest st' R k) (fun st => execT ops rest (st.put o.dst (.val undef)) R k)

noncomputable def tookAtT (o : Oper) (E : Env) : List Tmp := if takes H f o then (tmpsOf o).filter fun t => (E.get t).owns else []
/-- with what each touched -/
noncomputable def execRT (ops : Array Oper) : List Nat → TSt → List (Nat × Foot) → (R : Type) → (TSt → List (Nat × Foot) → Option R) → Option R
  | [], st, fps, _, k => k st fps
  | i :: rest, st, fps, R, k =>
    match ops[i]? with
    | none => none
    | some o => gateT ops o st R
        (fun st => stepFpT P H J T O ctx f o st R fun st' fp => execRT ops rest st' ((i, ⟨fp, tookAtT H f o st.E, looksAt ops o⟩) :: fps) R k)
        (fun st => execRT ops rest (st.put o.dst (.val undef)) ((i, ⟨.none, [], looksAt ops o⟩) :: fps) R k)

/-! ### stores into owners' elements -/
noncomputable def idxOfT (E : Env) : Operand → Option Int
  | .tmp t => tint (E.get t)
  | .const v => match v with
    | .int _ n => some n
    | _ => none
  | _ => none
noncomputable def lkPathT (ops : Array Oper) (E : Env) : Nat → Nat → Tmp → Option (Rt × List (Int × Nat × Nat) × Bool)
  | 0, _, _ => none
  | n + 1, k, d => if H.link f d = false then some (.tmp d, [], false) else
    match defAt ops k d with
    | none => none
    | some c => match (ops[c]?).map Oper.op with
      | some (.move (.tmp a)) => lkPathT ops E n c a
      | some (.indexAddr t (.tmp a) i) =>
        match lkPathT ops E n c a, idxOfT E i, P.underlying t with
        | some (r, p, false), some j, some (.slice elem) => some (r, (j, 0, P.cellsOf elem) :: p, true)
        | _, _, _ => none
      | some (.fieldAddr t (.tmp a) fd) =>
        match lkPathT ops E n c a, fieldOff P t fd with
        | some (r, (j, o, s) :: p, true), some o' => some (r, (j, o + o', s) :: p, true)
        | _, _ => none
      | some (.load t (.tmp a)) =>
        if isAggT P t then none else
        if H.link f a then (match lkPathT ops E n c a with
          | some (r, p, true) => some (r, p, false)
          | _ => none)
        else match E.get a with
          | .ptr r off => some (.box r off, [], false)
          | _ => none
      | _ => none
def recellT (e : TV) (cs : List TV) : TV :=
  match e with
  | .agg _ => .agg cs
  | _ => cs.headD (.any [])
def updT (ys : List TV) : List (Int × Nat × Nat) → TV → (R : Type) → (TV → Option R) → Option R
  | (i, o, s) :: p, .t (.sl τ) lv l, R, k =>
    if isOwn lv = true ∧ τ.ncells = s ∧ s ≠ 0 ∧ τ.ok = true ∧ τ.elemOk = true then
      (idx l i).bind fun e => match p with
        | [] => if o + ys.length ≤ s then (match asTy τ (nx lv) (recellT (ofTy τ (nx lv) e) (spliceT (ofTy τ (nx lv) e).cells o ys)) with
            | some e' => k (.t (.sl τ) lv (l.set i.toNat e'))
            | none => none) else none
        | _ :: _ => match (ofTy τ (nx lv) e).cells[o]? with
          | some z => updT ys p z R fun z' => match asTy τ (nx lv) (recellT (ofTy τ (nx lv) e) ((ofTy τ (nx lv) e).cells.set o z')) with
            | some e' => k (.t (.sl τ) lv (l.set i.toNat e'))
            | none => none
          | none => none
    else none
  | _, _, _, _ => none
def hardTB (b : TLevel) : TLevel := b.map fun p => (p.1, p.2.map (List.map TV.hard))
noncomputable def softT (E : Env) : Mask := E.mask fun x => !(x.firm || x.isAny)
def softB : TLevel → List Root
  | [] => []
  | (_, none) :: b => softB b
  | (k, some c) :: b => if c.all TV.firm then softB b else ⟨0, k⟩ :: softB b
/-- what is soft is forgotten -/
noncomputable def TSt.soften (st : TSt) (T : List Tmp) : TSt :=
  { st with E := (dullAtT st.E T).mapI (fun _ v => v.hard), B := hardTB st.B, Wt := Mask.ofList (T.filter (fun t => (st.E.get t).owns)) ++ (softT (dullAtT st.E T) ++ st.Wt), Wb := softB st.B ++ st.Wb }
noncomputable def lsT (ops : Array Oper) (s : Nat) (o : Oper) (st : TSt) (R : Type) (k : TSt → Option R) : Option R :=
  match o.op with
  | .store t (.tmp d) xo =>
    let x := rdT H f o st.E xo
    if st.L.isEmpty && o.dst.isNone && o.guard.isNone && nodupT (tmpsOf o) && decide (P.cellsOf t ≠ 0) && decide (x.cells.length = P.cellsOf t) && x.oks && x.ptrs.isEmpty then
      match lkPathT P H f ops st.E ops.size s d with
      | some (.tmp r, p, true) => if (tmpsOf o).contains r then none else
        updT x.cells p.reverse (st.E.get r) R fun y => if y.firm then k ((st.soften (tmpsOf o)).put (some r) y) else none
      | some (.box q off, p, true) => match st.box q with
        | some cs => match cs[off]? with
          | some z => updT x.cells p.reverse z R fun y => if y.firm then k ((st.soften (tmpsOf o)).setBox q ((cs.map TV.hard).set off y)) else none
          | none => none
        | none => none
      | _ => none
    else none
  | _ => none
def isCptrT : TV → Bool
  | .cptr _ => true
  | _ => false
noncomputable def lkGateT (o : Oper) (E : Env) : Bool :=
  !isLk H f o || ((match o.dst with
    | some d => decide (d < E.n)
    | none => true) && (match o.op with
    | .load _ (.tmp a) => !H.link f a || isCptrT (E.get a)
    | _ => true))
noncomputable def execLT (ops : Array Oper) : List Nat → TSt → List (Nat × Foot) → (R : Type) → (TSt → List (Nat × Foot) → Option R) → Option R
  | [], st, fps, _, k => k st fps
  | i :: rest, st, fps, R, k =>
    match ops[i]? with
    | none => none
    | some o => if isLs H f o then lsT P H f ops i o st R fun st' => execLT ops rest st' ((i, ⟨.all, [], looksAt ops o⟩) :: fps) R k
      else if isAp H f o then none
      else if lkGateT H f o st.E then gateT ops o st R
        (fun st => stepFpT P H J T O ctx f o st R fun st' fp => execLT ops rest st' ((i, ⟨fp, tookAtT H f o st.E, looksAt ops o⟩) :: fps) R k)
        (fun st => execLT ops rest (st.put o.dst (.val undef)) ((i, ⟨.none, [], looksAt ops o⟩) :: fps) R k)
      else none

def tmpOf : Operand → Tmp
  | .tmp t => t
  | _ => 0

/-- what is ahead of each operation, as masks -/
def ancsM (ops : List Oper) : List Mask :=
  ops.foldl (fun acc o => acc ++ [(boundE o).foldl (fun m j => Mask.ins j (m ++ acc.getD j .empty)) .empty]) []
def regionOkM (U : List (Nat × Nat)) (ops : Array Oper) : Bool :=
  let as := ancsM ops.toList
  (List.range ops.size).all fun i =>
    match ops[i]? with
    | none => false
    | some y => (boundE y).all (fun j => decide (j < i)) && (List.range i).all fun j =>
      (as.getD i .empty).has j || match ops[j]? with
        | none => false
        | some x => dstApart ops x y && (textApart H f ops x y || U.contains (j, i))
def beforM (draw : Bool) (as : List Mask) (i c : Nat) : Bool := if draw then (as.getD c .empty).has i else decide (i < c)
def linkOneM (draw : Bool) (as : List Mask) (ops : Array Oper) (lone : Bool) (c : Nat) (oc : Oper) : Bool :=
  (!isLk H f oc || (oc.guard.isNone && (match oc.dst with
      | some d => !(tmpsOf oc).contains d
      | none => true) && (List.range ops.size).all fun i => i == c || beforM draw as i c || match ops[i]? with
        | some oi => okAfter H f oc oi
        | none => false)) &&
  (!isLs H f oc || (oc.guard.isNone && (List.range ops.size).all fun i => i == c || beforM draw as i c || beforM draw as c i)) &&
  (!(isLk H f oc && nestLoad H f oc) || lone) &&
  (!isAp H f oc || (List.range ops.size).any fun s => beforM draw as c s && match ops[s]? with
    | some os => isLs H f os
    | none => false) &&
  (!isAp H f oc || (List.range ops.size).all fun i => i == c || beforM draw as i c || beforM draw as c i || match ops[i]? with
    | some oi => freeMv H f ops c oc oi
    | none => false)
def linkOkM (draw : Bool) (ops : Array Oper) : Bool :=
  let as := ancsM ops.toList
  let lone := decide ((ops.toList.filter (isLs H f)).length ≤ 1)
  (List.range ops.size).all fun c => match ops[c]? with
    | some oc => linkOneM H f draw as ops lone c oc
    | none => false

noncomputable def tx (bid : Nat) : Code → TSt → (R : Type) → (Ex → TSt → Option R) → Option R
  | .skip, st, _, k => k .normal st
  | .region id ops draw, st, R, k => joinT (J.join ctx f (.region id)) st (fun st R k =>
      if hasLs H f ops then
        (if linkOkM H f draw ops && (!draw || regionOkM H f (H.pairs f id) ops) then
          execLT P H J T O ctx f ops (List.range ops.size) st [] R fun st fps => if !draw || noConf (H.pairs f id) fps then k .normal st else none
        else none)
      else if draw then
        (if regionOkM H f (H.pairs f id) ops then
          match H.pairs f id with
          | [] => execT P H J T O ctx f ops (List.range ops.size) st R fun st => k .normal st
          | U => execRT P H J T O ctx f ops (List.range ops.size) st [] R fun st fps => if noConf U fps then k .normal st else none
        else none)
      else execT P H J T O ctx f ops (List.range ops.size) st R fun st => k .normal st) R k
  | .seq a b, st, R, k => tx bid a st R fun e st => match e with
    | .normal => tx bid b st R k
    | e => k e st
  | .cond c a b, st, R, k => joinT (J.join ctx f (.cond (tmpOf c))) st (fun st R k => match rdT H f default st.E c with
      | .t .bool _ t => bif t then tx bid a st R k else tx bid b st R k
      | _ => none) R k
  | .block id c, st, R, k => joinT (J.join ctx f (.block id)) st (fun st R k => tx id c st R fun e st => match e with
      | .exit i => if i = id then k .normal st else k (.exit i) st
      | e => k e st) R k
  | .loop c, st, R, k => match J.join ctx f (.loop bid) with
    | some j =>
      if st.forgets j then
        (asL j.ps (j.lv.map st.get)).bind fun x0 =>
          loopO (fun x => match (st.fresh.rebuild j (ofL j.ps x)).clear (H.clear f bid) with
            | some st1 => tx bid c st1 (denL (j.ps.map (·.1)) ⊕ R) fun e st2 => match e with
              | .normal => (st2.outs st j).map .inl
              | e => (k e (st2.merge st)).map .inr
            | none => none) x0
      else none
    | none => match st.clear (H.clear f bid) with
      | some st => tx bid c st R fun e st => match e with
        | .normal => O.code ctx f bid (.loop c) st R k
        | e => k e st
      | none => none
  | .exit id, st, _, k => k (.exit id) st
  | .ret, st, _, k => k .ret st
  | _, _, _, _ => none

noncomputable def resultT (st : TSt) : ResultVar → Option TV
  | .tmp t => some (st.E.get t)
  | .cell a t => match st.E.get a with
    | .ptr r off => match st.box r with
      | some cs => ofCellsT P t (cs.drop off)
      | none => none
    | _ => none
def allSomeT : List (Option TV) → Option (List TV)
  | [] => some []
  | some v :: l => (allSomeT l).map (v :: ·)
  | none :: _ => none
noncomputable def resultKeyT (st : TSt) : ResultVar → Option (Bool × Nat × Nat)
  | .tmp t => some (false, t, 0)
  | .cell a _ => match st.E.get a with
    | .ptr r _ => some (true, r.lvl, r.slot)
    | _ => none
def allKeys : List (Option (Bool × Nat × Nat)) → Option (List (Bool × Nat × Nat))
  | [] => some []
  | some v :: l => (allKeys l).map (v :: ·)
  | none :: _ => none
def packedT : List TV → TV
  | [r] => r
  | rs => .tuple rs
noncomputable def runT (args : List TV) (M : List TLevel) (R : Type) (k : TV → List TLevel → List Root → Option R) : Option R :=
  if J.lib f then none else
  match P.funcs[f]? with
  | some fn => match fn.body with
    | some c => joinT (J.join ctx f (.inl 0)) { E := Env.ofArgs args fn.ntmps, L := M, B := [], Wt := .empty, Wb := [] }
        (fun st R k => tx P H J T O ctx f 0 c st R fun e st => match e with
          | .normal => k .normal st
          | .ret => k .normal st
          | _ => none) R fun _ st =>
      match allSomeT (fn.results.toList.map (resultT P st)), allKeys (fn.results.toList.map (resultKeyT st)) with
      | some rs, some ks => if knownL rs && ((ptrsTL rs).all fun r => decide (r.lvl < M.length)) && keysOk M.length ks then k (packedT rs) st.L st.Wb else none
      | _, _ => none
    | none => none
  | none => none
end

/-- with fuel -/
noncomputable def torcN (P : Program) (H : Hints) (J : TH) (T : CallT) : Nat → TOrc
  | 0 => { call := fun _ _ _ _ _ _ => none, code := fun _ _ _ _ _ _ _ => none }
  | n + 1 => {
      call := fun ctx g args M R k => runT P H J T (torcN P H J T n) ctx g args M R k
      code := fun ctx f bid c st R k => tx P H J T (torcN P H J T n) ctx f bid c st R k }

def asRes : (rs : List (Ty × Nat)) → TV → Option (denL (rs.map (·.1)))
  | [p], r => asL [p] [r]
  | rs, .tuple l => asL rs l
  | _, _ => none
/-- WHAT A FUNCTION COMPUTES, of typed arguments: ps its parameters' types, rs its results' types and whose they are -/
noncomputable def fnT (P : Program) (H : Hints) (J : TH) (T : CallT) (n : Nat) (g : FuncId) (args : List TV) (rs : List (Ty × Nat)) : Option (denL (rs.map (·.1))) :=
  (torcN P H J T n).call [] g args [] _ fun r M _ => match M with
    | [] => asRes rs r
    | _ => none

/-- a parameter: data; a function with what it captured -/
inductive Pm where
  | ty (τ : Ty)
  | fn (g : FuncId) (caps : List Ty)
@[reducible] def Pm.den : Pm → Type
  | .ty τ => τ.den
  | .fn _ cs => denL cs
@[reducible] def denP : List Pm → Type
  | [] => Unit
  | [p] => p.den
  | p :: q :: l => p.den × denP (q :: l)
def with0 (cs : List Ty) : List (Ty × Nat) := cs.map fun τ => (τ, 0)
def asTys : (cs : List Ty) → List TV → Option (denL cs)
  | [], [] => some ()
  | [τ], [v] => asTy τ 1000 v
  | τ :: q :: ps, v :: l => (asTy τ 1000 v).bind fun x => (asTys (q :: ps) l).bind fun y => some (x, y)
  | _, _ => none
def ofTys : (cs : List Ty) → denL cs → List TV
  | [], _ => []
  | [τ], x => [ofTy τ 1000 x]
  | τ :: q :: ps, x => ofTy τ 1000 x.1 :: ofTys (q :: ps) x.2
def asPm : (p : Pm) → TV → Option p.den
  | .ty τ, v => asTy τ 1000 v
  | .fn g cs, .fn g' [] cap => if g = g' then asTys cs cap else none
  | _, _ => none
def ofPm : (p : Pm) → p.den → TV
  | .ty τ, x => ofTy τ 1000 x
  | .fn g cs, x => .fn g [] (ofTys cs x)
def asPms : (ps : List Pm) → List TV → Option (denP ps)
  | [], [] => some ()
  | [p], [v] => asPm p v
  | p :: q :: ps, v :: l => (asPm p v).bind fun x => (asPms (q :: ps) l).bind fun y => some (x, y)
  | _, _ => none
def ofPms : (ps : List Pm) → denP ps → List TV
  | [], _ => []
  | [p], x => [ofPm p x]
  | p :: q :: ps, x => ofPm p x.1 :: ofPms (q :: ps) x.2

/-- a function that is known -/
structure Entry where
  g : FuncId
  ps : List Pm
  rs : List (Ty × Nat)
  F : denP ps → Option (denL (rs.map (·.1)))
def packT (rs : List (Ty × Nat)) (x : denL (rs.map (·.1))) : TV := packedT (ofL rs x)
/-- the table of known functions -/
def tabT : List Entry → CallT
  | [], _, _, _, _ => none
  | e :: l, g, args, R, k => if e.g = g then (match asPms e.ps args with
      | some x => (e.F x).bind fun y => k (packT e.rs y)
      | none => tabT l g args R k) else tabT l g args R k
end Go.Tx
end
section
/-
  WHAT A TYPED VALUE SAYS OF AN ABSTRACT ONE.
-/
set_option linter.unusedVariables false
namespace Go.Tx
open Go Go.Ab

inductive All2 {α β : Type} (R : α → β → Prop) : List α → List β → Prop
  | nil : All2 R [] []
  | cons {a b l l'} : R a b → All2 R l l' → All2 R (a :: l) (b :: l')

section
variable {α β : Type} {R S : α → β → Prop}
theorem All2.length {l : List α} {l' : List β} (h : All2 R l l') : l'.length = l.length := by
  induction h with
  | nil => rfl
  | cons _ _ ih => simp [ih]
theorem All2.mono (hrs : ∀ a b, R a b → S a b) {l : List α} {l' : List β} (h : All2 R l l') : All2 S l l' := by
  induction h with
  | nil => exact .nil
  | cons h1 _ ih => exact .cons (hrs _ _ h1) ih
theorem All2.append {l m : List α} {l' m' : List β} (h : All2 R l l') (h' : All2 R m m') : All2 R (l ++ m) (l' ++ m') := by
  induction h with
  | nil => exact h'
  | cons h1 _ ih => exact .cons h1 ih
theorem All2.take {l : List α} {l' : List β} (h : All2 R l l') : ∀ n, All2 R (l.take n) (l'.take n) := by
  induction h with
  | nil => intro n; simp; exact .nil
  | cons h1 _ ih => intro n; cases n with
    | zero => exact .nil
    | succ n => exact .cons h1 (ih n)
theorem All2.drop {l : List α} {l' : List β} (h : All2 R l l') : ∀ n, All2 R (l.drop n) (l'.drop n) := by
  induction h with
  | nil => intro n; simp; exact .nil
  | cons h1 h2 ih => intro n; cases n with
    | zero => exact .cons h1 h2
    | succ n => exact ih n
theorem All2.get {l : List α} {l' : List β} (h : All2 R l l') : ∀ {i : Nat} {a : α}, l[i]? = some a → ∃ b, l'[i]? = some b ∧ R a b := by
  induction h with
  | nil => intro i a h; simp at h
  | cons h1 h2 ih => intro i a h; cases i with
    | zero => simp at h; subst h; exact ⟨_, rfl, h1⟩
    | succ n => exact ih (by simpa using h)
theorem All2.replicate {a : α} {b : β} (h : R a b) : ∀ n, All2 R (List.replicate n a) (List.replicate n b)
  | 0 => .nil
  | n + 1 => .cons h (All2.replicate h n)
theorem All2.map {γ : Type} {g : β → γ} {S : α → γ → Prop} (hrs : ∀ a b, R a b → S a (g b)) {l : List α} {l' : List β} (h : All2 R l l') : All2 S l (l'.map g) := by
  induction h with
  | nil => exact .nil
  | cons h1 _ ih => exact .cons (hrs _ _ h1) ih
theorem All2.all {p : β → Prop} (hp : ∀ a b, R a b → p b) {l : List α} {l' : List β} (h : All2 R l l') : ∀ b ∈ l', p b := by
  induction h with
  | nil => simp
  | cons h1 _ ih => intro b hb; rcases List.mem_cons.1 hb with rfl | hb
                    · exact hp _ _ h1
                    · exact ih b hb
end

/-- what a level says of a flag -/
def FlR (o : Nat) (f : Fl) : Prop := (o ≠ 2000 → (f = .own ↔ isOwn o = true)) ∧ (o = 1000 → f = .shared)
def RTy : (τ : Ty) → Nat → τ.den → V → Prop
  | .int k, _, n, v => v = .val (.int k n)
  | .bool, _, b, v => v = .val (.bool b)
  | .str, _, s, v => v = .val (.string ⟨s.toArray⟩)
  | .sl t, o, l, v => ∃ f c l', v = .sl f c l' ∧ FlR o f ∧ All2 (RTy t (nx o)) l l'
  | .unit, _, _, v => v = .agg []
  | .pair a b, o, x, v => ∃ v1 l, v = .agg (v1 :: l) ∧ RTy a o x.1 v1 ∧ RTy b o x.2 (.agg l)

mutual
def RV : TV → V → Prop
  | .any rs, v => (∀ r ∈ v.ptrs, r ∈ rs) ∧ isLp [v] = false
  | .t τ o x, v => RTy τ o x v
  | .clp τ x, v => ∃ f l', v = .sl f true l' ∧ f ≠ .own ∧ All2 (RTy τ 0) x l'
  | .empty o, v => ∃ f c, v = .sl f c [] ∧ FlR o f
  | .val u, v => v = .val u
  | .agg l, v => ∃ l', v = .agg l' ∧ RVL l l'
  | .tuple l, v => ∃ l', v = .tuple l' ∧ RVL l l'
  | .fn g a b, v => ∃ a' b', v = .fn g a' b' ∧ RVL a a' ∧ RVL b b'
  | .ptr r o, v => v = .ptr r o
  | .cptr l, v => ∃ f l', v = .cptr f l' ∧ f ≠ .own ∧ RVL l l'
  | .iface t x, v => ∃ y, v = .iface t y ∧ RV x y
def RVL : List TV → List V → Prop
  | [], l => l = []
  | x :: l, l' => ∃ v m, l' = v :: m ∧ RV x v ∧ RVL l m
end

theorem rvl_cons {x : TV} {l : List TV} {v : V} {m : List V} : RVL (x :: l) (v :: m) ↔ RV x v ∧ RVL l m := by
  simp only [RVL, List.cons.injEq]
  exact ⟨fun ⟨_, _, ⟨rfl, rfl⟩, h1, h2⟩ => ⟨h1, h2⟩, fun ⟨h1, h2⟩ => ⟨_, _, ⟨rfl, rfl⟩, h1, h2⟩⟩
theorem rvl_nil : RVL [] [] := by simp [RVL]
theorem RVL.length : ∀ {l : List TV} {l' : List V}, RVL l l' → l'.length = l.length
  | [], l', h => by simp only [RVL] at h; simp [h]
  | x :: l, l', h => by simp only [RVL] at h; obtain ⟨v, m, rfl, _, h2⟩ := h; simp [RVL.length h2]
theorem RVL.append : ∀ {l m : List TV} {l' m' : List V}, RVL l l' → RVL m m' → RVL (l ++ m) (l' ++ m')
  | [], m, l', m', h, h' => by simp only [RVL] at h; simpa [h] using h'
  | x :: l, m, l', m', h, h' => by
    simp only [RVL] at h; obtain ⟨v, n, rfl, h1, h2⟩ := h
    exact rvl_cons.2 ⟨h1, RVL.append h2 h'⟩
theorem RVL.take : ∀ {l : List TV} {l' : List V} (n : Nat), RVL l l' → RVL (l.take n) (l'.take n)
  | _, _, 0, h => by simp [RVL]
  | [], l', n + 1, h => by simp only [RVL] at h; simp [h, RVL]
  | x :: l, l', n + 1, h => by
    simp only [RVL] at h; obtain ⟨v, m, rfl, h1, h2⟩ := h
    exact rvl_cons.2 ⟨h1, RVL.take n h2⟩
theorem RVL.drop : ∀ {l : List TV} {l' : List V} (n : Nat), RVL l l' → RVL (l.drop n) (l'.drop n)
  | _, _, 0, h => by simpa using h
  | [], l', n + 1, h => by simp only [RVL] at h; simp [h, RVL]
  | x :: l, l', n + 1, h => by
    simp only [RVL] at h; obtain ⟨v, m, rfl, h1, h2⟩ := h
    exact RVL.drop n h2
theorem RVL.get : ∀ {l : List TV} {l' : List V} {i : Nat} {x : TV}, RVL l l' → l[i]? = some x → ∃ v, l'[i]? = some v ∧ RV x v
  | [], l', i, x, h, hi => by simp at hi
  | y :: l, l', 0, x, h, hi => by
    simp only [RVL] at h; obtain ⟨v, m, rfl, h1, h2⟩ := h
    simp at hi; subst hi; exact ⟨v, rfl, h1⟩
  | y :: l, l', i + 1, x, h, hi => by
    simp only [RVL] at h; obtain ⟨v, m, rfl, h1, h2⟩ := h
    have hi' : l[i]? = some x := by simpa using hi
    obtain ⟨u, hu, hr⟩ := RVL.get h2 hi'
    exact ⟨u, by simpa using hu, hr⟩
theorem RVL.set : ∀ {l : List TV} {l' : List V} (i : Nat) {x : TV} {v : V}, RVL l l' → RV x v → RVL (l.set i x) (l'.set i v)
  | [], l', i, x, v, h, hx => by simp only [RVL] at h; simp [h, RVL]
  | y :: l, l', 0, x, v, h, hx => by
    simp only [RVL] at h; obtain ⟨u, m, rfl, h1, h2⟩ := h
    exact rvl_cons.2 ⟨hx, h2⟩
  | y :: l, l', i + 1, x, v, h, hx => by
    simp only [RVL] at h; obtain ⟨u, m, rfl, h1, h2⟩ := h
    exact rvl_cons.2 ⟨h1, RVL.set i h2 hx⟩
theorem rv_undef (rs : List Root) : RV (.any rs) .undef := by simp [RV, V.ptrs, isLp]
theorem RVL.getD {l : List TV} {l' : List V} (h : RVL l l') (i : Nat) : RV (l.getD i (.any [])) (l'.getD i .undef) := by
  cases hi : l[i]? with
  | some x => obtain ⟨v, hv, hr⟩ := h.get hi; simpa [hi, hv] using hr
  | none =>
    have : l'[i]? = none := by rw [List.getElem?_eq_none_iff] at hi ⊢; rw [h.length]; exact hi
    simp only [List.getD_eq_getElem?_getD, hi, this, Option.getD_none]; exact rv_undef []
theorem RVL.replicate {x : TV} {v : V} (h : RV x v) : ∀ n, RVL (List.replicate n x) (List.replicate n v)
  | 0 => by simp [RVL]
  | n + 1 => rvl_cons.2 ⟨h, RVL.replicate h n⟩
theorem RVL.flatten : ∀ {n : Nat} {l : List TV} {l' : List V}, RVL l l' → RVL (List.replicate n l).flatten (List.replicate n l').flatten
  | 0, _, _, _ => by simp [RVL]
  | n + 1, l, l', h => by simp only [List.replicate_succ, List.flatten_cons]; exact h.append (RVL.flatten h)
theorem RVL.head {l : List TV} {l' : List V} {x : TV} (h : RVL l l') (hx : l.head? = some x) : ∃ v, l'.head? = some v ∧ RV x v := by
  cases l with
  | nil => simp at hx
  | cons y l =>
    simp only [RVL] at h; obtain ⟨u, m, rfl, h1, h2⟩ := h
    simp at hx; subst hx; exact ⟨u, rfl, h1⟩

/-! ### pointers -/
theorem ptrsL_agg (l : List V) : (V.agg l).ptrs = ptrsL l := by simp [V.ptrs]
theorem isOwn_iff {o : Nat} : isOwn o = true ↔ o ≠ 0 ∧ o ≠ 1000 ∧ o ≠ 2000 := by unfold isOwn; simp
theorem isOwn_not {o : Nat} : isOwn o = false ↔ o = 0 ∨ o = 1000 ∨ o = 2000 := by
  have := @isOwn_iff o
  cases h : isOwn o with
  | true => rw [h] at this; simp at this; simp; omega
  | false => rw [h] at this; simp at this; simp; omega
theorem FlR.own {o : Nat} {f : Fl} (h : FlR o f) (ho : isOwn o = true) : f = .own := (h.1 (isOwn_iff.1 ho).2.2).2 ho
theorem FlR.not {o : Nat} {f : Fl} (h : FlR o f) (ho : isOwn o = false) (h2 : o ≠ 2000) : f ≠ .own := fun e => by have := (h.1 h2).1 e; rw [ho] at this; cases this
theorem flr_own {o : Nat} (h : isOwn o = true) : FlR o .own := ⟨fun _ => by simp [h], fun e => absurd e (isOwn_iff.1 h).2.1⟩
theorem flr_of {o : Nat} {f : Fl} (ho : isOwn o = false) (hf : f ≠ .own) (h1 : o = 1000 → f = .shared) : FlR o f := ⟨fun _ => by simp [hf, ho], h1⟩
theorem dl_not (o : Nat) : isOwn (dl o) = false ∧ dl o ≠ 2000 ∧ nx (dl o) = dl o := by
  have h1 : isOwn (dl o) = false := by rw [isOwn_not]; unfold dl; split <;> simp
  refine ⟨h1, by unfold dl; split <;> simp, by unfold nx; rw [h1]; rfl⟩
theorem rty_ptrs : ∀ (τ : Ty) (o : Nat) (x : τ.den) (v : V), RTy τ o x v → v.ptrs = []
  | .int _, _, _, v, h => by simp only [RTy] at h; simp [h, V.ptrs]
  | .bool, _, _, v, h => by simp only [RTy] at h; simp [h, V.ptrs]
  | .str, _, _, v, h => by simp only [RTy] at h; simp [h, V.ptrs]
  | .sl t, o, l, v, h => by simp only [RTy] at h; obtain ⟨f, c, l', rfl, _⟩ := h; simp [V.ptrs]
  | .unit, _, _, v, h => by simp only [RTy] at h; simp [h, V.ptrs, ptrsL]
  | .pair a b, o, x, v, h => by
    simp only [RTy] at h; obtain ⟨v1, l, rfl, h1, h2⟩ := h
    have e1 := rty_ptrs a o _ _ h1
    have e2 := rty_ptrs b o _ _ h2
    simp only [V.ptrs] at e2
    simp [V.ptrs, ptrsL, e1, e2]
theorem ptrsL_mem {l : List V} {r : Root} : r ∈ ptrsL l ↔ ∃ v ∈ l, r ∈ v.ptrs := by
  induction l with
  | nil => simp [ptrsL]
  | cons v l ih => simp [ptrsL, ih]
mutual
theorem RV.ptrs : ∀ (x : TV) (v : V), RV x v → ∀ r ∈ v.ptrs, r ∈ x.ptrs
  | .any rs, v, h, r, hr => by simp only [RV] at h; exact h.1 r hr
  | .t τ o x, v, h, r, hr => by simp only [RV] at h; rw [rty_ptrs τ o x v h] at hr; cases hr
  | .clp τ x, v, h, r, hr => by simp only [RV] at h; obtain ⟨f, l', rfl, _⟩ := h; simp [V.ptrs] at hr
  | .empty own, v, h, r, hr => by simp only [RV] at h; obtain ⟨f, c, rfl, _⟩ := h; simp [V.ptrs] at hr
  | .val u, v, h, r, hr => by simp only [RV] at h; simp [h, V.ptrs] at hr
  | .agg l, v, h, r, hr => by simp only [RV] at h; obtain ⟨l', rfl, h⟩ := h; simp only [V.ptrs] at hr; exact RVL.ptrs l l' h r hr
  | .tuple l, v, h, r, hr => by simp only [RV] at h; obtain ⟨l', rfl, h⟩ := h; simp only [V.ptrs] at hr; exact RVL.ptrs l l' h r hr
  | .fn g a b, v, h, r, hr => by
    simp only [RV] at h; obtain ⟨a', b', rfl, h1, h2⟩ := h
    simp only [V.ptrs, List.mem_append] at hr
    simp only [TV.ptrs, List.mem_append]
    exact hr.imp (RVL.ptrs a a' h1 r) (RVL.ptrs b b' h2 r)
  | .ptr q o, v, h, r, hr => by simp only [RV] at h; rw [h] at hr; simpa [V.ptrs, TV.ptrs] using hr
  | .cptr l, v, h, r, hr => by simp only [RV] at h; obtain ⟨_, l', rfl, _, h⟩ := h; simp only [V.ptrs] at hr; exact RVL.ptrs l l' h r hr
  | .iface t x, v, h, r, hr => by simp only [RV] at h; obtain ⟨y, rfl, h⟩ := h; simp only [V.ptrs] at hr; exact RV.ptrs x y h r hr
theorem RVL.ptrs : ∀ (l : List TV) (l' : List V), RVL l l' → ∀ r ∈ ptrsL l', r ∈ ptrsTL l
  | [], l', h, r, hr => by simp only [RVL] at h; simp [h, ptrsL] at hr
  | x :: l, l', h, r, hr => by
    simp only [RVL] at h; obtain ⟨v, m, rfl, h1, h2⟩ := h
    simp only [ptrsL, List.mem_append] at hr
    simp only [ptrsTL, List.mem_append]
    exact hr.imp (RV.ptrs x v h1 r) (RVL.ptrs l m h2 r)
end
mutual
theorem RV.ptrs_eq : ∀ (x : TV) (v : V), x.known = true → RV x v → v.ptrs = x.ptrs
  | .any rs, v, hk, h => by simp [TV.known] at hk
  | .t τ o x, v, _, h => by simp only [RV] at h; rw [rty_ptrs τ o x v h]; simp [TV.ptrs]
  | .clp τ x, v, _, h => by simp only [RV] at h; obtain ⟨f, l', rfl, _⟩ := h; simp [V.ptrs, TV.ptrs]
  | .empty own, v, _, h => by simp only [RV] at h; obtain ⟨f, c, rfl, _⟩ := h; simp [V.ptrs, TV.ptrs]
  | .val u, v, _, h => by simp only [RV] at h; simp [h, V.ptrs, TV.ptrs]
  | .agg l, v, hk, h => by simp only [RV] at h; obtain ⟨l', rfl, h⟩ := h; simp only [TV.known] at hk; simp only [V.ptrs, TV.ptrs]; exact RVL.ptrs_eq l l' hk h
  | .tuple l, v, hk, h => by simp only [RV] at h; obtain ⟨l', rfl, h⟩ := h; simp only [TV.known] at hk; simp only [V.ptrs, TV.ptrs]; exact RVL.ptrs_eq l l' hk h
  | .fn g a b, v, hk, h => by
    simp only [RV] at h; obtain ⟨a', b', rfl, h1, h2⟩ := h
    simp only [TV.known, Bool.and_eq_true] at hk
    simp only [V.ptrs, TV.ptrs, RVL.ptrs_eq a a' hk.1 h1, RVL.ptrs_eq b b' hk.2 h2]
  | .ptr q o, v, _, h => by simp only [RV] at h; simp [h, V.ptrs, TV.ptrs]
  | .cptr l, v, hk, h => by simp only [RV] at h; obtain ⟨_, l', rfl, _, h⟩ := h; simp only [TV.known] at hk; simp only [V.ptrs, TV.ptrs]; exact RVL.ptrs_eq l l' hk h
  | .iface t x, v, hk, h => by simp only [RV] at h; obtain ⟨y, rfl, h⟩ := h; simp only [TV.known] at hk; simp only [V.ptrs, TV.ptrs]; exact RV.ptrs_eq x y hk h
theorem RVL.ptrs_eq : ∀ (l : List TV) (l' : List V), knownL l = true → RVL l l' → ptrsL l' = ptrsTL l
  | [], l', _, h => by simp only [RVL] at h; simp [h, ptrsL, ptrsTL]
  | x :: l, l', hk, h => by
    simp only [RVL] at h; obtain ⟨v, m, rfl, h1, h2⟩ := h
    simp only [knownL, Bool.and_eq_true] at hk
    simp only [ptrsL, ptrsTL, RV.ptrs_eq x v hk.1 h1, RVL.ptrs_eq l m hk.2 h2]
end

/-! ### flags -/
theorem reflagL_map (g : Fl → Fl) : ∀ l : List V, reflagL g l = l.map (V.reflag g)
  | [] => rfl
  | v :: l => by simp [reflagL, reflagL_map g l]
theorem nx_up {n : Nat} (h : isOwn (n + 1) = true) : nx (n + 1) = n ∧ n + 1 ≠ 1000 := by
  have := isOwn_iff.1 h
  refine ⟨by unfold nx; rw [h]; simp, this.2.1⟩
/-- what is known of what lies below: less -/
theorem rty_dl0 : ∀ (τ : Ty) (o : Nat) (x : τ.den) (v : V), RTy τ (dl o) x v → RTy τ 0 x v
  | .int _, _, _, v, h => by simpa only [RTy] using h
  | .bool, _, _, v, h => by simpa only [RTy] using h
  | .str, _, _, v, h => by simpa only [RTy] using h
  | .sl t, o, l, v, h => by
    obtain ⟨hno, h20, hnx⟩ := dl_not o
    simp only [RTy] at h ⊢; obtain ⟨f, c, l', rfl, h1, h⟩ := h
    rw [hnx] at h
    exact ⟨f, c, l', rfl, flr_of rfl (h1.not hno h20) (fun h => by cases h), h.mono fun a b hab => rty_dl0 t o a b hab⟩
  | .unit, _, _, v, h => by simpa only [RTy] using h
  | .pair a b, o, x, v, h => by
    simp only [RTy] at h ⊢; obtain ⟨v1, l, rfl, h1, h2⟩ := h
    exact ⟨v1, l, rfl, rty_dl0 a o _ _ h1, rty_dl0 b o _ _ h2⟩
theorem rty_dull {g : Fl → Fl} (hg : ∀ f, g f ≠ .own) (hs : g .shared = .shared) : ∀ (τ : Ty) (o : Nat) (x : τ.den) (v : V), RTy τ o x v → RTy τ (dl o) x (v.reflag g)
  | .int _, _, _, v, h => by simp only [RTy] at h ⊢; simp [h, V.reflag]
  | .bool, _, _, v, h => by simp only [RTy] at h ⊢; simp [h, V.reflag]
  | .str, _, _, v, h => by simp only [RTy] at h ⊢; simp [h, V.reflag]
  | .sl t, o, l, v, h => by
    simp only [RTy] at h ⊢; obtain ⟨f, c, l', rfl, h0, h⟩ := h
    obtain ⟨hno, h20, hnx⟩ := dl_not o
    refine ⟨g f, c, reflagL g l', by simp [V.reflag], flr_of hno (hg f) (fun h1 => ?_), ?_⟩
    · have ho : o = 1000 := by
        unfold dl at h1
        split at h1
        · assumption
        · cases h1
      rw [h0.2 ho]; exact hs
    · rw [reflagL_map, hnx]
      refine h.map fun a b hab => ?_
      have h3 := rty_dull hg hs t _ a b hab
      by_cases ho : o = 1000
      · subst ho; exact h3
      · have : dl o = 0 := by unfold dl; rw [if_neg ho]
        rw [this]
        exact rty_dl0 t _ a _ h3
  | .unit, _, _, v, h => by simp only [RTy] at h ⊢; simp [h, V.reflag, reflagL]
  | .pair a b, o, x, v, h => by
    simp only [RTy] at h ⊢; obtain ⟨v1, l, rfl, h1, h2⟩ := h
    refine ⟨v1.reflag g, reflagL g l, by simp [V.reflag, reflagL], rty_dull hg hs a o _ _ h1, ?_⟩
    have := rty_dull hg hs b o _ _ h2
    simpa only [V.reflag] using this
theorem rty_keep {g : Fl → Fl} (hg : ∀ f, g f = .own ↔ f = .own) (hs : g .shared = .shared) : ∀ (τ : Ty) (o : Nat) (x : τ.den) (v : V), RTy τ o x v → RTy τ o x (v.reflag g)
  | .int _, _, _, v, h => by simp only [RTy] at h ⊢; simp [h, V.reflag]
  | .bool, _, _, v, h => by simp only [RTy] at h ⊢; simp [h, V.reflag]
  | .str, _, _, v, h => by simp only [RTy] at h ⊢; simp [h, V.reflag]
  | .sl t, o, l, v, h => by
    simp only [RTy] at h ⊢; obtain ⟨f, c, l', rfl, ho, h⟩ := h
    refine ⟨g f, c, reflagL g l', by simp [V.reflag], ⟨fun h2 => by rw [hg f]; exact ho.1 h2, fun h1 => by rw [ho.2 h1]; exact hs⟩, ?_⟩
    rw [reflagL_map]
    exact h.map fun a b hab => rty_keep hg hs t _ a b hab
  | .unit, _, _, v, h => by simp only [RTy] at h ⊢; simp [h, V.reflag, reflagL]
  | .pair a b, o, x, v, h => by
    simp only [RTy] at h ⊢; obtain ⟨v1, l, rfl, h1, h2⟩ := h
    refine ⟨v1.reflag g, reflagL g l, by simp [V.reflag, reflagL], rty_keep hg hs a o _ _ h1, ?_⟩
    have := rty_keep hg hs b o _ _ h2
    simpa only [V.reflag] using this
theorem isLp_reflag1 {g : Fl → Fl} {v : V} (h : isLp [v] = false) : isLp [v.reflag g] = false := by cases v <;> simp_all [V.reflag, isLp]
theorem ptrs_reflag1 (g : Fl → Fl) (v : V) : (v.reflag g).ptrs = v.ptrs := by
  have := ptrsL_reflag g [v]
  simpa [reflagL, ptrsL] using this
mutual
theorem RV.dull' {g : Fl → Fl} (hg : ∀ f, g f ≠ .own) (hs : g .shared = .shared) : ∀ (x : TV) (v : V), RV x v → RV x.dull (v.reflag g)
  | .any rs, v, h => by simp only [TV.dull, RV] at h ⊢; rw [ptrs_reflag1]; exact ⟨h.1, isLp_reflag1 h.2⟩
  | .t τ o x, v, h => by simp only [TV.dull, RV] at h ⊢; exact rty_dull hg hs τ o x v h
  | .clp τ x, v, h => by
    simp only [TV.dull, RV] at h ⊢; obtain ⟨f, l', rfl, _, h⟩ := h
    refine ⟨g f, reflagL g l', by simp [V.reflag], hg f, ?_⟩
    rw [reflagL_map]
    exact h.map fun a b hab => rty_dl0 τ 0 a _ (rty_dull hg hs τ _ a b hab)
  | .empty o, v, h => by
    simp only [TV.dull, RV] at h ⊢; obtain ⟨f, c, rfl, h0⟩ := h
    refine ⟨g f, c, by simp [V.reflag, reflagL], flr_of (dl_not o).1 (hg f) (fun h1 => ?_)⟩
    have ho : o = 1000 := by
      unfold dl at h1
      split at h1
      · assumption
      · cases h1
    rw [h0.2 ho]; exact hs
  | .val u, v, h => by simp only [TV.dull, RV] at h ⊢; simp [h, V.reflag]
  | .agg l, v, h => by simp only [TV.dull, RV] at h ⊢; obtain ⟨l', rfl, h⟩ := h; exact ⟨_, by simp only [V.reflag], RVL.dull' hg hs l l' h⟩
  | .tuple l, v, h => by simp only [TV.dull, RV] at h ⊢; obtain ⟨l', rfl, h⟩ := h; exact ⟨_, by simp only [V.reflag], RVL.dull' hg hs l l' h⟩
  | .fn g' a b, v, h => by simp only [TV.dull, RV] at h ⊢; obtain ⟨a', b', rfl, h1, h2⟩ := h; exact ⟨_, _, by simp only [V.reflag], RVL.dull' hg hs a a' h1, RVL.dull' hg hs b b' h2⟩
  | .ptr q o, v, h => by simp only [TV.dull, RV] at h ⊢; simp [h, V.reflag]
  | .cptr l, v, h => by simp only [TV.dull, RV] at h ⊢; obtain ⟨f, l', rfl, _, h⟩ := h; exact ⟨g f, _, by simp only [V.reflag], hg f, RVL.dull' hg hs l l' h⟩
  | .iface t x, v, h => by simp only [TV.dull, RV] at h ⊢; obtain ⟨y, rfl, h⟩ := h; exact ⟨_, by simp only [V.reflag], RV.dull' hg hs x y h⟩
theorem RVL.dull' {g : Fl → Fl} (hg : ∀ f, g f ≠ .own) (hs : g .shared = .shared) : ∀ (l : List TV) (l' : List V), RVL l l' → RVL (dullL l) (reflagL g l')
  | [], l', h => by simp only [RVL] at h; simp [h, dullL, reflagL, RVL]
  | x :: l, l', h => by
    simp only [RVL] at h; obtain ⟨v, m, rfl, h1, h2⟩ := h
    simp only [dullL, reflagL]
    exact rvl_cons.2 ⟨RV.dull' hg hs x v h1, RVL.dull' hg hs l m h2⟩
end
mutual
theorem RV.keep {g : Fl → Fl} (hg : ∀ f, g f = .own ↔ f = .own) (hs : g .shared = .shared) : ∀ (x : TV) (v : V), RV x v → RV x (v.reflag g)
  | .any rs, v, h => by simp only [RV] at h ⊢; rw [ptrs_reflag1]; exact ⟨h.1, isLp_reflag1 h.2⟩
  | .t τ o x, v, h => by simp only [RV] at h ⊢; exact rty_keep hg hs τ o x v h
  | .clp τ x, v, h => by
    simp only [RV] at h ⊢; obtain ⟨f, l', rfl, h0, h⟩ := h
    refine ⟨g f, reflagL g l', by simp [V.reflag], fun e => h0 ((hg f).1 e), ?_⟩
    rw [reflagL_map]
    exact h.map fun a b hab => rty_keep hg hs τ _ a b hab
  | .empty o, v, h => by simp only [RV] at h ⊢; obtain ⟨f, c, rfl, h0⟩ := h; exact ⟨g f, c, by simp [V.reflag, reflagL], ⟨fun h2 => by rw [hg f]; exact h0.1 h2, fun h1 => by rw [h0.2 h1]; exact hs⟩⟩
  | .val u, v, h => by simp only [RV] at h ⊢; simp [h, V.reflag]
  | .agg l, v, h => by simp only [RV] at h ⊢; obtain ⟨l', rfl, h⟩ := h; exact ⟨_, by simp only [V.reflag], RVL.keep hg hs l l' h⟩
  | .tuple l, v, h => by simp only [RV] at h ⊢; obtain ⟨l', rfl, h⟩ := h; exact ⟨_, by simp only [V.reflag], RVL.keep hg hs l l' h⟩
  | .fn g' a b, v, h => by simp only [RV] at h ⊢; obtain ⟨a', b', rfl, h1, h2⟩ := h; exact ⟨_, _, by simp only [V.reflag], RVL.keep hg hs a a' h1, RVL.keep hg hs b b' h2⟩
  | .ptr q o, v, h => by simp only [RV] at h ⊢; simp [h, V.reflag]
  | .cptr l, v, h => by simp only [RV] at h ⊢; obtain ⟨f, l', rfl, h0, h⟩ := h; exact ⟨g f, _, by simp only [V.reflag], fun e => h0 ((hg f).1 e), RVL.keep hg hs l l' h⟩
  | .iface t x, v, h => by simp only [RV] at h ⊢; obtain ⟨y, rfl, h⟩ := h; exact ⟨_, by simp only [V.reflag], RV.keep hg hs x y h⟩
theorem RVL.keep {g : Fl → Fl} (hg : ∀ f, g f = .own ↔ f = .own) (hs : g .shared = .shared) : ∀ (l : List TV) (l' : List V), RVL l l' → RVL l (reflagL g l')
  | [], l', h => by simp only [RVL] at h; simp [h, reflagL, RVL]
  | x :: l, l', h => by
    simp only [RVL] at h; obtain ⟨v, m, rfl, h1, h2⟩ := h
    simp only [reflagL]
    exact rvl_cons.2 ⟨RV.keep hg hs x v h1, RVL.keep hg hs l m h2⟩
end
theorem flDull_own (f : Fl) : flDull f ≠ .own := by cases f <;> simp [flDull]
theorem RV.dull {x : TV} {v : V} (h : RV x v) : RV x.dull v.dull := RV.dull' flDull_own rfl x v h
theorem RVL.dull {l : List TV} {l' : List V} (h : RVL l l') : RVL (dullL l) (reflagL flDull l') := RVL.dull' flDull_own rfl l l' h
theorem RVL.map_dull {g : Fl → Fl} (hg : ∀ f, g f ≠ .own) (hs : g .shared = .shared) {l : List TV} {l' : List V} (h : RVL l l') : RVL (dullL l) (l'.map (V.reflag g)) := by
  rw [← reflagL_map]; exact RVL.dull' hg hs l l' h

/-! ### owners -/
theorem ownsL_iff {l : List V} : ownsL l = true ↔ ∃ v ∈ l, v.owns = true := by
  induction l with
  | nil => simp [ownsL]
  | cons v l ih => simp [ownsL, ih]
theorem all2_mem {α β : Type} {R : α → β → Prop} {l : List α} {l' : List β} (h : All2 R l l') : ∀ b ∈ l', ∃ a ∈ l, R a b := by
  induction h with
  | nil => simp
  | cons h1 _ ih =>
    intro b hb
    rcases List.mem_cons.1 hb with rfl | hb
    · exact ⟨_, by simp, h1⟩
    · obtain ⟨a, ha, hr⟩ := ih b hb; exact ⟨a, by simp [ha], hr⟩
theorem rty_owns : ∀ (τ : Ty) (o : Nat) (x : τ.den) (v : V), RTy τ o x v → v.owns = true → (isOwn o = true ∨ o = 2000) ∧ 0 < τ.depth
  | .int _, _, _, v, h, ho => by simp only [RTy] at h; simp [h, V.owns] at ho
  | .bool, _, _, v, h, ho => by simp only [RTy] at h; simp [h, V.owns] at ho
  | .str, _, _, v, h, ho => by simp only [RTy] at h; simp [h, V.owns] at ho
  | .sl t, o, l, v, h, ho => by
    simp only [RTy] at h; obtain ⟨f, c, l', rfl, hf, h⟩ := h
    simp only [V.owns, Bool.or_eq_true, decide_eq_true_eq] at ho
    simp only [Ty.depth]
    refine ⟨?_, by omega⟩
    by_cases h2 : o = 2000
    · exact .inr h2
    left
    rcases ho with ho | ho
    · exact (hf.1 h2).1 ho
    · obtain ⟨b, hb, hbo⟩ := ownsL_iff.1 ho
      obtain ⟨a, _, hr⟩ := all2_mem h b hb
      have := (rty_owns t _ a b hr hbo).1
      cases hno : isOwn o with
      | true => rfl
      | false =>
        unfold nx at this
        rw [hno] at this
        simp only [Bool.false_eq_true, if_false, hno, false_or] at this
        exact absurd this h2
  | .unit, _, _, v, h, ho => by simp only [RTy] at h; simp [h, V.owns, ownsL] at ho
  | .pair a b, o, x, v, h, ho => by
    simp only [RTy] at h; obtain ⟨v1, l, rfl, h1, h2⟩ := h
    simp only [V.owns, ownsL, Bool.or_eq_true] at ho
    simp only [Ty.depth]
    rcases ho with ho | ho
    · have := rty_owns a o _ _ h1 ho; exact ⟨this.1, by omega⟩
    · have := rty_owns b o _ _ h2 (by simpa only [V.owns] using ho); exact ⟨this.1, by omega⟩
mutual
theorem RV.owns : ∀ (x : TV) (v : V), RV x v → v.owns = true → x.owns = true
  | .any rs, v, h, ho => by simp [TV.owns]
  | .t τ o x, v, h, ho => by simp only [RV] at h; have := rty_owns τ o x v h ho; simpa [TV.owns] using this
  | .clp τ x, v, h, ho => by
    simp only [RV] at h; obtain ⟨f, l', rfl, hf, h⟩ := h
    simp only [V.owns, Bool.or_eq_true, decide_eq_true_eq] at ho
    rcases ho with ho | ho
    · exact absurd ho hf
    · obtain ⟨b, hb, hbo⟩ := ownsL_iff.1 ho
      obtain ⟨a, _, hr⟩ := all2_mem h b hb
      have := (rty_owns τ _ a b hr hbo).1
      simp [isOwn] at this
  | .empty o, v, h, ho => by
    simp only [RV] at h; obtain ⟨f, c, rfl, hf⟩ := h
    simp only [V.owns, ownsL, Bool.or_false, decide_eq_true_eq] at ho
    simp only [TV.owns, Bool.or_eq_true, decide_eq_true_eq]
    by_cases h2 : o = 2000
    · exact .inr h2
    · exact .inl ((hf.1 h2).1 ho)
  | .val u, v, h, ho => by simp only [RV] at h; simp [h, V.owns] at ho
  | .agg l, v, h, ho => by simp only [RV] at h; obtain ⟨l', rfl, h⟩ := h; simp only [V.owns, TV.owns] at ho ⊢; exact RVL.owns l l' h ho
  | .tuple l, v, h, ho => by simp only [RV] at h; obtain ⟨l', rfl, h⟩ := h; simp only [V.owns, TV.owns] at ho ⊢; exact RVL.owns l l' h ho
  | .fn g a b, v, h, ho => by
    simp only [RV] at h; obtain ⟨a', b', rfl, h1, h2⟩ := h
    simp only [V.owns, TV.owns, Bool.or_eq_true] at ho ⊢
    exact ho.imp (RVL.owns a a' h1) (RVL.owns b b' h2)
  | .ptr q o, v, h, ho => by simp only [RV] at h; simp [h, V.owns] at ho
  | .cptr l, v, h, ho => by simp only [RV] at h; obtain ⟨f, l', rfl, h0, h⟩ := h; simp only [V.owns, TV.owns, h0, decide_false, Bool.false_or] at ho ⊢; exact RVL.owns l l' h ho
  | .iface t x, v, h, ho => by simp only [RV] at h; obtain ⟨y, rfl, h⟩ := h; simp only [V.owns, TV.owns] at ho ⊢; exact RV.owns x y h ho
theorem RVL.owns : ∀ (l : List TV) (l' : List V), RVL l l' → ownsL l' = true → ownsTL l = true
  | [], l', h, ho => by simp only [RVL] at h; simp [h, ownsL] at ho
  | x :: l, l', h, ho => by
    simp only [RVL] at h; obtain ⟨v, m, rfl, h1, h2⟩ := h
    simp only [ownsL, ownsTL, Bool.or_eq_true] at ho ⊢
    exact ho.imp (RV.owns x v h1) (RVL.owns l m h2)
end

/-! ### cells -/
theorem rty_one {τ : Ty} (h1 : τ.one = true) {o : Nat} {x : τ.den} {v : V} (h : RTy τ o x v) : v.one = true := by
  cases τ with
  | unit => simp [Ty.one] at h1
  | pair a b => simp [Ty.one] at h1
  | sl t => simp only [RTy] at h; obtain ⟨f, c, l', rfl, _⟩ := h; rfl
  | _ => simp only [RTy] at h; subst h; rfl
theorem RV.one {x : TV} {v : V} (h1 : x.one = true) (h : RV x v) : v.one = true := by
  cases x with
  | any rs => simp [TV.one] at h1
  | t τ o x => simp only [RV] at h; exact rty_one h1 h
  | clp τ x => simp only [RV] at h; obtain ⟨f, l', rfl, _⟩ := h; rfl
  | empty own => simp only [RV] at h; obtain ⟨f, c, rfl, _⟩ := h; rfl
  | val u => simp only [RV] at h; subst h; exact h1
  | agg l => simp [TV.one] at h1
  | tuple l => simp [TV.one] at h1
  | fn g a b => simp only [RV] at h; obtain ⟨a', b', rfl, _⟩ := h; rfl
  | ptr r o => simp only [RV] at h; subst h; rfl
  | cptr l => simp only [RV] at h; obtain ⟨_, l', rfl, _⟩ := h; rfl
  | iface t x => simp only [RV] at h; obtain ⟨y, rfl, _⟩ := h; rfl
theorem cells_one {v : V} (h : v.one = true) : v.cells = [v] := by cases v <;> first | rfl | simp [V.one] at h
theorem RVL.ones : ∀ {l : List TV} {l' : List V}, l.all TV.one = true → RVL l l' → l'.all V.one = true
  | [], l', _, h => by simp only [RVL] at h; simp [h]
  | x :: l, l', h1, h => by
    simp only [RVL] at h; obtain ⟨v, m, rfl, h2, h3⟩ := h
    simp only [List.all_cons, Bool.and_eq_true] at h1 ⊢
    exact ⟨RV.one h1.1 h2, RVL.ones h1.2 h3⟩
theorem RV.cells {x : TV} {v : V} (hk : x.oks = true) (h : RV x v) : RVL x.cells v.cells ∧ v.oks = true := by
  by_cases hx : ∃ l, x = .agg l
  · obtain ⟨l, rfl⟩ := hx
    simp only [RV] at h
    obtain ⟨l', rfl, h⟩ := h
    simp only [TV.oks, TV.cells] at hk
    exact ⟨h, RVL.ones hk h⟩
  · have hc : x.cells = [x] := by cases x <;> first | rfl | exact absurd ⟨_, rfl⟩ hx
    have h1 : x.one = true := by simpa [TV.oks, hc] using hk
    have hv := RV.one h1 h
    have hcv := cells_one hv
    rw [hc, hcv]
    exact ⟨rvl_cons.2 ⟨h, rvl_nil⟩, by simp [V.oks, hcv, hv]⟩
theorem rvl_notLp {l : List TV} {l' : List V} (h : RVL l l') : isLp l' = false := by
  cases l with
  | nil => simp only [RVL] at h; simp [h, isLp]
  | cons x l =>
    simp only [RVL] at h; obtain ⟨v, m, rfl, h1, _⟩ := h
    cases v with
    | lp s pe g env ps a b =>
      exfalso
      cases x with
      | any rs => simp [RV, isLp] at h1
      | t τ o x =>
        cases τ <;> simp [RV, RTy] at h1
      | _ => simp [RV] at h1
    | _ => rfl

/-! ### typed values as values -/
mutual
theorem rv_ofTy : ∀ (τ : Ty) (o : Nat) (x : τ.den) (v : V), RTy τ o x v → RV (ofTy τ o x) v
  | .int _, _, _, v, h => by simpa only [ofTy, RV] using h
  | .bool, _, _, v, h => by simpa only [ofTy, RV] using h
  | .str, _, _, v, h => by simpa only [ofTy, RV] using h
  | .sl t, o, l, v, h => by simpa only [ofTy, RV] using h
  | .unit, _, _, v, h => by simp only [RTy] at h; simp [h, ofTy, RV, RVL]
  | .pair a b, o, x, v, h => by
    simp only [RTy] at h; obtain ⟨v1, l, rfl, h1, h2⟩ := h
    simp only [ofTy, RV]
    exact ⟨_, rfl, rvl_cons.2 ⟨rv_ofTy a o _ _ h1, rv_ofTyC b o _ l h2⟩⟩
theorem rv_ofTyC : ∀ (τ : Ty) (o : Nat) (x : τ.den) (l : List V), RTy τ o x (.agg l) → RVL (ofTyC τ o x) l
  | .int _, _, _, l, h => by simp [RTy] at h
  | .bool, _, _, l, h => by simp [RTy] at h
  | .str, _, _, l, h => by simp [RTy] at h
  | .sl t, o, x, l, h => by simp [RTy] at h
  | .unit, _, _, l, h => by simp only [RTy, V.agg.injEq] at h; simp [h, ofTyC, RVL]
  | .pair a b, o, x, l, h => by
    simp only [RTy, V.agg.injEq] at h; obtain ⟨v1, m, rfl, h1, h2⟩ := h
    simp only [ofTyC]
    exact rvl_cons.2 ⟨rv_ofTy a o _ _ h1, rv_ofTyC b o _ m h2⟩
end
theorem ofTy_one {τ : Ty} (h : τ.one = true) (o : Nat) (x : τ.den) : (ofTy τ o x).one = true := by cases τ <;> first | rfl | simp [Ty.one] at h
theorem ofTyC_ones : ∀ (τ : Ty), τ.rowOk = true → ∀ (o : Nat) (x : τ.den), (ofTyC τ o x).all TV.one = true
  | .unit, _, o, x => rfl
  | .pair a b, h, o, x => by
    simp only [Ty.rowOk, Bool.and_eq_true] at h
    simp only [ofTyC, List.all_cons, Bool.and_eq_true]
    exact ⟨ofTy_one h.1 o _, ofTyC_ones b h.2 o _⟩
  | .int _, h, _, _ | .bool, h, _, _ | .str, h, _, _ | .sl _, h, _, _ => by simp [Ty.rowOk] at h
theorem ofTy_oks {τ : Ty} (h : τ.elemOk = true) (o : Nat) (x : τ.den) : (ofTy τ o x).oks = true := by
  cases τ with
  | unit => rfl
  | pair a b =>
    simp only [Ty.elemOk, Bool.and_eq_true] at h
    simp only [ofTy, TV.oks, TV.cells, List.all_cons, Bool.and_eq_true]
    exact ⟨ofTy_one h.1 o _, ofTyC_ones b h.2 o _⟩
  | _ => rfl
theorem ofTyC_length : ∀ (τ : Ty), τ.rowOk = true → ∀ (o : Nat) (x : τ.den), (ofTyC τ o x).length = τ.ncells
  | .unit, _, o, x => rfl
  | .pair a b, h, o, x => by
    simp only [Ty.rowOk, Bool.and_eq_true] at h
    simp [ofTyC, Ty.ncells, ofTyC_length b h.2 o x.2]
  | .int _, h, _, _ | .bool, h, _, _ | .str, h, _, _ | .sl _, h, _, _ => by simp [Ty.rowOk] at h
theorem ofTy_ncells {τ : Ty} (h : τ.elemOk = true) (o : Nat) (x : τ.den) : (ofTy τ o x).cells.length = τ.ncells := by
  cases τ with
  | unit => rfl
  | pair a b =>
    simp only [Ty.elemOk, Bool.and_eq_true] at h
    simp [ofTy, TV.cells, Ty.ncells, ofTyC_length b h.2 o x.2]
  | _ => rfl
theorem rty_ncells {τ : Ty} (h : τ.elemOk = true) {o : Nat} {x : τ.den} {v : V} (hr : RTy τ o x v) : v.cells.length = τ.ncells ∧ v.oks = true := by
  obtain ⟨h1, h2⟩ := RV.cells (ofTy_oks h o x) (rv_ofTy τ o x v hr)
  exact ⟨by rw [h1.length, ofTy_ncells h], h2⟩

/-! ### values as typed values -/
theorem fits_le : ∀ {d d' : Nat} {o' o : Nat}, d' ≤ d → fits d o' o = true → fits d' o' o = true
  | _, 0, _, _, _, _ => rfl
  | 0, d' + 1, _, _, h, _ => by omega
  | d + 1, d' + 1, o', o, h, hf => by
    simp only [fits, Bool.or_eq_true, Bool.and_eq_true] at hf ⊢
    exact hf.imp id fun hf => ⟨hf.1, fits_le (by omega) hf.2⟩
theorem fits_flr {o' o d : Nat} {f : Fl} (h : fits (d + 1) o' o = true) (hf : FlR o' f) : FlR o f ∧ (o = 2000 ∨ fits d (nx o') (nx o) = true) := by
  simp only [fits, Bool.or_eq_true, Bool.and_eq_true, decide_eq_true_eq, beq_iff_eq, Bool.not_eq_true', decide_eq_false_iff_not] at h
  rcases h with rfl | ⟨⟨⟨h1, h2⟩, h3⟩, h4⟩
  · exact ⟨⟨fun h => absurd rfl h, fun h => by cases h⟩, .inl rfl⟩
  · exact ⟨⟨fun _ => by rw [hf.1 h2, h1], fun h => hf.2 (h3.resolve_left fun h5 => h5 h)⟩, .inr h4⟩
theorem fits_2000 : ∀ (d o : Nat), fits d o 2000 = true
  | 0, _ => rfl
  | d + 1, o => by simp [fits]
theorem rty_lev : ∀ (τ : Ty) (o o' : Nat) (x : τ.den) (v : V), fits τ.depth o o' = true → RTy τ o x v → RTy τ o' x v
  | .int _, _, _, _, v, _, h => by simpa only [RTy] using h
  | .bool, _, _, _, v, _, h => by simpa only [RTy] using h
  | .str, _, _, _, v, _, h => by simpa only [RTy] using h
  | .unit, _, _, _, v, _, h => by simpa only [RTy] using h
  | .sl t, o, o', l, v, hm, h => by
    simp only [Ty.depth] at hm
    simp only [RTy] at h ⊢; obtain ⟨f, c, l', rfl, hf, h⟩ := h
    obtain ⟨h1, h2⟩ := fits_flr hm hf
    refine ⟨f, c, l', rfl, h1, h.mono fun a b hab => rty_lev t _ _ a b ?_ hab⟩
    rcases h2 with rfl | h2
    · exact fits_2000 _ _
    · exact h2
  | .pair a b, o, o', x, v, hm, h => by
    simp only [Ty.depth] at hm
    simp only [RTy] at h ⊢; obtain ⟨v1, l, rfl, h3, h4⟩ := h
    exact ⟨v1, l, rfl, rty_lev a _ _ _ _ (fits_le (by omega) hm) h3, rty_lev b _ _ _ _ (fits_le (by omega) hm) h4⟩
theorem rty_cast {τ τ' : Ty} (h : τ' = τ) {o : Nat} {x : τ'.den} {v : V} (hr : RTy τ' o x v) : RTy τ o (cast' h x) v := by subst h; exact hr
theorem asTy_ok : ∀ (τ : Ty) (o : Nat) (w : TV) (x : τ.den) (v : V), asTy τ o w = some x → RV w v → RTy τ o x v := by
  have dflt : ∀ (τ : Ty) (o : Nat) (τ' : Ty) (o' : Nat) (y : τ'.den) (x : τ.den) (v : V), (if h : τ' = τ then (if fits τ.depth o' o = true then some (cast' h y) else none) else none) = some x → RTy τ' o' y v → RTy τ o x v := by
    intro τ o τ' o' y x v h hr
    split at h
    · rename_i he
      split at h
      · rename_i hm
        simp only [Option.some.injEq] at h
        subst h
        subst he
        exact rty_lev _ _ _ _ _ hm hr
      · cases h
    · cases h
  intro τ
  induction τ with
  | int k =>
    intro o w x v h hr
    cases w <;> simp only [asTy] at h <;> first | cases h | exact dflt _ _ _ _ _ _ _ h (by simpa only [RV] using hr)
  | bool =>
    intro o w x v h hr
    cases w <;> simp only [asTy] at h <;> first | cases h | exact dflt _ _ _ _ _ _ _ h (by simpa only [RV] using hr)
  | str =>
    intro o w x v h hr
    cases w <;> simp only [asTy] at h <;> first | cases h | exact dflt _ _ _ _ _ _ _ h (by simpa only [RV] using hr)
  | sl t ih =>
    intro o w x v h hr
    cases w with
    | empty own =>
      simp only [asTy] at h
      split at h
      · rename_i ho
        simp only [Option.some.injEq] at h
        subst h
        simp only [RV] at hr
        obtain ⟨f, c, rfl, hf⟩ := hr
        simp only [RTy]
        exact ⟨f, c, [], rfl, (fits_flr ho hf).1, .nil⟩
      · cases h
    | t τ' o' y => simp only [asTy] at h; exact dflt _ _ _ _ _ _ _ h (by simpa only [RV] using hr)
    | _ => simp [asTy] at h
  | unit =>
    intro o w x v h hr
    cases w with
    | agg l =>
      cases l with
      | nil => simp only [RV] at hr; obtain ⟨l', rfl, h1⟩ := hr; simp only [RVL] at h1; simp [RTy, h1]
      | cons => simp [asTy] at h
    | t τ' o' y => simp only [asTy] at h; exact dflt _ _ _ _ _ _ _ h (by simpa only [RV] using hr)
    | _ => simp [asTy] at h
  | pair a b iha ihb =>
    intro o w x v h hr
    cases w with
    | agg l =>
      cases l with
      | nil => simp [asTy] at h
      | cons u l =>
        simp only [asTy] at h
        obtain ⟨y, hy, h⟩ := Option.bind_eq_some_iff.1 h
        obtain ⟨z, hz, h⟩ := Option.bind_eq_some_iff.1 h
        simp only [Option.some.injEq] at h
        subst h
        simp only [RV] at hr
        obtain ⟨l', rfl, hl⟩ := hr
        simp only [RVL] at hl
        obtain ⟨v1, m, rfl, h1, h2⟩ := hl
        simp only [RTy]
        exact ⟨v1, m, rfl, iha _ _ _ _ hy h1, ihb _ _ _ _ hz (by simp only [RV]; exact ⟨m, rfl, h2⟩)⟩
    | t τ' o' y => simp only [asTy] at h; exact dflt _ _ _ _ _ _ _ h (by simpa only [RV] using hr)
    | _ => simp [asTy] at h
theorem asL_ok : ∀ (ps : List (Ty × Nat)) (l : List TV) (x : denL (ps.map (·.1))) (l' : List V), asL ps l = some x → RVL l l' → RVL (ofL ps x) l'
  | [], l, x, l', h, hr => by
    cases l with
    | nil => simpa [ofL] using hr
    | cons => simp [asL] at h
  | [(τ, o)], l, x, l', h, hr => by
    match l, h, hr with
    | [v], h, hr =>
      simp only [asL] at h
      simp only [RVL] at hr
      obtain ⟨u, m, rfl, h1, rfl⟩ := hr
      simp only [ofL]
      exact rvl_cons.2 ⟨rv_ofTy _ _ _ _ (asTy_ok _ _ _ _ _ h h1), rvl_nil⟩
    | [], h, hr => simp [asL] at h
    | _ :: _ :: _, h, hr => simp [asL] at h
  | (τ, o) :: q :: ps, l, x, l', h, hr => by
    match l, h, hr with
    | [], h, hr => simp [asL] at h
    | v :: l, h, hr =>
      simp only [asL] at h
      obtain ⟨y, hy, h⟩ := Option.bind_eq_some_iff.1 h
      obtain ⟨z, hz, h⟩ := Option.bind_eq_some_iff.1 h
      simp only [Option.some.injEq] at h
      subst h
      simp only [RVL] at hr
      obtain ⟨u, m, rfl, h1, h2⟩ := hr
      simp only [ofL]
      exact rvl_cons.2 ⟨rv_ofTy _ _ _ _ (asTy_ok _ _ _ _ _ hy h1), asL_ok (q :: ps) l _ _ hz h2⟩
theorem asAll_ok {τ : Ty} {o : Nat} : ∀ (l : List TV) (x : List τ.den) (l' : List V), asAll τ o l = some x → RVL l l' → All2 (RTy τ o) x l'
  | [], x, l', h, hr => by simp only [asAll, Option.some.injEq] at h; simp only [RVL] at hr; subst h; subst hr; exact .nil
  | v :: l, x, l', h, hr => by
    simp only [asAll] at h
    obtain ⟨y, hy, h⟩ := Option.bind_eq_some_iff.1 h
    obtain ⟨z, hz, h⟩ := Option.bind_eq_some_iff.1 h
    simp only [Option.some.injEq] at h
    subst h
    simp only [RVL] at hr
    obtain ⟨u, m, rfl, h1, h2⟩ := hr
    exact .cons (asTy_ok _ _ _ _ _ hy h1) (asAll_ok l _ _ hz h2)

/-! ### constants -/
theorem rv_zero (p : Bool) (u : Value) : RV (zeroTV p u) (ofZero p u) := by
  unfold zeroTV ofZero
  split
  · simp [RV, RTy]
  · simp [RV, RTy]
  · simp [RV, RTy]
  · cases p
    · simp only [RV, nilSlice, Bool.false_eq_true, if_false]; exact ⟨_, _, rfl, flr_own rfl⟩
    · simp [RV, nilSlice]
  · rename_i h1 h2 h3 h4
    split
    · exact absurd rfl h4
    · simp [RV]
theorem rvl_map {g : Value → TV} {h : Value → V} (hr : ∀ u, RV (g u) (h u)) : ∀ l : List Value, RVL (l.map g) (l.map h)
  | [] => rvl_nil
  | u :: l => rvl_cons.2 ⟨hr u, rvl_map hr l⟩
theorem rv_const (p : Bool) (u : Value) : RV (constTV p u) (ofConst p u) := by
  have key := rv_zero p u
  cases u <;> first | exact key | (simp only [constTV, ofConst, RV]; exact ⟨_, rfl, rvl_map (rv_zero p) _⟩)

/-! ### handed on; loosened; soft -/
theorem rty_share : ∀ (τ : Ty) (o : Nat) (x : τ.den) (v : V), RTy τ o x v → RTy τ 1000 x (v.reflag flShare)
  | .int _, _, _, v, h => by simp only [RTy] at h ⊢; simp [h, V.reflag]
  | .bool, _, _, v, h => by simp only [RTy] at h ⊢; simp [h, V.reflag]
  | .str, _, _, v, h => by simp only [RTy] at h ⊢; simp [h, V.reflag]
  | .sl t, o, l, v, h => by
    simp only [RTy] at h ⊢; obtain ⟨f, c, l', rfl, _, h⟩ := h
    refine ⟨.shared, c, reflagL flShare l', by simp [V.reflag, flShare], flr_of rfl (by simp) (fun _ => rfl), ?_⟩
    rw [reflagL_map]
    exact h.map fun a b hab => rty_share t _ a b hab
  | .unit, _, _, v, h => by simp only [RTy] at h ⊢; simp [h, V.reflag, reflagL]
  | .pair a b, o, x, v, h => by
    simp only [RTy] at h ⊢; obtain ⟨v1, l, rfl, h1, h2⟩ := h
    refine ⟨v1.reflag flShare, reflagL flShare l, by simp [V.reflag, reflagL], rty_share a o _ _ h1, ?_⟩
    have := rty_share b o _ _ h2
    simpa only [V.reflag] using this
mutual
theorem RV.share : ∀ (x : TV) (v : V), RV x v → RV x.share (v.reflag flShare)
  | .any rs, v, h => by simp only [TV.share, RV] at h ⊢; rw [ptrs_reflag1]; exact ⟨h.1, isLp_reflag1 h.2⟩
  | .t τ o x, v, h => by simp only [TV.share, RV] at h ⊢; exact rty_share τ o x v h
  | .clp τ x, v, h => by
    simp only [TV.share, RV, RTy] at h ⊢; obtain ⟨f, l', rfl, _, h⟩ := h
    refine ⟨.shared, true, reflagL flShare l', by simp [V.reflag, flShare], flr_of rfl (by simp) (fun _ => rfl), ?_⟩
    rw [reflagL_map]
    exact h.map fun a b hab => rty_share τ _ a b hab
  | .empty own, v, h => by simp only [TV.share, RV] at h ⊢; obtain ⟨f, c, rfl, _⟩ := h; exact ⟨.shared, c, by simp [V.reflag, reflagL, flShare], flr_of rfl (by simp) (fun _ => rfl)⟩
  | .val u, v, h => by simp only [TV.share, RV] at h ⊢; simp [h, V.reflag]
  | .agg l, v, h => by simp only [TV.share, RV] at h ⊢; obtain ⟨l', rfl, h⟩ := h; exact ⟨_, by simp only [V.reflag], RVL.share l l' h⟩
  | .tuple l, v, h => by simp only [TV.share, RV] at h ⊢; obtain ⟨l', rfl, h⟩ := h; exact ⟨_, by simp only [V.reflag], RVL.share l l' h⟩
  | .fn g' a b, v, h => by simp only [TV.share, RV] at h ⊢; obtain ⟨a', b', rfl, h1, h2⟩ := h; exact ⟨_, _, by simp only [V.reflag], RVL.share a a' h1, RVL.share b b' h2⟩
  | .ptr q o, v, h => by simp only [TV.share, RV] at h ⊢; simp [h, V.reflag]
  | .cptr l, v, h => by simp only [TV.share, RV] at h ⊢; obtain ⟨f, l', rfl, _, h⟩ := h; exact ⟨.shared, _, by simp only [V.reflag, flShare], by simp, RVL.share l l' h⟩
  | .iface t x, v, h => by simp only [TV.share, RV] at h ⊢; obtain ⟨y, rfl, h⟩ := h; exact ⟨_, by simp only [V.reflag], RV.share x y h⟩
theorem RVL.share : ∀ (l : List TV) (l' : List V), RVL l l' → RVL (shareL l) (reflagL flShare l')
  | [], l', h => by simp only [RVL] at h; simp [h, shareL, reflagL, RVL]
  | x :: l, l', h => by
    simp only [RVL] at h; obtain ⟨v, m, rfl, h1, h2⟩ := h
    simp only [shareL, reflagL]
    exact rvl_cons.2 ⟨RV.share x v h1, RVL.share l m h2⟩
end
theorem isOwn_lo {o : Nat} : isOwn (lo o) = isOwn o := by
  rw [Bool.eq_iff_iff, isOwn_iff, isOwn_iff]
  unfold lo; split <;> omega
theorem nx_lo {o : Nat} : nx (lo o) = lo (nx o) := by
  have h1 := @isOwn_lo o
  unfold nx
  rw [h1]
  cases ho : isOwn o with
  | false => rfl
  | true =>
    have := isOwn_iff.1 ho
    simp only [if_true]
    unfold lo; split <;> split <;> omega
theorem lo_2000 {o : Nat} : lo o = 2000 ↔ o = 2000 := by unfold lo; split <;> omega
theorem flr_lo {g : Fl → Fl} (hg : ∀ f, g f = .own ↔ f = .own) {o : Nat} {f : Fl} (h : FlR o f) : FlR (lo o) (g f) :=
  ⟨fun h2 => by rw [hg f, isOwn_lo]; exact h.1 (fun e => h2 (lo_2000.2 e)), fun h1 => by unfold lo at h1; split at h1 <;> omega⟩
theorem rty_lo {g : Fl → Fl} (hg : ∀ f, g f = .own ↔ f = .own) : ∀ (τ : Ty) (o : Nat) (x : τ.den) (v : V), RTy τ o x v → RTy τ (lo o) x (v.reflag g)
  | .int _, _, _, v, h => by simp only [RTy] at h ⊢; simp [h, V.reflag]
  | .bool, _, _, v, h => by simp only [RTy] at h ⊢; simp [h, V.reflag]
  | .str, _, _, v, h => by simp only [RTy] at h ⊢; simp [h, V.reflag]
  | .sl t, o, l, v, h => by
    simp only [RTy] at h ⊢; obtain ⟨f, c, l', rfl, hf, h⟩ := h
    refine ⟨g f, c, reflagL g l', by simp [V.reflag], flr_lo hg hf, ?_⟩
    rw [reflagL_map, nx_lo]
    exact h.map fun a b hab => rty_lo hg t _ a b hab
  | .unit, _, _, v, h => by simp only [RTy] at h ⊢; simp [h, V.reflag, reflagL]
  | .pair a b, o, x, v, h => by
    simp only [RTy] at h ⊢; obtain ⟨v1, l, rfl, h1, h2⟩ := h
    refine ⟨v1.reflag g, reflagL g l, by simp [V.reflag, reflagL], rty_lo hg a o _ _ h1, ?_⟩
    have := rty_lo hg b o _ _ h2
    simpa only [V.reflag] using this
theorem isLp_rty {τ : Ty} {o : Nat} {x : τ.den} {v : V} (h : RTy τ o x v) : isLp [v] = false := by
  cases τ with
  | int _ => simp only [RTy] at h; subst h; rfl
  | bool => simp only [RTy] at h; subst h; rfl
  | str => simp only [RTy] at h; subst h; rfl
  | sl t => simp only [RTy] at h; obtain ⟨f, c, l', rfl, _⟩ := h; rfl
  | unit => simp only [RTy] at h; subst h; rfl
  | pair a b => simp only [RTy] at h; obtain ⟨v1, l, rfl, _⟩ := h; rfl
mutual
theorem RV.lo {g : Fl → Fl} (hg : ∀ f, g f = .own ↔ f = .own) : ∀ (x : TV) (v : V), RV x v → RV x.loosen (v.reflag g)
  | .any rs, v, h => by simp only [TV.loosen, RV] at h ⊢; rw [ptrs_reflag1]; exact ⟨h.1, isLp_reflag1 h.2⟩
  | .t τ o x, v, h => by simp only [TV.loosen, RV] at h ⊢; exact rty_lo hg τ o x v h
  | .clp τ x, v, h => by
    simp only [TV.loosen, RV] at h ⊢; obtain ⟨f, l', rfl, h0, h⟩ := h
    refine ⟨g f, reflagL g l', by simp [V.reflag], fun e => h0 ((hg f).1 e), ?_⟩
    rw [reflagL_map]
    exact h.map fun a b hab => rty_lo hg τ 0 a b hab
  | .empty own, v, h => by simp only [TV.loosen, RV] at h ⊢; obtain ⟨f, c, rfl, h0⟩ := h; exact ⟨g f, c, by simp [V.reflag, reflagL], flr_lo hg h0⟩
  | .val u, v, h => by simp only [TV.loosen, RV] at h ⊢; simp [h, V.reflag]
  | .agg l, v, h => by simp only [TV.loosen, RV] at h ⊢; obtain ⟨l', rfl, h⟩ := h; exact ⟨_, by simp only [V.reflag], RVL.lo hg l l' h⟩
  | .tuple l, v, h => by simp only [TV.loosen, RV] at h ⊢; obtain ⟨l', rfl, h⟩ := h; exact ⟨_, by simp only [V.reflag], RVL.lo hg l l' h⟩
  | .fn g' a b, v, h => by simp only [TV.loosen, RV] at h ⊢; obtain ⟨a', b', rfl, h1, h2⟩ := h; exact ⟨_, _, by simp only [V.reflag], RVL.lo hg a a' h1, RVL.lo hg b b' h2⟩
  | .ptr q o, v, h => by simp only [TV.loosen, RV] at h ⊢; simp [h, V.reflag]
  | .cptr l, v, h => by simp only [TV.loosen, RV] at h ⊢; obtain ⟨f, l', rfl, h0, h⟩ := h; exact ⟨g f, _, by simp only [V.reflag], fun e => h0 ((hg f).1 e), RVL.lo hg l l' h⟩
  | .iface t x, v, h => by simp only [TV.loosen, RV] at h ⊢; obtain ⟨y, rfl, h⟩ := h; exact ⟨_, by simp only [V.reflag], RV.lo hg x y h⟩
theorem RVL.lo {g : Fl → Fl} (hg : ∀ f, g f = .own ↔ f = .own) : ∀ (l : List TV) (l' : List V), RVL l l' → RVL (loosenL l) (reflagL g l')
  | [], l', h => by simp only [RVL] at h; simp [h, loosenL, reflagL, RVL]
  | x :: l, l', h => by
    simp only [RVL] at h; obtain ⟨v, m, rfl, h1, h2⟩ := h
    simp only [loosenL, reflagL]
    exact rvl_cons.2 ⟨RV.lo hg x v h1, RVL.lo hg l m h2⟩
end
mutual
theorem reflag_id : ∀ v : V, v.reflag (fun f => f) = v
  | .undef | .val _ | .ptr .. | .yld _ | .lp .. => by simp [V.reflag]
  | .cptr _ l => by simp only [V.reflag, reflagL_id l]
  | .sl f c l => by simp only [V.reflag, reflagL_id l]
  | .fn g a b => by simp only [V.reflag, reflagL_id a, reflagL_id b]
  | .iface t x => by simp only [V.reflag, reflag_id x]
  | .agg l => by simp only [V.reflag, reflagL_id l]
  | .tuple l => by simp only [V.reflag, reflagL_id l]
theorem reflagL_id : ∀ l : List V, reflagL (fun f => f) l = l
  | [] => rfl
  | v :: l => by simp only [reflagL, reflag_id v, reflagL_id l]
end
theorem RV.lo0 {x : TV} {v : V} (h : RV x v) : RV x.loosen v := by
  have := RV.lo (g := fun f => f) (fun f => Iff.rfl) x v h
  rwa [reflag_id] at this

/-! ### firm: nothing soft -/
theorem sure_nx {o d : Nat} (h : sure o (d + 1) = true) : sure (nx o) d = true := by
  unfold nx
  cases ho : isOwn o with
  | false =>
    rcases isOwn_not.1 ho with rfl | rfl | rfl
    · simp [sure] at h
    · simp [sure]
    · simp [sure] at h
  | true =>
    have := isOwn_iff.1 ho
    simp only [if_true]
    unfold sure at h ⊢
    by_cases h1 : o < 1000
    · rw [if_pos h1] at h
      rw [if_pos (by omega)]
      simp only [decide_eq_true_eq] at h ⊢; omega
    · by_cases h2 : o < 2000
      · by_cases h3 : o - 1 < 1000
        · omega
        · rw [if_neg h3, if_pos (by omega)]
      · rw [if_neg h1, if_neg h2] at h
        simp only [decide_eq_true_eq] at h
        rw [if_neg (by omega), if_neg (by omega)]
        simp only [decide_eq_true_eq]; omega
theorem sure_le {o d d' : Nat} (h : sure o d = true) (hd : d' ≤ d) : sure o d' = true := by
  unfold sure at h ⊢
  by_cases h1 : o < 1000
  · rw [if_pos h1] at h ⊢
    simp only [decide_eq_true_eq] at h ⊢; omega
  · by_cases h2 : o < 2000
    · rw [if_neg h1, if_pos h2]
    · rw [if_neg h1, if_neg h2] at h ⊢
      simp only [decide_eq_true_eq] at h ⊢; omega
theorem sure_flr {o d : Nat} {f : Fl} (h : sure o (d + 1) = true) (hf : FlR o f) : f ≠ .dull := by
  cases ho : isOwn o with
  | true => rw [hf.own ho]; simp
  | false =>
    rcases isOwn_not.1 ho with rfl | rfl | rfl
    · simp [sure] at h
    · rw [hf.2 rfl]; simp
    · simp [sure] at h
theorem loose_of {l : List V} (h : ∀ x ∈ l, x.loose = false) : looseL l = false := by
  induction l with
  | nil => rfl
  | cons a l ih =>
    simp only [looseL, Bool.or_eq_false_iff]
    exact ⟨h a (by simp), ih fun x hx => h x (by simp [hx])⟩
theorem rty_tight : ∀ (τ : Ty) (o : Nat) (x : τ.den) (v : V), sure o τ.depth = true → RTy τ o x v → v.soft = false ∧ v.loose = false
  | .int _, _, _, v, _, h => by simp only [RTy] at h; subst h; exact ⟨rfl, rfl⟩
  | .bool, _, _, v, _, h => by simp only [RTy] at h; subst h; exact ⟨rfl, rfl⟩
  | .str, _, _, v, _, h => by simp only [RTy] at h; subst h; exact ⟨rfl, rfl⟩
  | .sl t, o, l, v, hf, h => by
    simp only [RTy] at h; obtain ⟨f, c, l', rfl, ho, h⟩ := h
    simp only [Ty.depth] at hf
    have hnd := sure_flr hf ho
    have hall : ∀ b ∈ l', b.soft = false ∧ b.loose = false := fun b hb => by
      obtain ⟨a, _, hr⟩ := all2_mem h b hb
      exact rty_tight t _ a b (sure_nx hf) hr
    simp only [V.soft, V.loose, Bool.or_eq_false_iff, decide_eq_false_iff_not, Bool.and_eq_false_iff]
    exact ⟨⟨.inl hnd, softL_of fun b hb => (hall b hb).1⟩, hnd, loose_of fun b hb => (hall b hb).2⟩
  | .unit, _, _, v, _, h => by simp only [RTy] at h; subst h; exact ⟨rfl, rfl⟩
  | .pair a b, o, x, v, hf, h => by
    simp only [RTy] at h; obtain ⟨v1, l, rfl, h1, h2⟩ := h
    simp only [Ty.depth] at hf
    have e1 := rty_tight a o _ _ (sure_le hf (by omega)) h1
    have e2 := rty_tight b o _ _ (sure_le hf (by omega)) h2
    simp only [V.soft, softL, V.loose, looseL, Bool.or_eq_false_iff] at e2 ⊢
    exact ⟨⟨e1.1, e2.1⟩, e1.2, e2.2⟩
mutual
theorem RV.firm : ∀ (x : TV) (v : V), x.firm = true → RV x v → v.soft = false
  | .any rs, v, hf, h => by simp [TV.firm] at hf
  | .t τ o x, v, hf, h => by simp only [TV.firm] at hf; simp only [RV] at h; exact (rty_tight τ o x v hf h).1
  | .clp τ x, v, hf, h => by simp [TV.firm] at hf
  | .empty own, v, hf, h => by simp only [RV] at h; obtain ⟨f, c, rfl, _⟩ := h; simp [V.soft, softL]
  | .val u, v, hf, h => by simp only [RV] at h; subst h; rfl
  | .agg l, v, hf, h => by simp only [RV] at h; obtain ⟨l', rfl, h⟩ := h; simp only [TV.firm] at hf; simp only [V.soft]; exact RVL.firm l l' hf h
  | .tuple l, v, hf, h => by simp only [RV] at h; obtain ⟨l', rfl, h⟩ := h; simp only [TV.firm] at hf; simp only [V.soft]; exact RVL.firm l l' hf h
  | .fn g a b, v, hf, h => by
    simp only [RV] at h; obtain ⟨a', b', rfl, h1, h2⟩ := h
    simp only [TV.firm, Bool.and_eq_true] at hf
    simp only [V.soft, Bool.or_eq_false_iff]
    exact ⟨RVL.firm a a' hf.1 h1, RVL.firm b b' hf.2 h2⟩
  | .ptr q o, v, hf, h => by simp only [RV] at h; subst h; rfl
  | .cptr l, v, hf, h => by simp [TV.firm] at hf
  | .iface t x, v, hf, h => by simp only [RV] at h; obtain ⟨y, rfl, h⟩ := h; simp only [TV.firm] at hf; simp only [V.soft]; exact RV.firm x y hf h
theorem RVL.firm : ∀ (l : List TV) (l' : List V), firmL l = true → RVL l l' → softL l' = false
  | [], l', hf, h => by simp only [RVL] at h; subst h; rfl
  | x :: l, l', hf, h => by
    simp only [RVL] at h; obtain ⟨v, m, rfl, h1, h2⟩ := h
    simp only [firmL, Bool.and_eq_true] at hf
    simp only [softL, Bool.or_eq_false_iff]
    exact ⟨RV.firm x v hf.1 h1, RVL.firm l m hf.2 h2⟩
end
mutual
theorem RV.tight : ∀ (x : TV) (v : V), x.tight = true → RV x v → v.loose = false
  | .any rs, v, hf, h => by simp [TV.tight] at hf
  | .t τ o x, v, hf, h => by simp only [TV.tight] at hf; simp only [RV] at h; exact (rty_tight τ o x v hf h).2
  | .clp τ x, v, hf, h => by simp [TV.tight] at hf
  | .empty o, v, hf, h => by simp only [TV.tight] at hf; simp only [RV] at h; obtain ⟨f, c, rfl, h0⟩ := h; simp [V.loose, looseL, sure_flr hf h0]
  | .val u, v, hf, h => by simp only [RV] at h; subst h; rfl
  | .agg l, v, hf, h => by simp only [RV] at h; obtain ⟨l', rfl, h⟩ := h; simp only [TV.tight] at hf; simp only [V.loose]; exact RVL.tight l l' hf h
  | .tuple l, v, hf, h => by simp only [RV] at h; obtain ⟨l', rfl, h⟩ := h; simp only [TV.tight] at hf; simp only [V.loose]; exact RVL.tight l l' hf h
  | .fn g a b, v, hf, h => by
    simp only [RV] at h; obtain ⟨a', b', rfl, h1, h2⟩ := h
    simp only [TV.tight, Bool.and_eq_true] at hf
    simp only [V.loose, Bool.or_eq_false_iff]
    exact ⟨RVL.tight a a' hf.1 h1, RVL.tight b b' hf.2 h2⟩
  | .ptr q o, v, hf, h => by simp only [RV] at h; subst h; rfl
  | .cptr l, v, hf, h => by simp [TV.tight] at hf
  | .iface t x, v, hf, h => by simp only [RV] at h; obtain ⟨y, rfl, h⟩ := h; simp only [TV.tight] at hf; simp only [V.loose]; exact RV.tight x y hf h
theorem RVL.tight : ∀ (l : List TV) (l' : List V), tightL l = true → RVL l l' → looseL l' = false
  | [], l', hf, h => by simp only [RVL] at h; subst h; rfl
  | x :: l, l', hf, h => by
    simp only [RVL] at h; obtain ⟨v, m, rfl, h1, h2⟩ := h
    simp only [tightL, Bool.and_eq_true] at hf
    simp only [looseL, Bool.or_eq_false_iff]
    exact ⟨RV.tight x v hf.1 h1, RVL.tight l m hf.2 h2⟩
end
end Go.Tx
end
section
/-
  ONE OPERATION: what the typed interpreter gives is what the abstract one gives.
-/
set_option linter.unusedVariables false
namespace Go.Tx
open Go Go.Ab
variable {P : Program} {H : Hints} {f : FuncId}

theorem cells_zero (p : Bool) (u : Value) : RVL (zeroTV p u).cells (ofZero p u).cells := by
  have h := rv_zero p u
  have h1 : (zeroTV p u).cells = [zeroTV p u] := by unfold zeroTV; split <;> (try split) <;> rfl
  have h2 : (ofZero p u).cells = [ofZero p u] := by unfold ofZero nilSlice; split <;> (try split) <;> rfl
  rw [h1, h2]; exact rvl_cons.2 ⟨h, rvl_nil⟩
theorem cells_const (p : Bool) (u : Value) : RVL (constTV p u).cells (ofConst p u).cells := by
  have key := cells_zero p u
  cases u <;> first | exact key | exact rvl_map (rv_zero p) _
theorem zeroT_ok {t : TypeId} {z : TV} (h : zeroT P H f t = some z) : ∃ z', zeroOf P H f t = some z' ∧ RV z z' ∧ RVL z.cells z'.cells := by
  unfold zeroT at h
  obtain ⟨u, hu, rfl⟩ := Option.map_eq_some_iff.1 h
  exact ⟨ofConst (H.precise f) u, by unfold zeroOf; rw [hu]; rfl, rv_const _ _, cells_const _ _⟩

theorem splice_ok {cs vs : List TV} {cs' vs' : List V} {off : Nat} (h : RVL cs cs') (hv : RVL vs vs') : RVL (spliceT cs off vs) (splice cs' off vs') := by
  unfold spliceT splice
  rw [hv.length]
  exact ((h.take off).append hv).append (h.drop _)
theorem fillT_ok (place : Nat → Option (Nat × Nat)) : ∀ (is : List Nat) (xs : List TV) (ys : List V) (cs r : List TV) (cs' : List V), RVL xs ys → RVL cs cs' → fillT place cs (is.zip xs) = some r →
    ∃ r', fillV place cs' (is.zip ys) = some r' ∧ RVL r r'
  | [], xs, ys, cs, r, cs', hx, hc, h => by simp only [List.zip_nil_left, fillT, Option.some.injEq] at h; subst h; exact ⟨cs', by simp [fillV], hc⟩
  | i :: is, [], ys, cs, r, cs', hx, hc, h => by
    simp only [RVL] at hx; subst hx
    simp only [List.zip_nil_right, fillT, Option.some.injEq] at h; subst h; exact ⟨cs', by simp [fillV], hc⟩
  | i :: is, x :: xs, ys, cs, r, cs', hx, hc, h => by
    simp only [RVL] at hx; obtain ⟨v, m, rfl, h1, h2⟩ := hx
    simp only [List.zip_cons_cons, fillT] at h
    simp only [List.zip_cons_cons, fillV]
    split at h
    · cases h
    · rename_i off size hp
      rw [hp]
      simp only
      split at h
      · cases h
      · rename_i hn
        simp only [not_or, Decidable.not_not, Bool.not_eq_false] at hn
        obtain ⟨hl, ho, hk⟩ := hn
        obtain ⟨hcells, hko⟩ := RV.cells hk h1
        rw [if_neg]
        · exact fillT_ok place is xs m _ r _ h2 (splice_ok hc hcells) h
        · rw [hcells.length, hc.length, hko]
          simp only [not_or, Decidable.not_not, Bool.not_eq_false]
          exact ⟨hl, ho, trivial⟩

theorem tbuild_ok {t : TypeId} {is : List Nat} {xs : List TV} {ys : List V} {x : TV} (hx : RVL xs ys) (h : tbuild P H f t (is.zip xs) = some x) :
    ∃ v, vbuild P H f t (is.zip ys) = some v ∧ RV x v := by
  unfold tbuild at h
  unfold vbuild
  split at h
  · rename_i z fields hz hu
    obtain ⟨z', hz', _, hcz⟩ := zeroT_ok hz
    split at h
    · rename_i places hpl
      obtain ⟨l, hl, rfl⟩ := Option.map_eq_some_iff.1 h
      obtain ⟨l', hl', hr⟩ := fillT_ok _ _ _ _ _ _ _ hx hcz hl
      refine ⟨.agg l', ?_, by simp only [RV]; exact ⟨l', rfl, hr⟩⟩
      rw [hz', hu]; simp only [hpl, hl', Option.map_some]
    · cases h
  · rename_i z n elem hz hu
    obtain ⟨z', hz', _, hcz⟩ := zeroT_ok hz
    split at h
    · rename_i ie hie
      obtain ⟨l, hl, rfl⟩ := Option.map_eq_some_iff.1 h
      obtain ⟨l', hl', hr⟩ := fillT_ok _ _ _ _ _ _ _ hx hcz hl
      refine ⟨.agg l', ?_, by simp only [RV]; exact ⟨l', rfl, hr⟩⟩
      rw [hz', hu]; simp only [hie, hl', Option.map_some]
    · cases h
  · cases h

theorem chunk_ok {agg : Bool} {s : Nat} : ∀ (n : Nat) {cs : List TV} {cs' : List V}, RVL cs cs' → RVL (chunkT agg s n cs) (chunk agg s n cs')
  | 0, _, _, _ => by simp [chunkT, chunk, RVL]
  | n + 1, cs, cs', h => by
    simp only [chunkT, chunk]
    refine rvl_cons.2 ⟨?_, chunk_ok n (h.drop s)⟩
    cases agg with
    | true => simp only [if_true, RV]; exact ⟨_, rfl, h.take s⟩
    | false =>
      simp only [Bool.false_eq_true, if_false]
      cases cs with
      | nil => simp only [RVL] at h; subst h; exact rv_undef []
      | cons y cs => simp only [RVL] at h; obtain ⟨v, m, rfl, h1, _⟩ := h; exact h1

theorem tbuildSlice_ok {t : TypeId} {len : Nat} {is : List Nat} {xs : List TV} {ys : List V} {x : TV} (hx : RVL xs ys) (h : tbuildSlice P H f t len (is.zip xs) = some x) :
    ∃ v, vbuildSlice P H f t len (is.zip ys) = some v ∧ RV x v := by
  unfold tbuildSlice at h
  unfold vbuildSlice
  split at h
  · rename_i elem hu
    rw [hu]; simp only
    split at h
    · rename_i ie z τ hie hz hτ
      obtain ⟨z', hz', _, hcz⟩ := zeroT_ok hz
      rw [hie, hz']; simp only
      split at h
      · cases h
      · rename_i hn
        simp only [not_or] at hn
        rw [if_neg (by rw [hcz.length]; simp only [not_or]; exact ⟨hn.1, hn.2.1, hn.2.2.1, hn.2.2.2.1⟩)]
        split at h
        · rename_i cs hcs
          obtain ⟨cs', hcs', hr⟩ := fillT_ok _ _ _ _ _ _ _ hx (RVL.flatten hcz) hcs
          rw [hcs']; simp only
          split at h
          · rename_i hc
            simp only [Bool.and_eq_true, List.isEmpty_iff] at hc
            obtain ⟨hc, hup⟩ := hc
            obtain ⟨hup1, hup2⟩ := nx_up hup
            obtain ⟨l, hl, rfl⟩ := Option.map_eq_some_iff.1 h
            have hp : ptrsL cs' = [] := by
              apply List.eq_nil_iff_forall_not_mem.2
              intro r hrr
              have := RVL.ptrs cs cs' hr r hrr
              rw [hc.2] at this; cases this
            rw [if_pos ⟨RVL.ones hc.1 hr, by rw [hp]; rfl⟩]
            refine ⟨_, rfl, ?_⟩
            simp only [RV, RTy]
            exact ⟨.own, false, _, rfl, flr_own hup, by rw [hup1]; exact asAll_ok _ _ _ hl (chunk_ok _ hr)⟩
          · cases h
        · cases h
    · cases h
  · cases h

theorem ofCellsT_ok {t : TypeId} {cs : List TV} {cs' : List V} {x : TV} (h : ofCellsT P t cs = some x) (hc : RVL cs cs') : ∃ v, ofCells P t cs' = some v ∧ RV x v := by
  unfold ofCellsT at h
  unfold ofCells
  split at h
  · cases h
  · rename_i d hd
    rw [hd]; simp only
    split at h
    · rename_i ha
      rw [if_pos ha]
      split at h
      · rename_i hl
        cases h
        rw [if_pos (by rw [hc.length]; exact hl)]
        exact ⟨_, rfl, by simp only [RV]; exact ⟨_, rfl, hc.take _⟩⟩
      · cases h
    · rename_i ha
      rw [if_neg ha]
      obtain ⟨v, hv, hr⟩ := RVL.head hc h
      exact ⟨v, hv, hr⟩

theorem tfield_ok {t : TypeId} {x y : TV} {v : V} {fd : Nat} (h : tfield P t x fd = some y) (hx : RV x v) : ∃ u, vfield P t v fd = some u ∧ RV y u := by
  unfold tfield at h
  split at h
  · rename_i fields cs hu
    simp only [RV] at hx; obtain ⟨cs', rfl, hc⟩ := hx
    unfold vfield
    rw [hu]; simp only
    split at h
    · rename_i d hd
      rw [hd]; simp only
      exact ofCellsT_ok h (hc.drop _)
    · cases h
  · cases h
theorem tfieldAddr_ok {t : TypeId} {x y : TV} {v : V} {fd : Nat} (h : tfieldAddr P t x fd = some y) (hx : RV x v) : ∃ u, vfieldAddr P t v fd = some u ∧ RV y u := by
  unfold tfieldAddr at h
  unfold vfieldAddr
  split at h
  · rename_i fields hu
    rw [hu]; simp only
    split at h
    · rename_i d hd
      rw [hd]; simp only
      split at h
      · cases h
      · rename_i h0
        rw [if_neg h0]
        split at h
        · rename_i r off
          cases h
          simp only [RV] at hx; subst hx
          exact ⟨_, rfl, by simp [RV]⟩
        · rename_i cs
          simp only [RV] at hx; obtain ⟨f', cs', rfl, hf0, hc⟩ := hx
          split at h
          · rename_i hl
            cases h
            simp only
            rw [if_pos (by rw [hc.length]; exact hl)]
            exact ⟨_, rfl, by simp only [RV]; exact ⟨_, _, rfl, hf0, hc.drop _⟩⟩
          · cases h
        · cases h
    · cases h
  · cases h

theorem upTo_some {R : Type} {i : Int} {k : Nat → Option R} {r : R} : ∀ {n j : Nat}, upTo R i k n j = some r → ∃ m, j ≤ m ∧ m < j + n ∧ i = (m : Int) ∧ k m = some r
  | 0, j, h => by simp [upTo] at h
  | n + 1, j, h => by
    simp only [upTo] at h
    cases hd : decide (i = (j : Int)) with
    | true => rw [hd] at h; exact ⟨j, Nat.le_refl _, by omega, of_decide_eq_true hd, h⟩
    | false =>
      rw [hd] at h
      obtain ⟨m, h1, h2, h3, h4⟩ := upTo_some (n := n) (j := j + 1) h
      exact ⟨m, by omega, by omega, h3, h4⟩

theorem tint_ok {x : TV} {n : Int} {v : V} (h : tint x = some n) (hx : RV x v) : ∃ k, v = .val (.int k n) := by
  unfold tint at h
  split at h
  · rename_i k o m
    cases h
    simp only [RV, RTy] at hx
    exact ⟨k, hx⟩
  · cases h
theorem natOf_int {k : IntKind} {n : Int} (h : 0 ≤ n) : natOf (.val (.int k n)) = some n.toNat := by simp [natOf, h]

theorem slc_some {α : Type} {l r : List α} {a b : Int} (h : slc l a b = some r) : 0 ≤ a ∧ a ≤ b ∧ b ≤ l.length ∧ r = (l.take b.toNat).drop a.toNat := by
  unfold slc at h
  split at h
  · rename_i hc; cases h; exact ⟨hc.1, hc.2.1, hc.2.2, rfl⟩
  · cases h
theorem idx_some {α : Type} {l : List α} {n : Int} {e : α} (h : idx l n = some e) : 0 ≤ n ∧ l[n.toNat]? = some e := by
  unfold idx at h
  split at h
  · rename_i hc; exact ⟨hc, h⟩
  · cases h
theorem app_some {α : Type} {l l2 r : List α} (h : app l l2 = some r) : l.length + l2.length ≤ 4294967296 ∧ r = l ++ l2 := by
  unfold app at h
  split at h
  · rename_i hc; cases h; exact ⟨hc, rfl⟩
  · cases h
theorem mkS_some {α : Type} {z : α} {n : Int} {r : List α} (h : mkS z n = some r) : 0 ≤ n ∧ n ≤ 4294967296 ∧ r = List.replicate n.toNat z := by
  unfold mkS at h
  split at h
  · rename_i hc; cases h; exact ⟨hc.1, hc.2, rfl⟩
  · cases h

theorem all2_cells {τ : Ty} (he : τ.elemOk = true) {o : Nat} {l : List τ.den} {l' : List V} (h : All2 (RTy τ o) l l') : ∀ e ∈ l', e.cells.length = τ.ncells ∧ e.oks = true ∧ e.ptrs = [] := fun e he' => by
  obtain ⟨a, _, hr⟩ := all2_mem h e he'
  obtain ⟨h1, h2⟩ := rty_ncells he hr
  exact ⟨h1, h2, rty_ptrs _ _ _ _ hr⟩
theorem all2_ptrs {τ : Ty} {o : Nat} {l : List τ.den} {l' : List V} (h : All2 (RTy τ o) l l') : ptrsL l' = [] := by
  apply List.eq_nil_iff_forall_not_mem.2
  intro r hr
  obtain ⟨v, hv, hrv⟩ := ptrsL_mem.1 hr
  obtain ⟨a, _, h2⟩ := all2_mem h v hv
  rw [rty_ptrs _ _ _ _ h2] at hrv; cases hrv
theorem cells_ptrs {v : V} (h : v.ptrs = []) : ptrsL v.cells = [] := by
  cases v <;> first | exact h | (simp only [V.cells, ptrsL, List.append_nil]; exact h)

theorem indexAddr_elem {τ : Ty} {elem : TypeId} {o : Nat} {l : List τ.den} {l' : List V} {n : Int} {e : τ.den} {k : IntKind} {t : TypeId} {fl : Fl} {c : Bool} (hu : P.underlying t = some (.slice elem)) (hall : All2 (RTy τ o) l l') (hc : P.cellsOf elem = τ.ncells) (h0 : τ.ncells ≠ 0) (he : τ.elemOk = true)
    (h : idx l n = some e) : ∃ v, vindexAddr P t (.sl fl c l') (.val (.int k n)) = some v ∧ RV (.cptr (ofTy τ (dl o) e).cells) v := by
  obtain ⟨h1, h2⟩ := idx_some h
  obtain ⟨b, hb, hr⟩ := hall.get h2
  obtain ⟨hl, hk⟩ := rty_ncells he hr
  refine ⟨.cptr (flDull fl) (reflagL flDull b.cells), ?_, ?_⟩
  · simp only [vindexAddr, hu]
    rw [if_pos h1, hb]
    simp only
    rw [if_pos ⟨by rw [hl, hc], hk, by rw [hc]; exact h0, by rw [cells_ptrs (rty_ptrs _ _ _ _ hr)]; rfl⟩]
  · have hd := rty_dull flDull_own rfl τ o e b hr
    have hcells := (RV.cells (ofTy_oks he (dl o) e) (rv_ofTy τ (dl o) e _ hd)).1
    simp only [RV]
    refine ⟨_, _, rfl, by cases fl <;> simp [flDull], ?_⟩
    have hre : (b.reflag flDull).cells = reflagL flDull b.cells := by cases b <;> simp [V.reflag, V.cells, reflagL]
    rw [← hre]; exact hcells

theorem tindexAddr_ok {t : TypeId} {x : TV} {k0 : IntKind} {i : Int} {R : Type} {k : TV → Option R} {r : R} {v : V} (h : tindexAddr P t x i R k = some r) (hx : RV x v) :
    ∃ y u, k y = some r ∧ vindexAddr P t v (.val (.int k0 i)) = some u ∧ RV y u := by
  unfold tindexAddr at h
  split at h
  · rename_i len elem q off hu
    split at h
    · cases h
    · rename_i h0
      obtain ⟨m, _, hm, rfl, hk⟩ := upTo_some h
      simp only [RV] at hx; subst hx
      refine ⟨_, .ptr q (off + m * P.cellsOf elem), hk, ?_, by simp [RV]⟩
      simp only [vindexAddr, hu]
      rw [if_pos ⟨by omega, by omega, h0⟩]; simp
  · rename_i len elem cs hu
    split at h
    · cases h
    · rename_i h0
      obtain ⟨m, _, hm, rfl, hk⟩ := upTo_some h
      split at hk
      · rename_i hl
        simp only [RV] at hx; obtain ⟨f', cs', rfl, hf0, hc⟩ := hx
        refine ⟨_, .cptr f' (cs'.drop (m * P.cellsOf elem)), hk, ?_, by simp only [RV]; exact ⟨_, _, rfl, hf0, hc.drop _⟩⟩
        simp only [vindexAddr, hu]
        rw [if_pos ⟨by omega, by omega, h0, by rw [hc.length]; simpa using hl⟩]; simp
      · cases hk
  · rename_i elem τ o l hu
    split at h
    · rename_i hc
      obtain ⟨e, he, hk⟩ := Option.bind_eq_some_iff.1 h
      simp only [RV, RTy] at hx; obtain ⟨fl, c, l', rfl, _, hall⟩ := hx
      obtain ⟨u, hu', hr⟩ := indexAddr_elem (k := k0) (fl := fl) (c := c) hu hall hc.1 hc.2.1 hc.2.2.2 he
      exact ⟨_, u, hk, hu', hr⟩
    · cases h
  · rename_i elem τ l hu
    split at h
    · rename_i hc
      obtain ⟨e, he, hk⟩ := Option.bind_eq_some_iff.1 h
      simp only [RV] at hx; obtain ⟨fl, l', rfl, _, hall⟩ := hx
      obtain ⟨u, hu', hr⟩ := indexAddr_elem (k := k0) (fl := fl) (c := true) hu hall hc.1 hc.2.1 hc.2.2.2 he
      exact ⟨_, u, hk, hu', hr⟩
    · cases h
  · cases h

theorem tindex_ok {elem t : TypeId} {len : Nat} {cs : List TV} {cs' : List V} {k0 : IntKind} {i : Int} {R : Type} {k : TV → Option R} {r : R} (hu : P.underlying t = some (.array len elem)) (h : tindex P elem len cs i R k = some r) (hc : RVL cs cs') :
    ∃ y u, k y = some r ∧ vindex P t (.agg cs') (.val (.int k0 i)) = some u ∧ RV y u := by
  unfold tindex at h
  split at h
  · cases h
  · rename_i h0
    obtain ⟨m, _, hm, rfl, hk⟩ := upTo_some h
    split at hk
    · rename_i v hv
      obtain ⟨u, hu', hr⟩ := ofCellsT_ok hv (hc.drop _)
      refine ⟨_, u, hk, ?_, hr⟩
      simp only [vindex, hu]
      rw [if_pos ⟨by omega, by omega, h0⟩]
      simpa using hu'
    · cases hk

/-- an optional operand -/
def RVO : Option TV → Option V → Prop
  | none, none => True
  | some x, some v => RV x v
  | _, _ => False
theorem rvo_none {b : Option V} (h : RVO none b) : b = none := by cases b <;> simp_all [RVO]
theorem rvo_some {x : TV} {b : Option V} (h : RVO (some x) b) : ∃ v, b = some v ∧ RV x v := by
  cases b with
  | none => simp [RVO] at h
  | some v => exact ⟨v, rfl, h⟩
theorem natOr_ok {d : Nat} {d0 : Int} {lo : Option TV} {lo' : Option V} {a : Int} (h : (match lo with | none => some d0 | some v => tint v) = some a) (hlo : RVO lo lo') (hd : d0 = d) (h0 : 0 ≤ a) : natOr d lo' = some a.toNat := by
  cases lo with
  | none => rw [rvo_none hlo]; simp only [Option.some.injEq] at h; subst h; subst hd; simp [natOr]
  | some x =>
    obtain ⟨v, rfl, hr⟩ := rvo_some hlo
    obtain ⟨k, rfl⟩ := tint_ok h hr
    simp [natOr, natOf_int h0]

theorem bcond {R : Type} {c : Prop} [Decidable c] {x : Option R} {r : R} (h : (bif decide c then x else none) = some r) : c ∧ x = some r := by
  cases hd : decide c with
  | true => rw [hd] at h; exact ⟨of_decide_eq_true hd, h⟩
  | false => rw [hd] at h; cases h

theorem tslice_ok {t : TypeId} {x : TV} {v : V} {lo hi mx : Option TV} {lo' hi' mx' : Option V} {R : Type} {k : TV → Option R} {r : R} (hx : RV x v) (hlo : RVO lo lo') (hhi : RVO hi hi') (hmx : RVO mx mx')
    (h : tslice P t x lo hi mx R k = some r) : ∃ y u, k y = some r ∧ vslice P t v lo' hi' mx' = some u ∧ RV y u := by
  unfold tslice at h
  simp only at h
  split at h
  · rename_i elem τ oo l hu
    simp only [RV, RTy] at hx; obtain ⟨fl, c, l', rfl, hfl, hall⟩ := hx
    split at h
    · cases h
    · rename_i hn
      simp only [not_or, Decidable.not_not, Bool.not_eq_false, Bool.not_eq_true] at hn
      obtain ⟨hoo, hoo2, h0, hcl, hok, hel⟩ := hn
      have hown : fl ≠ .own := hfl.not hoo hoo2
      have hnx : nx oo = oo := by unfold nx; rw [hoo]; rfl
      have hcells : l'.all (fun e => decide (e.cells.length = P.cellsOf elem)) = true := by
        rw [List.all_eq_true]; intro e he; rw [(all2_cells hel hall e he).1, hcl]; simp
      have hvs : ∀ (mx : Option V), vslice P t (.sl fl c l') lo' hi' mx = (match natOr 0 lo', natOr l'.length hi' with
          | some a, some b =>
            match mx with
            | none => if a ≤ b ∧ b ≤ l'.length then some (.sl fl (c && decide (b = l'.length)) ((l'.take b).drop a)) else none
            | some m => if natOf m = some b ∧ hi'.isSome ∧ a ≤ b ∧ b ≤ l'.length then some (.sl fl true ((l'.take b).drop a)) else none
          | _, _ => none) := fun mx => by
        unfold vslice
        rw [hu]; simp only
        rw [if_neg (by simp only [not_or, Bool.not_eq_false]; exact ⟨hown, h0, hcells⟩)]
        rfl
      split at h
      · rename_i a b ha hb
        have hfin : ∀ q, slc l a b = some q → natOr 0 lo' = some a.toNat ∧ natOr l'.length hi' = some b.toNat ∧ a.toNat ≤ b.toNat ∧ b.toNat ≤ l'.length ∧ All2 (RTy τ (nx oo)) q ((l'.take b.toNat).drop a.toNat) := fun q hq => by
          obtain ⟨h1, h2, h3, rfl⟩ := slc_some hq
          have hl := hall.length
          refine ⟨natOr_ok ha hlo rfl h1, natOr_ok hb hhi (by rw [hl]) (by omega), by omega, by omega, (hall.take _).drop _⟩
        split at h
        · obtain ⟨q, hq, hk⟩ := Option.bind_eq_some_iff.1 h
          obtain ⟨e1, e2, e3, e4, e5⟩ := hfin q hq
          rw [rvo_none hmx]
          refine ⟨_, .sl fl (c && decide (b.toNat = l'.length)) ((l'.take b.toNat).drop a.toNat), hk, ?_, ?_⟩
          · rw [hvs, e1, e2]; simp only; rw [if_pos ⟨e3, e4⟩]
          · simp only [RV, RTy]; exact ⟨fl, _, _, rfl, hfl, e5⟩
        · rename_i m
          obtain ⟨vm, hvm, hrm⟩ := rvo_some hmx
          split at h
          · rename_i cc hcc
            split at h
            · rename_i hs
              obtain ⟨q, hq, hk⟩ := Option.bind_eq_some_iff.1 h
              obtain ⟨hcb, hk⟩ := bcond hk
              obtain ⟨e1, e2, e3, e4, e5⟩ := hfin q hq
              obtain ⟨h1, h2, _, _⟩ := slc_some hq
              obtain ⟨k3, rfl⟩ := tint_ok hcc hrm
              have hs' : hi'.isSome = true := by
                cases hi with
                | none => simp at hs
                | some x => obtain ⟨v, rfl, _⟩ := rvo_some hhi; rfl
              refine ⟨_, .sl fl true ((l'.take b.toNat).drop a.toNat), hk, ?_, ?_⟩
              · rw [hvm, hvs, e1, e2]; simp only; rw [if_pos ⟨by rw [hcb]; exact natOf_int (by omega), hs', e3, e4⟩]
              · simp only [RV]; exact ⟨fl, _, rfl, hown, e5.mono fun x y hxy => by
                  rw [hnx] at hxy
                  refine rty_dl0 τ oo x y ?_
                  rcases isOwn_not.1 hoo with h | h | h
                  · subst h; exact hxy
                  · subst h; exact hxy
                  · exact absurd h hoo2⟩
            · cases h
          · cases h
      · cases h
  · rename_i elem oo hu
    simp only [RV] at hx; obtain ⟨fl, c, rfl, hfl⟩ := hx
    split at h
    · cases h
    · rename_i hn0
      simp only [not_or, Bool.not_eq_true] at hn0
      obtain ⟨hoo, hoo2, h0⟩ := hn0
      have hown : fl ≠ .own := hfl.not hoo hoo2
      split at h
      · rename_i a b ha hb
        cases hd : (decide (a = 0) && decide (b = 0)) with
        | false => rw [hd] at h; cases h
        | true =>
          rw [hd] at h
          simp only [Bool.and_eq_true, decide_eq_true_eq] at hd
          obtain ⟨rfl, rfl⟩ := hd
          rw [rvo_none hmx]
          refine ⟨_, .sl fl (c && decide (0 = ([] : List V).length)) [], h, ?_, ?_⟩
          · unfold vslice
            rw [hu]; simp only
            rw [if_neg (by simp only [not_or]; exact ⟨hown, h0, by simp⟩)]
            rw [natOr_ok (d := 0) ha hlo rfl (by omega), natOr_ok (d := ([] : List V).length) hb hhi rfl (by omega)]
            simp
          · simp only [RV]; exact ⟨fl, _, rfl, hfl⟩
      · cases h
  · rename_i s hu
    simp only [RV, RTy] at hx; subst hx
    split at h
    · rename_i a b ha hb
      obtain ⟨q, hq, hk⟩ := Option.bind_eq_some_iff.1 h
      obtain ⟨h1, h2, h3, rfl⟩ := slc_some hq
      rw [rvo_none hmx]
      have hsz : (⟨s.toArray⟩ : ByteArray).size = s.length := by simp [ByteArray.size]
      refine ⟨_, .val (.string ((⟨s.toArray⟩ : ByteArray).extract a.toNat b.toNat)), hk, ?_, ?_⟩
      · unfold vslice
        rw [hu]; simp only
        rw [natOr_ok (d := 0) ha hlo rfl h1, natOr_ok (d := (⟨s.toArray⟩ : ByteArray).size) hb hhi (by rw [hsz]) (by omega)]
        simp only
        rw [if_pos ⟨rfl, by omega, by rw [hsz]; omega⟩]
      · simp only [RV, RTy, V.val.injEq, Value.string.injEq]
        apply ByteArray.ext
        rw [ByteArray.data_extract]
        apply Array.ext'
        simp [List.drop_take]
    · cases h
  · cases h
end Go.Tx
end
