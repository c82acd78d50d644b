/-
  ONE OPERATION, whatever it is.
-/
import Derived.Test.YtpiggpgocnlomaaAbP
set_option linter.unusedVariables false
namespace Go.Ab
open Go
variable {P : Program} {H : Hints} {f : FuncId} {w : World} {X : Cx}

theorem some3 {α β γ : Type} {a a' : α} {b b' : β} {c c' : γ} (h : some (a, b, c) = some (a', b', c')) : a = a' ∧ b = b' ∧ c = c' := by
  cases h; exact ⟨rfl, rfl, rfl⟩
/-- what a step of an operation is -/
theorem stepM_cases {C : Orc} {o : Oper} {xs : List V} {st s : St} {z : V} {fp : Fp} (hx : stepM P H C f o xs st = some (z, s, fp)) :
    (∃ t d z0, o.op = .alloc t ∧ o.dst = some d ∧ zeroOf P H f t = some z0 ∧ lookB st.B d = none ∧ z = .ptr ⟨st.L.length, d⟩ 0 ∧ s = { st with B := (d, z0.cells) :: st.B } ∧ fp = .all) ∨
    (∃ t a d x, o.op = .box t a ∧ o.dst = some d ∧ xs = [x] ∧ lookB st.B d = none ∧ x.cells.length = P.cellsOf t ∧ x.oks = true ∧ z = .ptr ⟨st.L.length, d⟩ 0 ∧ s = { st with B := (d, x.cells) :: st.B } ∧ fp = .all) ∨
    (∃ c fo fv args, o.op = .call c ∧ c.callee = .value fo ∧ xs = fv :: args ∧ vcallV C fv args st = some (z, s) ∧ fp = (if pureCall fv args then .none else .all)) ∨
    (rootOf o.op xs = none ∧ opSem P H f (takes H f o) o.op o.type xs none = some (z, none) ∧ s = st ∧ fp = .none) ∨
    (∃ r, rootOf o.op xs = some r ∧ opSem P H f (takes H f o) o.op o.type xs (st.box r) = some (z, none) ∧ s = st ∧ fp = .root r (rangeOf P o.op xs).1 (rangeOf P o.op xs).2 false) ∨
    (∃ r c, rootOf o.op xs = some r ∧ opSem P H f (takes H f o) o.op o.type xs (st.box r) = some (z, some c) ∧ (wptrs o.op xs).all (fun p => decide (p.lvl ≤ r.lvl)) = true ∧ s = st.setBox r c ∧ fp = .root r (rangeOf P o.op xs).1 (rangeOf P o.op xs).2 true) := by
  unfold stepM at hx
  split at hx
  · rename_i t hop
    split at hx
    · rename_i d z0 hd hz
      split at hx
      · rename_i hl
        obtain ⟨rfl, rfl, rfl⟩ := some3 hx
        exact .inl ⟨t, d, z0, hop, hd, hz, by simpa using hl, rfl, rfl, rfl⟩
      · cases hx
    · cases hx
  · rename_i t a hop
    split at hx
    · rename_i d x hd
      split at hx
      · rename_i hl
        obtain ⟨rfl, rfl, rfl⟩ := some3 hx
        exact .inr (.inl ⟨t, a, d, x, hop, hd, rfl, by simpa using hl.1, hl.2.1, hl.2.2, rfl, rfl, rfl⟩)
      · cases hx
    · cases hx
  · rename_i fo a1 a2 hop
    split at hx
    · rename_i fv args
      obtain ⟨⟨v, s'⟩, h1, h2⟩ := Option.map_eq_some_iff.1 hx
      obtain ⟨rfl, rfl, rfl⟩ := some3 (congrArg some h2)
      exact .inr (.inr (.inl ⟨_, fo, fv, args, hop, rfl, rfl, h1, rfl⟩))
    · cases hx
  · split at hx
    · rename_i hr
      split at hx
      · rename_i v hv
        obtain ⟨rfl, rfl, rfl⟩ := some3 hx
        exact .inr (.inr (.inr (.inl ⟨hr, hv, rfl, rfl⟩)))
      · cases hx
    · rename_i r hr
      split at hx
      · rename_i v hv
        obtain ⟨rfl, rfl, rfl⟩ := some3 hx
        exact .inr (.inr (.inr (.inr (.inl ⟨r, hr, hv, rfl, rfl⟩))))
      · rename_i v c hv
        split at hx
        · rename_i hall
          obtain ⟨rfl, rfl, rfl⟩ := some3 hx
          simp only [Bool.and_eq_true] at hall
          exact .inr (.inr (.inr (.inr (.inr ⟨r, c, hr, hv, hall.1, rfl, rfl⟩))))
        · cases hx
      · cases hx

theorem rootOf_some {op : Op} {xs : List V} {r : Root} (h : rootOf op xs = some r) : ∃ off rest, xs = .ptr r off :: rest ∧ ((∃ t a, op = .load t a) ∨ ∃ t a x, op = .store t a x) := by
  unfold rootOf at h
  split at h
  · cases h; exact ⟨_, _, rfl, .inl ⟨_, _, rfl⟩⟩
  · cases h; exact ⟨_, _, rfl, .inr ⟨_, _, _, rfl⟩⟩
  · cases h

theorem uponIn_called {F : Fence} (hFF : F = Fence.wide ∨ ∃ l, F = Fence.wide.inRound l) {o : Oper} {a : Act} {K : Act → World → Prop} {Q : Exit → Act → World → Prop} {g : FuncId} {args : Array Value} {w : World}
    {ext : Prop} (h : Does ext P g args w fun v w' => K (a.put o.dst v) w') : o.uponIn F 0 P a K Q ((callFunc g args).run P w) := by
  rcases h with ⟨h1, h2⟩ | ⟨_, v, w', h1, h2⟩
  · rw [h1, Oper.uponIn_enter]
    refine ⟨fun hd => by rcases hFF with rfl | ⟨l, rfl⟩ <;> simp [Fence.wide, Fence.inRound] at hd, ?_⟩
    have h3 : CallsIn Fence.wide (0 - 1) P g args w fun
      | .returned v, w'' => K (a.put o.dst v) w''
      | .panicked chain, w'' => Q (.panic chain) a w''
      | .outgrown, _ => LetsOut Q := callsIn_wide.2 (h2.mono fun e w' ⟨v, he, hk⟩ => by subst he; exact hk)
    rcases hFF with rfl | ⟨l, rfl⟩
    · exact h3
    · exact h3
  · rw [h1, Oper.uponIn_value]; exact h2

theorem dullAt_none (E : List V) : dullAt E [] = E := rfl

/-- ONE OPERATION -/
theorem step_ok {C : Orc} (hC : OrcOk P C) {F : Fence} (hFF : F = Fence.wide ∨ ∃ l, F = Fence.wide.inRound l) {w0 : World} {X0 : Cx} {Md : Md} {n : Nat} {st st' : St} {a : Act} {o : Oper} (hS : Sim w0 X0 Md n st a.tmps w)
    (hx : stepOp P H C f o st = some st') {K : Act → World → Prop} {Q : Exit → Act → World → Prop} (hK : ∀ v w', Sim w0 X0 Md n st' (a.put o.dst v).tmps w' → K (a.put o.dst v) w') : o.wpIn F 0 P a w K Q := by
  obtain ⟨X, O, h, hF⟩ := hS
  unfold stepOp stepFp at hx
  obtain ⟨⟨st2, fp⟩, hx1, hx2⟩ := Option.map_eq_some_iff.1 hx
  clear hx
  simp only at hx2; subst hx2
  split at hx1
  · cases hx1
  · rename_i hn0
    have hn : takes H f o = true → nodupT (tmpsOf o) = true := fun ht => by simpa [ht] using hn0
    obtain ⟨⟨z, s, fp'⟩, hm, he⟩ := Option.map_eq_some_iff.1 hx1
    obtain ⟨rfl, rfl⟩ := Prod.mk.inj he
    clear hx1 he
    have hab : ∀ g, o.about P w a.eval = some g → F.fn g := fun g _ => by rcases hFF with rfl | ⟨l, rfl⟩ <;> trivial
    refine ⟨hab, ?_⟩
    obtain ⟨Oin, hrep, hs, hlin⟩ := rel_operands (H := H) (f := f) h o _ hn
    have hin : ∀ b ∈ Oin, ∃ t ∈ tmpsOf o, b ∈ O (.tmp t) := fun b hb => (hs b hb).2
    have hnil : takes H f o = false → Oin = [] := fun ht => by
      cases Oin with
      | nil => rfl
      | cons b l => have := (hs b (by simp)).1; rw [ht] at this; cases this
    have hst1 : (if takes H f o = true then { st with E := dullAt st.E (tmpsOf o) } else st) = { st with E := dullAt st.E (if takes H f o = true then tmpsOf o else []) } := by split <;> rfl
    rw [hst1] at hm
    generalize hT : (if takes H f o = true then tmpsOf o else []) = T at hm
    have hin' : ∀ b ∈ Oin, ∃ t ∈ T, b ∈ O (.tmp t) := fun b hb => by
      have h1 := (hs b hb).1
      rw [if_pos h1] at hT; subst hT; exact hin b hb
    rcases stepM_cases hm with ⟨t, d, z0, hop, hd, hz, hlb, rfl, rfl, rfl⟩ | ⟨t, ao, d, x, hop, hd, hxs, hlb, hxl, hok, rfl, rfl, rfl⟩ | ⟨c, fo, fv, args, hop, hcal, hxs, hv, _⟩ | ⟨hr, hsem, rfl, _⟩ | ⟨r, hr, hsem, rfl, _⟩ | ⟨r, c, hr, hsem, hall, rfl, _⟩
    · -- alloc
      rw [Oper.semAt_eq _ _ _ (by intro c hc; rw [hop] at hc; cases hc)]
      obtain ⟨i, u, hi, hu, rfl⟩ := zero_info hz
      have hrun : (execOp a.eval o).run P w = .ok (.value (.pointer (some ⟨w.heap.size, 0, none⟩))) (w.alloc (.cells u.cells t)) := by
        simp only [execOp, hop, Instr.alloc, Sem.run_bind, zeroValue, typeInfo, run_program, Result.andThen_ok, hi, hu, Sem.run_pure, newVar, newRow, run_newObj_alloc]
      rw [hrun, Oper.uponIn_value]
      refine hK _ _ ⟨X.setβ ⟨st.L.length, d⟩ w.heap.size, newO (putO O T none st.E.length []) ⟨st.L.length, d⟩ d [], ?_⟩
      rw [putT_eq, hd]
      have h1 := h.taken T
      have hF1 := Fr.taken h hF T
      exact ⟨h1.newBox hlb (rep_constCells _ _) Lin.nil (by simp) (fun r hr => by
          obtain ⟨y, hy, hr⟩ := mem_ptrsL.1 hr
          have := ptrs_ofConst (H.precise f) u
          exact absurd hr (by
            intro hr
            have h2 : r ∈ ptrsL (ofConst (H.precise f) u).cells := mem_ptrsL.2 ⟨y, hy, hr⟩
            have h3 := mem_cells h2
            rw [this] at h3; simp at h3)), Fr.newBox h1 hF1 hlb (by simp)⟩
    · -- box
      rw [Oper.semAt_eq _ _ _ (by intro c hc; rw [hop] at hc; cases hc)]
      have hops : o.op.operands.toList = [ao] := by rw [hop]; rfl
      rw [hops] at hrep hxs
      simp only [List.map_cons, List.map_nil, List.cons.injEq, and_true] at hxs
      subst hxs
      simp only [List.map_cons, List.map_nil, RepL] at hrep
      obtain ⟨u, vs, O1, O2, hu, rfl, hr1, rfl, rfl⟩ := hrep
      simp only [List.cons.injEq, and_true] at hu
      subst hu
      have hrun : (execOp a.eval o).run P w = .ok (.value (.pointer (some ⟨w.heap.size, 0, none⟩))) (w.alloc (.cells (a.eval ao).cells t)) := by
        simp only [execOp, hop, Instr.box, Sem.run_bind, Result.andThen_ok, Sem.run_pure, newVar, newRow, run_newObj_alloc]
      rw [hrun, Oper.uponIn_value]
      refine hK _ _ ⟨X.setβ ⟨st.L.length, d⟩ w.heap.size, newO (putO O T none st.E.length []) ⟨st.L.length, d⟩ d O1, ?_⟩
      rw [putT_eq, hd]
      have h1 := h.taken T
      have hF1 := Fr.taken h hF T
      have hfree := h.free (T := T) (Oin := O1 ++ []) (O' := O1) hin' (fun b hb => .inl (by simpa using hb))
      refine ⟨h1.newBox hlb (rep_cells hok hr1).1 (by simpa using hlin) (fun k hk q hq hkq => ?_) (fun r hr => ?_), Fr.newBox h1 hF1 hlb (fun k hk => ?_)⟩
      · cases q with
        | tmp s =>
          simp only [putO] at hkq
          rw [if_neg (by simp)] at hkq
          split at hkq
          · simp at hkq
          · rename_i hns; exact hfree k hk (.tmp s) (fun t ht e => hns (by cases e; exact ht)) hkq
        | box r => exact hfree k hk (.box r) (fun t _ e => by cases e) hkq
      · have h2 := mem_cells hr
        exact h.ptrE r (rd_ptrs h2)
      · obtain ⟨t', _, hkt⟩ := hin' k (by simpa using hk)
        exact hF.own _ k hkt
    · -- a call
      rw [Oper.semAt_eq _ _ _ (by intro c hc; rw [hop] at hc; cases hc)]
      have hops : o.op.operands.toList = fo :: c.args.toList := by rw [hop]; simp [Op.operands, Call.operands, hcal]
      rw [hops] at hrep hxs
      simp only [List.map_cons, List.cons.injEq] at hxs
      obtain ⟨hfv, hargs⟩ := hxs
      simp only [List.map_cons, RepL] at hrep
      obtain ⟨u, vs, O1, O2, hu, rfl, hr1, hr2⟩ := hrep
      rw [hfv] at hr1; rw [hargs] at hr2
      simp only [List.cons.injEq] at hu
      obtain ⟨rfl, rfl⟩ := hu
      have hpE : ∀ q, q ∈ fv.ptrs ∨ q ∈ ptrsL args → (st.box q).isSome = true := fun q hq => by
        refine h.ptrE q ?_
        rcases hq with hq | hq
        · rw [← hfv] at hq; exact rd_ptrs hq
        · rw [← hargs] at hq; exact rdL_ptrs hq
      have hexec : execOp a.eval o = (do let d ← resolve a.eval c o.type; invoke d.target d.args) := by simp only [execOp, hop]
      have hres : resolve a.eval c o.type = Deferred.ofValue (a.eval fo) (c.args.map a.eval) := by simp only [resolve, hcal]
      rw [hexec, hres]
      cases fv with
      | fn g first cap =>
        simp only [Rep] at hr1
        obtain ⟨va, vc, A1, A2, hv1, rfl, ha1, ha2⟩ := hr1
        rw [hv1]
        have hrun : (Deferred.ofValue (.func (.func g) va.toArray vc.toArray) (c.args.map a.eval) >>= fun d => invoke d.target d.args).run P w = (callFunc g (va ++ c.args.toList.map a.eval ++ vc).toArray).run P w := by
          simp only [Deferred.ofValue, Sem.run_bind, Sem.run_pure, Result.andThen_ok, invoke]
          congr 2
          apply Array.ext'
          simp
        have hall : RepL w X (first ++ args ++ cap) (va ++ c.args.toList.map a.eval ++ vc) (A1 ++ O2 ++ A2) := repL_append (repL_append ha1 hr2) ha2
        have hcount : ∀ b, (A1 ++ O2 ++ A2).count b = (A1 ++ A2 ++ O2).count b := fun b => by simp only [List.count_append]; omega
        have hv' : vcall C g (first ++ args ++ cap) { st with E := dullAt st.E T } = some (z, s) := hv
        have hcall := call_ok (d := o.dst) hC.call h hF (T := T) rfl hall (fun b hb => hin' b (by
            have := hcount b
            have h1 := List.count_pos_iff.2 hb
            exact List.count_pos_iff.1 (by omega))) (fun b => by rw [hcount]; exact hlin b) (fun q hq => by
            rw [ptrsL_append, ptrsL_append] at hq
            simp only [List.mem_append] at hq
            refine hpE q ?_
            rcases hq with (hq | hq) | hq
            · exact .inl (by simp [V.ptrs, hq])
            · exact .inr hq
            · exact .inl (by simp [V.ptrs, hq])) hv'
        rw [hrun]
        exact uponIn_called hFF (hcall.mono id fun v w' ⟨X', O', h1, h2, _⟩ => hK v w' (by rw [putT_eq]; exact ⟨X', O', h1, h2⟩))
      | yld r =>
        simp only [Rep] at hr1
        obtain ⟨rfl, b, hb, hv1⟩ := hr1
        rw [hv1]
        obtain ⟨h1, hF1, hhand⟩ := handed (T := T) h hF (args := args) (Oa := O2) (by simpa using hr2) (fun b hb => hin' b (by simpa using hb))
        have hv' : vround C r args { st with E := dullAt st.E T } = some (z, s) := hv
        obtain ⟨lo, hlo, hlen, hround⟩ := round_ok hC h1 hF1 hhand (fun q hq => hpE q (.inr hq)) hv' (b := b) hb
        have hsz : (c.args.map a.eval).size = lo.params.size := by rw [← hlen]; simp
        have hrun : (Deferred.ofValue (.func (.yield b) #[] #[]) (c.args.map a.eval) >>= fun d => invoke d.target d.args).run P w = .ok (.round b lo.fn ((lo.params.zip (c.args.map a.eval)).foldl (fun tmps (t, a) => tmps.setIfInBounds t a) lo.tmps) lo.assign lo.body) w := by
          simp only [Deferred.ofValue, Sem.run_bind, Sem.run_pure, Result.andThen_ok, invoke, Array.empty_append]
          exact run_yield hlo hsz
        rw [hrun, Oper.uponIn_round]
        refine ⟨fun hd => by rcases hFF with rfl | ⟨l, rfl⟩ <;> simp [Fence.wide, Fence.inRound] at hd, ?_⟩
        have harr : (c.args.toList.map a.eval).toArray = c.args.map a.eval := by apply Array.ext'; simp
        have h3 := hround F hFF
        rw [harr] at h3
        refine RoundIn.mono h3 ?_
        intro e w' he
        cases e with
        | returned v =>
          obtain ⟨X', O', hR', hF', hz', hzp⟩ := he
          refine hK v w' ⟨X', putO O' [] o.dst s.E.length [], ?_⟩
          rw [putT_eq]
          exact ⟨hR'.put0 o.dst hz' Lin.nil (by simp) (by simp [hzp]), hF'.put0 o.dst (by simp)⟩
        | panicked ch => exact he.elim
        | outgrown => exact he.elim
      | _ => simp [vcallV] at hv
    · -- a value
      have hnd : ∀ c, o.op ≠ .defer c := by intro c hc; rw [hc] at hsem; simp [opSem] at hsem
      rw [Oper.semAt_eq _ _ _ hnd]
      obtain ⟨v, w', hrun, hSim⟩ := step_value h hF hn hsem
      rw [hrun, Oper.uponIn_value]
      refine hK v w' ?_
      rw [hst1, hT] at hSim
      exact hSim
    · -- a load that leaves the box as it is
      obtain ⟨off, rest, hxs, hop⟩ := rootOf_some hr
      rcases hop with ⟨t, ao, hop⟩ | ⟨t, ao, xo, hop⟩
      · rw [Oper.semAt_eq _ _ _ (by intro c hc; rw [hop] at hc; cases hc)]
        have hops : o.op.operands.toList = [ao] := by rw [hop]; rfl
        rw [hops] at hrep hxs
        simp only [List.map_cons, List.map_nil, List.cons.injEq] at hxs
        obtain ⟨hx1, rfl⟩ := hxs
        simp only [List.map_cons, List.map_nil, RepL] at hrep
        obtain ⟨u, vs, O1, O2, hu, rfl, hr1, rfl, rfl⟩ := hrep
        simp only [List.cons.injEq, and_true] at hu
        subst hu
        rw [hx1] at hr1
        have hbx : ∃ cs, ({ st with E := dullAt st.E T } : St).box r = some cs := by
          cases hh : ({ st with E := dullAt st.E T } : St).box r with
          | some cs => exact ⟨cs, rfl⟩
          | none => rw [hops, List.map_cons, List.map_nil, hx1, hop, hh] at hsem; simp [opSem] at hsem
        obtain ⟨cs, hcs⟩ := hbx
        rw [hops, List.map_cons, List.map_nil, hx1, hop, hcs] at hsem
        simp only [opSem] at hsem
        obtain ⟨v, hrun, hSim⟩ := step_load (dst := o.dst) (h.taken T) (Fr.taken h hF T) hr1 hcs hsem
        have hrun' : (execOp a.eval o).run P w = .ok (.value v) w := by simp only [execOp, hop, Sem.run_bind, hrun, Result.andThen_ok, Sem.run_pure]
        rw [hrun', Oper.uponIn_value]
        exact hK v w hSim
      · have hops : o.op.operands.toList = [ao, xo] := by rw [hop]; rfl
        rw [hops] at hxs hsem
        simp only [List.map_cons, List.map_nil, List.cons.injEq] at hxs
        obtain ⟨hx1, rfl⟩ := hxs
        rw [List.map_cons, List.map_cons, List.map_nil, hx1, hop] at hsem
        simp only [opSem] at hsem
        split at hsem
        · split at hsem <;> simp at hsem
        · cases hsem
    · obtain ⟨off, rest, hxs, hop⟩ := rootOf_some hr
      rcases hop with ⟨t, ao, hop⟩ | ⟨t, ao, xo, hop⟩
      · -- a load that takes
        rw [Oper.semAt_eq _ _ _ (by intro c hc; rw [hop] at hc; cases hc)]
        have hops : o.op.operands.toList = [ao] := by rw [hop]; rfl
        rw [hops] at hrep hxs
        simp only [List.map_cons, List.map_nil, List.cons.injEq] at hxs
        obtain ⟨hx1, rfl⟩ := hxs
        simp only [List.map_cons, List.map_nil, RepL] at hrep
        obtain ⟨u, vs, O1, O2, hu, rfl, hr1, rfl, rfl⟩ := hrep
        simp only [List.cons.injEq, and_true] at hu
        subst hu
        rw [hx1] at hr1
        have hbx : ∃ cs, ({ st with E := dullAt st.E T } : St).box r = some cs := by
          cases hh : ({ st with E := dullAt st.E T } : St).box r with
          | some cs => exact ⟨cs, rfl⟩
          | none => rw [hops, List.map_cons, List.map_nil, hx1, hop, hh] at hsem; simp [opSem] at hsem
        obtain ⟨cs, hcs⟩ := hbx
        rw [hops, List.map_cons, List.map_nil, hx1, hop, hcs] at hsem
        simp only [opSem] at hsem
        obtain ⟨v, hrun, hSim⟩ := step_load (dst := o.dst) (h.taken T) (Fr.taken h hF T) hr1 hcs hsem
        have hrun' : (execOp a.eval o).run P w = .ok (.value v) w := by simp only [execOp, hop, Sem.run_bind, hrun, Result.andThen_ok, Sem.run_pure]
        rw [hrun', Oper.uponIn_value]
        exact hK v w hSim
      · -- a store
        rw [Oper.semAt_eq _ _ _ (by intro c hc; rw [hop] at hc; cases hc)]
        have htk : takes H f o = true := by simp [takes, hop, takesOp]
        have hops : o.op.operands.toList = [ao, xo] := by rw [hop]; rfl
        rw [hops] at hrep hxs
        simp only [List.map_cons, List.map_nil, List.cons.injEq] at hxs
        obtain ⟨hx1, rfl⟩ := hxs
        simp only [List.map_cons, List.map_nil, RepL] at hrep
        obtain ⟨u, vs, O1, O2, hu, rfl, hr1, u2, vs2, O3, O4, hu2, rfl, hr2, rfl, rfl⟩ := hrep
        simp only [List.cons.injEq] at hu
        obtain ⟨rfl, rfl⟩ := hu
        simp only [List.cons.injEq, and_true] at hu2
        subst hu2
        rw [hx1] at hr1
        have hO1 : O1 = [] := by simp only [Rep] at hr1; exact hr1.1
        subst hO1
        rw [hops, List.map_cons, List.map_cons, List.map_nil, hx1, hop] at hsem
        simp only [opSem] at hsem
        split at hsem
        · rename_i cs hcs
          split at hsem
          · rename_i hcond
            simp only [Option.some.injEq, Prod.mk.injEq] at hsem
            obtain ⟨rfl, rfl⟩ := hsem
            obtain ⟨w', hrun, hSim⟩ := step_store (dst := o.dst) (T := T) h hF hr1 hr2 (fun b hb => hin' b (by simpa using hb)) (by simpa using hlin) hcs hcond (fun r' hr' => h.ptrE r' (rd_ptrs hr')) (fun r' hr' => by
              rcases ptrs_splice r' hr' with h2 | h2
              · exact h.up r cs hcs r' h2
              · rw [hops, List.map_cons, List.map_cons, List.map_nil, hx1, hop] at hall
                have := List.all_eq_true.1 hall r' (mem_cells h2); simpa using this)
            have hrun' : (execOp a.eval o).run P w = .ok .skip w' := by simp only [execOp, hop, Sem.run_bind, hrun, Result.andThen_ok, Sem.run_pure]
            rw [hrun', Oper.uponIn_skip]
            exact hK _ w' hSim
          · cases hsem
        · cases hsem
end Go.Ab
