/-
  A ROUND; ONE OPERATION.
-/
import Derived.Test.YtpiggpgocnlomaaAbO
set_option linter.unusedVariables false
namespace Go.Ab
open Go
variable {P : Program} {H : Hints} {f : FuncId} {w : World} {X : Cx}

/-- what is handed over is frozen -/
theorem handed {w0 : World} {X0 : Cx} {Md : Md} {n : Nat} {st : St} {tmps : Array Value} {O : Pl → List Nat} (h : Rel st tmps w X O) (hF : Fr w0 X0 Md n st w X O) {args : List V} {vals : List Value} {Oa : List Nat} {T : List Tmp}
    (ha : RepL w X args vals Oa) (hin : ∀ b ∈ Oa, ∃ t ∈ T, b ∈ O (.tmp t)) :
    Rel { st with E := dullAt st.E T } tmps w (X.freeze Oa) (putO O T none st.E.length []) ∧ Fr w0 X0 Md n { st with E := dullAt st.E T } w (X.freeze Oa) (putO O T none st.E.length []) ∧
      RepL w (X.freeze Oa) (args.map V.hand) vals [] := by
  have hOaω := repL_own args vals Oa ha
  have heff := eff_freeze h.dom hOaω
  have h1 := h.put (T := T) (d := none) (z := .undef) (v := undef) (O' := []) hin heff (by simp [Rep]) Lin.nil (by simp) (by simp [V.ptrs])
  have hF1 := Fr.put (z := .undef) h hF (T := T) (O' := []) none hin heff (by simp)
  exact ⟨h1, hF1, by rw [show args.map V.hand = reflagL flHand args from (reflagL_eq_map _ _).symm]; exact repL_hand ha⟩

theorem lp_set {w0 : World} {X0 : Cx} {Md : Md} {n : Nat} {st : St} {tmps : Array Value} {O : Pl → List Nat} (h : Rel st tmps w X O) (hF : Fr w0 X0 Md n st w X O) {r : Root} {b : Nat} {s : LoopState} {pe : Option Code} {g : FuncId} {env : List V} {ps : List Tmp} {as bo : Code}
    (hst : st.box r = some [.lp s pe g env ps as bo]) (hb : X.β r = some b) :
    ∃ lo : Loop, w.heap[b]? = some (.loop lo) ∧ lo.state = s ∧ lo.pending = pe ∧ lo.params.toList = ps ∧ lo.assign = as ∧ lo.body = bo ∧ RepL w X env lo.tmps.toList [] ∧
      (∀ k, w.heap[k]? = some (.deferred (some [])) → k ≠ b) ∧
      ∀ s' pe', Rel (st.setBox r [.lp s' pe' g env ps as bo]) tmps (w.putObj b (.loop { lo with state := s', pending := pe' })) X (setO O r []) ∧
        Fr w0 X0 Md n (st.setBox r [.lp s' pe' g env ps as bo]) (w.putObj b (.loop { lo with state := s', pending := pe' })) X (setO O r []) := by
  obtain ⟨b', hb', hlt, hω, hbx⟩ := h.box r _ hst
  obtain rfl : b = b' := by rw [hb] at hb'; exact Option.some.inj hb'
  rcases hbx with ⟨cs, t, _, h2⟩ | ⟨s1, pe1, g1, env1, ps1, asg, body, lo, hc, hw, h1, h2, _, h3, h4, h5, h6, h7⟩
  · have := isLp_rep h2; simp [isLp] at this
  · simp only [List.cons.injEq, V.lp.injEq, and_true] at hc
    obtain ⟨rfl, rfl, rfl, rfl, rfl, rfl, rfl⟩ := hc
    refine ⟨lo, hw, h1, h2, h3, h4, h5, h6, fun k hk e => ?_, fun s' pe' => ?_⟩
    · subst e; rw [hw] at hk; cases hk
    · have hk : ∀ k, k ≠ b → (w.putObj b (.loop { lo with state := s', pending := pe' })).heap[k]? = w.heap[k]? := fun k hk => World.putObj_heap_other hk
      have hsz : (w.putObj b (.loop { lo with state := s', pending := pe' })).heap.size = w.heap.size := by simp [World.putObj]
      refine ⟨h.setBox hst hb hk hsz ?_ Lin.nil (by simp) (fun r' hr' => ?_), Fr.setBox h hF hst hb rfl hk hsz (by simp) rfl rfl rfl⟩
      · exact .inr ⟨s', pe', g, env, ps, as, bo, { lo with state := s', pending := pe' }, rfl, World.putObj_heap_same hlt, rfl, rfl, rfl, h3, h4, h5, repL_box hω hk h6, rfl⟩
      · have hr2 : r' ∈ ptrsL [V.lp s pe g env ps as bo] := by simpa [ptrsL, V.ptrs] using hr'
        exact ⟨h.ptrB r _ hst r' hr2, h.up r _ hst r' hr2⟩

theorem repL_set : ∀ (i : Nat) {l : List V} {vals : List Value} {x : V} {v : Value}, RepL w X l vals [] → Rep w X x v [] → RepL w X (l.set i x) (vals.set i v) []
  | i, [], vals, x, v, h, hx => by simp only [RepL] at h; simp [h.1, RepL]
  | 0, y :: l, vals, x, v, h, hx => by
    simp only [RepL] at h
    obtain ⟨u, vs, O1, O2, rfl, hO, h1, h2⟩ := h
    simp only [List.nil_eq, List.append_eq_nil_iff] at hO
    obtain ⟨rfl, rfl⟩ := hO
    simp only [List.set_cons_zero, RepL]
    exact ⟨v, vs, [], [], rfl, rfl, hx, h2⟩
  | i + 1, y :: l, vals, x, v, h, hx => by
    simp only [RepL] at h
    obtain ⟨u, vs, O1, O2, rfl, hO, h1, h2⟩ := h
    simp only [List.nil_eq, List.append_eq_nil_iff] at hO
    obtain ⟨rfl, rfl⟩ := hO
    simp only [List.set_cons_succ, RepL]
    exact ⟨u, _, [], [], rfl, rfl, h1, repL_set i h2 hx⟩

theorem repL_zipSet : ∀ (ps : List Tmp) (args : List V) (vals : List Value) (env : List V) (tmps : Array Value), RepL w X env tmps.toList [] → RepL w X args vals [] →
    RepL w X (zipSet env ps args) ((ps.zip vals).foldl (fun tmps (t, a) => tmps.setIfInBounds t a) tmps).toList []
  | [], args, vals, env, tmps, h, _ => by simpa [zipSet] using h
  | t :: ps, [], vals, env, tmps, h, ha => by simp only [RepL] at ha; simpa [zipSet, ha.1] using h
  | t :: ps, x :: args, vals, env, tmps, h, ha => by
    simp only [RepL] at ha
    obtain ⟨u, vs, O1, O2, rfl, hO, h1, h2⟩ := ha
    simp only [List.nil_eq, List.append_eq_nil_iff] at hO
    obtain ⟨rfl, rfl⟩ := hO
    simp only [zipSet, List.zip_cons_cons, List.foldl_cons]
    exact repL_zipSet ps args vs (env.set t x) (tmps.setIfInBounds t u) (by rw [Array.toList_setIfInBounds]; exact repL_set t h h1) h2

theorem ptrs_zipSet : ∀ (ps : List Tmp) (args env : List V) (r : Root), r ∈ ptrsL (zipSet env ps args) → r ∈ ptrsL env ∨ r ∈ ptrsL args
  | [], args, env, r, h => .inl (by simpa [zipSet] using h)
  | t :: ps, [], env, r, h => .inl (by simpa [zipSet] using h)
  | t :: ps, x :: args, env, r, h => by
    rcases ptrs_zipSet ps args (env.set t x) r h with h1 | h1
    · rcases mem_set h1 with h2 | h2
      · exact .inl h2
      · exact .inr (by simp [ptrsL, h2])
    · exact .inr (by simp [ptrsL, h1])

/-- A ROUND OF A LOOP OVER A FUNCTION -/
theorem round_ok {C : Orc} (hC : OrcOk P C) {w0 : World} {X0 : Cx} {Md : Md} {n : Nat} {st : St} {tmps : Array Value} {O : Pl → List Nat} (h : Rel st tmps w X O) (hF : Fr w0 X0 Md n st w X O) {r : Root} {args : List V} {vals : List Value} {z : V} {s : St} {b : Nat}
    (ha : RepL w X (args.map V.hand) vals []) (hpa : ∀ q ∈ ptrsL args, (st.box q).isSome = true) (hx : vround C r args st = some (z, s)) (hb : X.β r = some b) :
    ∃ lo : Loop, w.heap[b]? = some (.loop lo) ∧ vals.length = lo.params.size ∧ ∀ F : Fence, (F = Fence.wide ∨ ∃ l, F = Fence.wide.inRound l) →
      RoundIn F 0 P b lo.fn ((lo.params.zip vals.toArray).foldl (fun tmps (t, a) => tmps.setIfInBounds t a) lo.tmps) lo.assign lo.body w fun
        | .returned v, w' => ∃ X' O', Rel s tmps w' X' O' ∧ Fr w0 X0 Md n s w' X' O' ∧ Rep w' X' z v [] ∧ z.ptrs = []
        | _, _ => False := by
  unfold vround at hx
  split at hx
  · rename_i pe g env ps assign body hst
    split at hx
    · cases hx
    · rename_i hlen
      split at hx
      · rename_i s2 hA
        split at hx
        · rename_i pe2 g2 env2 ps2 as2 bo2 hs2
          split at hx
          · rename_i e s3 hB
            split at hx
            · rename_i st3 pe3 g3 env3 ps3 as3 bo3 hs3
              split at hx
              · rename_i L B hsp
                split at hx
                · rename_i hll
                  obtain ⟨rfl, rfl⟩ := Prod.mk.inj (Option.some.inj hx)
                  obtain ⟨lo, hw, hst1, hpe1, hps, has, hbo, henv, hnm, _⟩ := lp_set h hF hst hb
                  have hvl : vals.length = args.length := by have := repL_length _ _ _ ha; simpa using this.symm
                  refine ⟨lo, hw, by rw [hvl, ← Array.length_toList, hps]; exact Classical.not_not.1 hlen, fun F hFF => ?_⟩
                  have hFn : F.fn lo.fn := by rcases hFF with rfl | ⟨l, rfl⟩ <;> trivial
                  have hFr : F.inRound b = Fence.wide.inRound b := by rcases hFF with rfl | ⟨l, rfl⟩ <;> rfl
                  have hzip : (lo.params.zip vals.toArray).foldl (fun tmps (t, a) => tmps.setIfInBounds t a) lo.tmps = (ps.zip vals).foldl (fun tmps (t, a) => tmps.setIfInBounds t a) lo.tmps := by
                    rw [← Array.foldl_toList, Array.toList_zip, hps]
                  rw [hzip]
                  refine roundIn_of_wpIn hFn ?_
                  rw [hFr, has, hbo]
                  have hlive : ∀ q, (st.box q).isSome = (boxL (st.L ++ [st.B]) q).isSome := fun q => by rw [box_boxL]
                  obtain ⟨hR1, hF1⟩ := rel_frame h.lrel (E := zipSet env ps (args.map V.hand)) (tmps := (ps.zip vals).foldl (fun tmps (t, a) => tmps.setIfInBounds t a) lo.tmps) (repL_zipSet ps _ vals env lo.tmps henv ha) (fun q hq => by
                    rw [← hlive]
                    rcases ptrs_zipSet _ _ _ _ hq with h1 | h1
                    · exact h.ptrB r _ hst q (by simpa [ptrsL, V.ptrs] using h1)
                    · rw [show args.map V.hand = reflagL flHand args from (reflagL_eq_map _ _).symm, ptrsL_reflag] at h1; exact hpa q h1)
                  have hbl : boxL (st.L ++ [st.B]) r = some [.lp .ready pe g env ps assign body] := by rw [← box_boxL]; exact hst
                  have hrl : r.lvl < (st.L ++ [st.B]).length := boxL_lt (by rw [hbl]; rfl)
                  have hFO : FOk (Fence.wide.inRound b) X (Mod (st.L ++ [st.B]) X fun q => O (.box q)) (st.L ++ [st.B]).length :=
                    ⟨.inr ⟨r, b, rfl, hrl, hb, by show (boxL (st.L ++ [st.B]) r).map isLp = some true; rw [hbl]; rfl⟩, fun h0 => by simp at h0⟩
                  refine wpIn_mono (hC.code _ _ _ _ _ _ hA _ w X _ _ { tmps := _, defers := [] } w hFO ⟨X, _, hR1, hF1, [], rfl, .nil, by simp⟩).wp ?_
                  rintro e1 a1 w1 ⟨rfl, X1, O1, hR2, hF2, hM2⟩
                  have hb2 : X1.β r = some b := by rw [hF2.β r hrl, hb]
                  obtain ⟨lo2, hw2, hs2s, hs2p, hs2ps, hs2a, hs2b, hs2e, hnm2, hset2⟩ := lp_set hR2 hF2 hs2 hb2
                  refine ⟨_, run_beginRound hw2 hs2s, ?_⟩
                  obtain ⟨hR3, hF3⟩ := hset2 .busy pe2
                  rw [show (w1.putObj b (.loop { lo2 with state := .busy })) = w1.putObj b (.loop { lo2 with state := .busy, pending := pe2 }) from by rw [← hs2p]]
                  refine wpIn_mono (hC.code _ _ _ _ _ _ hB _ w X _ _ a1 _ hFO ⟨X1, _, hR3, hF3, hM2.of fun k hk _ _ => ⟨World.putObj_heap_other (hnm2 k hk), rfl⟩⟩).wp ?_
                  rintro e2 a2 w3 ⟨rfl, X3, O3, hR4, hF4, hM4⟩
                  have hb3 : X3.β r = some b := by rw [hF4.β r hrl, hb]
                  obtain ⟨lo3, hw3, _, _, _, _, _, _, _, hset3⟩ := lp_set hR4 hF4 hs3 hb3
                  obtain ⟨hR5, hF5⟩ := hset3 (if e.code.isNone then .ready else .done) e.code
                  obtain ⟨hlr, hlen', hkind⟩ := rel_leave hR5 hF5
                  have hsp' := lastSplit_eq hsp
                  have haft := fr_aft hF5 (ow := fun b => ∃ q, b ∈ leaveO (st.L ++ [st.B]).length (setO O3 r []) q) (fun b ⟨q, hq⟩ => ⟨.box q, mem_leaveO hq⟩)
                  obtain ⟨hR6, hF6⟩ := call_back h hF hlr hlen' hkind (fun q b hb => ⟨q, hb⟩) haft hsp'
                  have hfin : ∃ v w', (Instr.endRound b e.code).run P w3 = .ok v w' ∧ ∃ X' O', Rel { st with L := L, B := B } tmps w' X' O' ∧ Fr w0 X0 Md n { st with L := L, B := B } w' X' O' ∧ Rep w' X' (.val (.bool e.code.isNone)) v [] ∧ (V.val (.bool e.code.isNone)).ptrs = [] :=
                    ⟨_, _, run_endRound _ hw3, X3, _, hR6, hF6, by simp [Rep], rfl⟩
                  cases e <;> exact hfin
                · cases hx
              · cases hx
            · cases hx
          · cases hx
        · cases hx
      · cases hx
  · cases hx
end Go.Ab
