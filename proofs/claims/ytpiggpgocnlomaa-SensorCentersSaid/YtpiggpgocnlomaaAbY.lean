/-
  FUNCTIONS, AND THE INTERPRETER WITH FUEL: sound.
-/
import Derived.Test.YtpiggpgocnlomaaAbX
set_option linter.unusedVariables false
namespace Go.Ab
open Go
variable {P : Program} {H : Hints} {f : FuncId} {C : Orc} {w : World} {X : Cx}

/-- a world that differs where nothing is said -/
theorem Rel.same {st : St} {tmps : Array Value} {O : Pl → List Nat} {w' : World} (h : Rel st tmps w X O) (hsz : w'.heap.size = w.heap.size)
    (hω : ∀ k e fz, X.ω k = some (e, fz) → w'.heap[k]? = w.heap[k]?) (hb : ∀ k c A, BoxR w X k c A → w'.heap[k]? = w.heap[k]?) : Rel st tmps w' X O := by
  have hext : ∀ R, Ext R w X w' X (fun _ => False) := fun R => {
    β := fun _ _ => rfl
    ω := fun b e fz h => ⟨e, fz, h, Nat.le_refl _, id, fun _ => ⟨rfl, rfl⟩⟩
    cell := fun b e fz i v h _ hc => by rw [cell_of_heap (hω b e fz h)]; exact hc
    obj := fun b e fz c t _ h hc => ⟨c, by rw [hω b e fz h]; exact hc, rfl⟩ }
  exact {
    size := h.size
    env := fun t x hx => by
      obtain ⟨v, hv, hr⟩ := h.env t x hx
      exact ⟨v, hv, Rep.ext (hext _) _ _ _ (fun _ h => h) (by simp) hr⟩
    envD := h.envD
    box := fun r c hr => by
      obtain ⟨b, h1, h2, h3, h4⟩ := h.box r c hr
      exact ⟨b, h1, by omega, h3, h4.keep (hb b c _ h4) fun l vals A _ _ hr => RepL.ext (hext _) _ _ _ (fun _ h => h) (by simp) hr⟩
    boxD := h.boxD
    inj := h.inj
    lin := h.lin
    dis := h.dis
    ptrE := h.ptrE
    ptrB := h.ptrB
    up := h.up
    dom := fun b e fz hb => by have := h.dom b e fz hb; omega }

theorem sum_pos {α : Type} (c : α → Nat) : ∀ l : List α, 0 < (l.map c).sum → ∃ x ∈ l, 0 < c x
  | [], h => by simp at h
  | x :: l, h => by
    simp only [List.map_cons, List.sum_cons] at h
    by_cases hx : 0 < c x
    · exact ⟨x, by simp, hx⟩
    · obtain ⟨y, hy, hc⟩ := sum_pos c l (by omega)
      exact ⟨y, by simp [hy], hc⟩

theorem repL_undef : ∀ n, RepL w X (List.replicate n .undef) (List.replicate n undef) []
  | 0 => by simp [RepL]
  | n + 1 => by
    simp only [List.replicate_succ, RepL]
    exact ⟨undef, _, [], [], rfl, rfl, by simp [Rep], repL_undef n⟩

theorem ptrs_undef : ∀ n, ptrsL (List.replicate n .undef) = []
  | 0 => rfl
  | n + 1 => by simp [List.replicate_succ, ptrsL, V.ptrs, ptrs_undef n]

theorem results_run {fn : Func} {tmps : Array Value} {vals : List Value} (h : (fn.results.toList.mapM (resVal tmps)).run P w = .ok vals w) :
    (results fn tmps).run P w = .ok (if hs : vals.toArray.size = 1 then vals.toArray[0] else .tuple vals.toArray) w := by
  have e : results fn tmps = (fn.results.mapM (resVal tmps) >>= fun vs => pure (if h : vs.size = 1 then vs[0] else .tuple vs)) := by
    unfold results
    refine congrArg (fun (g : ResultVar → Sem Value) => (fn.results.mapM g >>= fun vs => pure (if h : vs.size = 1 then vs[0] else .tuple vs))) ?_
    funext r; cases r <;> rfl
  rw [e, Array.mapM_eq_mapM_toList]
  simp [h]

theorem runF_ok (hC : OrcOk P C) (hm : P.follows .mixedOrders = true) (hname : ∀ (g : FuncId) (fn : Func), P.funcs[g]? = some fn → fn.body.isSome = true → (fn.name == "runtime.NumGoroutine") = false) {g : FuncId} {args : List V} {M M' : List Level} {r : V}
    (hx : runF P H C g args M = some (r, M')) : CallOk P g args M r M' := by
  unfold runF at hx
  split at hx
  · rename_i fn hfn
    split at hx
    · rename_i c hbody
      split at hx
      · rename_i e st hex
        split at hx
        · rename_i he
          split at hx
          · rename_i rs hrs
            split at hx
            · rename_i hchk
              obtain ⟨rfl, rfl⟩ := Prod.mk.inj (Option.some.inj hx)
              simp only [Bool.and_eq_true] at hchk
              obtain ⟨hptr, hkeys⟩ := hchk
              simp only [keysOk, Bool.and_eq_true] at hkeys
              obtain ⟨hdist, hklv⟩ := hkeys
              intro w X vals O ha hL hp hfz
              left
              have hbs : fn.body.isNone = false := by rw [hbody]; rfl
              refine ⟨?_, ?_⟩
              · simp only [callFunc, Sem.run_bind, run_program, Result.andThen_ok, hfn, hname g fn hfn (by rw [hbody]; rfl), hbs, Bool.false_eq_true, if_false, Sem.run_pure]
              · refine callsIn_wide.1 (callsIn_of_wp_marks (n := 0) hfn hbody trivial ?_)
                have hlen := repL_length _ _ _ ha
                have hE : RepL w X (args ++ List.replicate (fn.ntmps - args.length) .undef) (vals.toArray ++ Array.replicate (fn.ntmps - vals.toArray.size) undef).toList [] := by
                  have := repL_append ha (repL_undef (w := w) (X := X) (fn.ntmps - args.length))
                  simpa [hlen] using this
                obtain ⟨hR0, hF0⟩ := rel_frame hL (tmps := vals.toArray ++ Array.replicate (fn.ntmps - vals.toArray.size) undef) hE (fun q hq => by
                  rw [ptrsL_append, ptrs_undef, List.append_nil] at hq; exact hp q hq)
                refine wpIn_mono (ex_ok hC hm c 0 _ e st hex Fence.wide w X _ _ { tmps := _, defers := [] } w ⟨.inl rfl, fun h0 => hfz (List.eq_nil_of_length_eq_zero h0)⟩ ⟨X, _, hR0, hF0, [], rfl, .nil, by simp⟩).wp ?_
                rintro e' a' w1 ⟨rfl, X1, O1, hR, hF, ks, hD, hnd, hks⟩
                have hgoal : LeavesInM Fence.wide 0 P fn a'.tmps (fun e w' => ∃ v, e = .returned v ∧ Post M (packed (if M.isEmpty && !ownsL rs then reflagL flSettle rs else rs)) st.L w X O v w') a'.defers .returning w1 := by
                  rw [hD]
                  refine leaves_marks ks w1 hnd (fun k hk => (hks k hk).2.1) fun w2 hsz hsame hos hout htape => ?_
                  have hωs : ∀ k e fz, X1.ω k = some (e, fz) → w2.heap[k]? = w1.heap[k]? := fun k e fz hω => hsame k fun hk => by rw [(hks k hk).2.2] at hω; cases hω
                  have hR2 : Rel st a'.tmps w2 X1 O1 := hR.same hsz hωs fun k c A hb => hsame k fun hk => not_mark hb (hks k hk).2.1 rfl
                  have hF2 : Fr w X (Mod M X O) M.length st w2 X1 O1 := {
                    size := by have := hF.size; omega
                    kept := fun b hb hM => by
                      obtain ⟨h1, h2⟩ := hF.kept b hb hM
                      exact ⟨by rw [hsame b fun hk => by have := (hks b hk).1; omega, h1], h2⟩
                    grew := fun b e fz hω => by
                      obtain ⟨e1, fz1, h1, h2, h3, h4⟩ := hF.grew b e fz hω
                      exact ⟨e1, fz1, h1, h2, h3, fun i v hi hc => by rw [cell_of_heap (hωs b e1 fz1 h1)]; exact h4 i v hi hc⟩
                    β := hF.β
                    own := hF.own
                    boxM := hF.boxM
                    lev := hF.lev
                    live := hF.live
                    os := by rw [hos, hF.os]
                    out := by rw [hout, hF.out]
                    tape := by rw [htape, hF.tape] }
                  obtain ⟨vs, Or, hrun, hrep, hcnt, hpl⟩ := results_ok hR2 fn.results.toList rs hrs
                  have hlin : Lin Or := fun b => Nat.le_trans (hcnt b) (sum_le_one hR2.lin hR2.dis b _ hdist)
                  have hwhere : ∀ b ∈ Or, ∃ p, b ∈ O1 p ∧ ∀ q : Root, q.lvl < M.length → p ≠ .box q := fun b hb => by
                    have h1 := List.count_pos_iff.2 hb
                    obtain ⟨rv, hrv, h2⟩ := sum_pos _ _ (Nat.lt_of_lt_of_le h1 (hcnt b))
                    refine ⟨_, List.count_pos_iff.1 h2, fun q hq e => ?_⟩
                    have h3 := List.all_eq_true.1 hklv (resultKey st rv) (List.mem_map.2 ⟨rv, hrv, rfl⟩)
                    generalize hkey : resultKey st rv = key at e h3
                    obtain ⟨kb, kl, ks'⟩ := key
                    cases kb with
                    | false => simp [plOf] at e
                    | true =>
                      simp only [plOf, Pl.box.injEq] at e
                      simp only [Bool.not_true, Bool.false_or, decide_eq_true_eq] at h3
                      rw [← e] at hq; simp only at hq; omega
                  obtain ⟨hlr, hlen', hkind⟩ := rel_leave hR2 hF2
                  have hplv : ∀ q ∈ ptrsL rs, (boxL st.L q).isSome = true := fun q hq => by
                    have h1 := List.all_eq_true.1 hptr q hq
                    rw [boxL_of_box, if_pos (by rw [hlen']; simpa using h1)]
                    exact hpl q hq
                  refine ⟨_, results_run hrun, _, rfl, ?_⟩
                  by_cases hset : (M.isEmpty && !ownsL rs) = true
                  · rw [if_pos hset]
                    simp only [Bool.and_eq_true, Bool.not_eq_true'] at hset
                    have hM : M = [] := by simpa using hset.1
                    have hOr : Or = [] := repL_noowns rs vs Or hset.2 hrep
                    subst hOr
                    subst hM
                    have hL0 : st.L = [] := List.eq_nil_of_length_eq_zero (by rw [hlen']; rfl)
                    have hnoM : ∀ b, ¬ Mod [] X O b := fun b hb => by
                      rcases hb with ⟨q, h1, _⟩ | ⟨q, h1⟩
                      · simp [boxL] at h1
                      · rw [hL.boxD q (by simp [boxL])] at h1; simp at h1
                    have hold : ∀ b, b < w.heap.size → X1.ω b = X.ω b := fun b hb => (hF2.kept b hb (hnoM b)).2
                    let X2 : Cx := { β := X1.β, ω := fun b => (X1.ω b).map fun p => (p.1, true) }
                    have hX2 : ∀ b e fz, X1.ω b = some (e, fz) → X2.ω b = some (e, true) := fun b e fz h => by simp [X2, h]
                    have hX2o : ∀ b, b < w.heap.size → X2.ω b = X.ω b := fun b hb => by
                      show (X1.ω b).map _ = _
                      rw [hold b hb]
                      cases hω : X.ω b with
                      | none => rfl
                      | some p => obtain ⟨e, fz⟩ := p; have := hfz rfl b e fz hω; subst this; rfl
                    have hrep2 : RepL w2 X2 (reflagL flSettle rs) vs [] := RepL.flags' (X := X1) (X' := X2) (S := fun _ => False) { β := rfl, own := fun f => by cases f <;> simp [flSettle], ω := fun b e fz h => ⟨true, hX2 b e fz h, fun h => h.elim⟩, sh := fun f b e fz h _ _ _ => hX2 b e fz h } _ _ _ (by simp) hrep
                    refine ⟨X2, fun _ => [], [], rep_packed hrep2, ?_, Lin.nil, by simp, ?_, hlen', hkind, ?_⟩
                    · rw [hL0]
                      exact { box := fun r c hc => by simp [boxL] at hc, boxD := fun _ _ => rfl, inj := fun r r' b h1 => by simp [boxL] at h1, lin := fun _ => Lin.nil, dis := fun _ _ _ _ h => by simp at h, ptrB := fun r c hc => by simp [boxL] at hc, up := fun r c hc => by simp [boxL] at hc
                              dom := fun b e fz hω => by
                                obtain ⟨p, hp, _⟩ := Option.map_eq_some_iff.1 hω
                                exact hR2.dom b p.1 p.2 hp }
                    · intro q hq
                      have : q ∈ ptrsL rs := by
                        have hpk : ∀ l : List V, q ∈ (packed l).ptrs → q ∈ ptrsL l := fun l hq => by
                          match l, hq with
                          | [], hq => simpa [packed, V.ptrs] using hq
                          | [x], hq => simpa [packed, ptrsL] using hq
                          | x :: y :: l, hq => simpa only [packed, V.ptrs] using hq
                        have := hpk _ hq
                        rw [ptrsL_reflag] at this; exact this
                      exact hplv q this
                    · exact {
                        size := hF2.size
                        kept := fun b hb hM => ⟨(hF2.kept b hb hM).1, hX2o b hb⟩
                        grew := fun b e fz hω => by
                          have hb := hL.dom b e fz hω
                          exact ⟨e, fz, by rw [hX2o b hb]; exact hω, Nat.le_refl _, id, fun i v hi hc => by rw [cell_of_heap (hF2.kept b hb (hnoM b)).1]; exact hc⟩
                        β := hF2.β
                        own := fun b hb => by
                          rcases hb with hb | ⟨q, hb⟩ <;> simp at hb
                        os := hF2.os
                        out := hF2.out
                        tape := hF2.tape }
                  · rw [if_neg hset]
                    refine ⟨X1, leaveO M.length O1, Or, rep_packed hrep, hlr, hlin, fun q b hb hbq => ?_, fun q hq => ?_, hlen', hkind, fr_aft hF2 fun b hb => ?_⟩
                    · obtain ⟨p, h1, h2⟩ := hwhere b hb
                      unfold leaveO at hbq
                      split at hbq
                      · rename_i hq; exact hR2.dis p (.box q) (h2 q hq) b h1 hbq
                      · simp at hbq
                    · have hpk : ∀ l : List V, q ∈ (packed l).ptrs → q ∈ ptrsL l := fun l hq => by
                        match l, hq with
                        | [], hq => simpa [packed, V.ptrs] using hq
                        | [x], hq => simpa [packed, ptrsL] using hq
                        | x :: y :: l, hq => simpa only [packed, V.ptrs] using hq
                      exact hplv q (hpk _ hq)
                    · rcases hb with hb | ⟨q, hb⟩
                      · obtain ⟨p, h1, _⟩ := hwhere b hb; exact ⟨p, h1⟩
                      · exact ⟨.box q, mem_leaveO hb⟩
                rcases he with rfl | rfl
                · exact hgoal
                · exact hgoal
            · cases hx
          · cases hx
        · cases hx
      · cases hx
    · cases hx
  · cases hx

/-- THE INTERPRETER WITH FUEL IS SOUND -/
theorem orcN_ok (hm : P.follows .mixedOrders = true) (hname : ∀ (g : FuncId) (fn : Func), P.funcs[g]? = some fn → fn.body.isSome = true → (fn.name == "runtime.NumGoroutine") = false) {lib : FuncId → Option (List V → Option V)}
    (hlib : ∀ g h args r, lib g = some h → h args = some r → CallOk P g args [] r []) : ∀ n, OrcOk P (orcN P H lib n)
  | 0 => ⟨fun _ _ _ _ _ h => by simp [orcN] at h, fun _ _ _ _ _ _ h => by simp [orcN] at h⟩
  | n + 1 => by
    have ih := orcN_ok hm hname hlib n
    refine ⟨fun g args M r M' h => ?_, fun f bid c st e st' h => ex_ok ih hm c bid st e st' h⟩
    simp only [orcN] at h
    split at h
    · rename_i h0 hl
      split at h
      · rename_i hM
        obtain ⟨v, h1, h2⟩ := Option.map_eq_some_iff.1 h
        obtain ⟨rfl, rfl⟩ := Prod.mk.inj h2
        have : M = [] := by simpa using hM
        subst this
        exact hlib g h0 args v hl h1
      · cases h
    · exact runF_ok ih hm hname h
end Go.Ab
