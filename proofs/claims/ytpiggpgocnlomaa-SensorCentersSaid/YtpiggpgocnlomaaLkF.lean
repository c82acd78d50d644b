/-
  A REGION with stores into owners' elements.
-/
import Derived.Test.YtpiggpgocnlomaaLkE
set_option linter.unusedVariables false
namespace Go.Ab
open Go
variable {P : Program} {H : Hints} {f : FuncId} {C : Orc} {w w' : World} {X X' : Cx}

/-- while a store is still to come: what is known of addresses -/
def Inv (P : Program) (H : Hints) (f : FuncId) (ops : Array Oper) (done : Nat → Prop) (E : List V) (tmps : Array Value) (w : World) (X : Cx) : Prop :=
  (∃ (s : Nat) (o : Oper), ops[s]? = some o ∧ isLs H f o = true ∧ ¬ done s) → ∀ (c : Nat) (oc : Oper), ops[c]? = some oc → isLk H f oc = true → done c → LkFact P H f E oc tmps w X
def SimI (P : Program) (H : Hints) (f : FuncId) (ops : Array Oper) (done : Nat → Prop) (w0 : World) (X0 : Cx) (Md : Md) (n : Nat) (st : St) (a : Act) (w : World) : Prop :=
  ∃ X O, Rel st a.tmps w X O ∧ Fr w0 X0 Md n st w X O ∧ MarkOk w0 w X a.defers ∧ Inv P H f ops done st.E a.tmps w X

theorem SimI.simD {ops : Array Oper} {done : Nat → Prop} {w0 : World} {X0 : Cx} {Md : Md} {n : Nat} {st : St} {a : Act} (h : SimI P H f ops done w0 X0 Md n st a w) : SimD w0 X0 Md n st a w := by
  obtain ⟨X, O, h1, h2, h3, _⟩ := h; exact ⟨X, O, h1, h2, h3⟩
theorem SimD.simI {ops : Array Oper} {w0 : World} {X0 : Cx} {Md : Md} {n : Nat} {st : St} {a : Act} (h : SimD w0 X0 Md n st a w) : SimI P H f ops (fun _ => False) w0 X0 Md n st a w := by
  obtain ⟨X, O, h1, h2, h3⟩ := h; exact ⟨X, O, h1, h2, h3, fun _ c oc _ _ hd => hd.elim⟩
theorem SimI.mono {ops : Array Oper} {done done' : Nat → Prop} {w0 : World} {X0 : Cx} {Md : Md} {n : Nat} {st : St} {a : Act} (h : SimI P H f ops done w0 X0 Md n st a w) (hd : ∀ i, i < ops.size → (done' i ↔ done i)) : SimI P H f ops done' w0 X0 Md n st a w := by
  obtain ⟨X, O, h1, h2, h3, h4⟩ := h
  have hlt : ∀ {i : Nat} {o : Oper}, ops[i]? = some o → i < ops.size := fun h => (Array.getElem?_eq_some_iff.1 h).1
  refine ⟨X, O, h1, h2, h3, fun ⟨s, o, ho, hls, hs⟩ c oc hoc hlk hc => h4 ⟨s, o, ho, hls, fun h => hs ((hd s (hlt ho)).2 h)⟩ c oc hoc hlk ((hd c (hlt hoc)).1 hc)⟩

theorem oneL_cases {ops : Array Oper} {i : Nat} {st st' : St} {ft : Foot} (hx : oneL P H C f ops i st = some (st', ft)) :
    ∃ o, ops[i]? = some o ∧ ((isLs H f o = true ∧ lsStep P H f ops i o st = some st') ∨ (isLs H f o = false ∧ lkGate H f o st.E = true ∧ oneR P H C f ops i st = some (st', ft))) := by
  unfold oneL at hx
  cases ho : ops[i]? with
  | none => rw [ho] at hx; cases hx
  | some o =>
    rw [ho] at hx
    simp only at hx
    refine ⟨o, rfl, ?_⟩
    cases hls : isLs H f o with
    | true =>
      rw [hls, if_pos rfl] at hx
      obtain ⟨s, h1, h2⟩ := Option.map_eq_some_iff.1 hx
      cases h2
      exact .inl ⟨rfl, h1⟩
    | false =>
      rw [hls] at hx
      simp only [Bool.false_eq_true, if_false] at hx
      split at hx
      · rename_i hg; exact .inr ⟨rfl, hg, hx⟩
      · cases hx

theorem ptr_of_dull {x : V} {r : Root} {o : Nat} (h : x.dull = .ptr r o) : x = .ptr r o := by cases x <;> simp_all [V.dull, V.reflag]
theorem ptr_of_hard {x : V} {r : Root} {o : Nat} (h : x.hard = .ptr r o) : x = .ptr r o := by
  unfold V.hard at h; split at h
  · cases h
  · exact h
theorem ptr_dullAt {E : List V} {T : List Tmp} {t : Nat} {r : Root} {o : Nat} (h : (dullAt E T)[t]? = some (.ptr r o)) : E[t]? = some (.ptr r o) := by
  rw [dullAt_at] at h
  split at h
  · obtain ⟨x, h1, h2⟩ := Option.map_eq_some_iff.1 h
    rw [h1, ptr_of_dull h2]
  · exact h
theorem updF_sl {ys : List V} {p : Path} {x y : V} (h : updF ys p x = some y) : ∃ c l, y = .sl .own c l := by
  unfold updF at h
  split at h
  · cases h
  · split at h
    · split at h
      · split at h
        · split at h
          · cases h; exact ⟨_, _, rfl⟩
          · cases h
        · split at h
          · obtain ⟨z, _, h2⟩ := Option.map_eq_some_iff.1 h
            exact ⟨_, _, h2.symm⟩
          · cases h
      · cases h
    · cases h
  · cases h
theorem ls_E {ops : Array Oper} {s : Nat} {o : Oper} {st st' : St} (h : lsStep P H f ops s o st = some st') {t : Nat} {r : Root} {off : Nat} (hE : st'.E[t]? = some (.ptr r off)) : st.E[t]? = some (.ptr r off) := by
  unfold lsStep at h
  split at h
  · simp only at h
    split at h
    · split at h
      · rename_i r0 p hlk
        split at h
        · cases h
        · split at h
          · rename_i y hy
            split at h
            · cases h
            · simp only [Option.some.injEq] at h
              subst h
              simp only [List.getElem?_set] at hE
              split at hE
              · split at hE
                · obtain ⟨c, l, rfl⟩ := updF_sl hy
                  cases hE
                · cases hE
              · rw [List.getElem?_map] at hE
                obtain ⟨x, h1, h2⟩ := Option.map_eq_some_iff.1 hE
                rw [ptr_of_hard h2] at h1
                exact ptr_dullAt h1
          · cases h
      · split at h
        · split at h
          · split at h
            · split at h
              · cases h
              · simp only [Option.some.injEq] at h
                subst h
                simp only [List.getElem?_map] at hE
                obtain ⟨x, h1, h2⟩ := Option.map_eq_some_iff.1 hE
                rw [ptr_of_hard h2] at h1
                exact ptr_dullAt h1
            · cases h
          · cases h
        · cases h
      · cases h
    · cases h
  · cases h

/-- the text's demands at an operation -/
structure Fits (H : Hints) (f : FuncId) (ops : Array Oper) (done : Nat → Prop) (i : Nat) : Prop where
  new : ¬ done i
  after : ∀ (c : Nat) (oc o : Oper), ops[c]? = some oc → ops[i]? = some o → isLk H f oc = true → done c → okAfter H f oc o = true
  self : ∀ (o : Oper), ops[i]? = some o → isLk H f o = true → o.guard = none ∧ ∀ d, o.dst = some d → d ∉ tmpsOf o
  ls : ∀ (o : Oper), ops[i]? = some o → isLs H f o = true → ∀ (c : Nat) (oc : Oper), ops[c]? = some oc → isLk H f oc = true → c < i → done c
  lone : ∀ (c : Nat) (oc : Oper), ops[c]? = some oc → isLk H f oc = true → nestLoad H f oc = true → ∀ (s s' : Nat) (o o' : Oper), ops[s]? = some o → ops[s']? = some o' → isLs H f o = true → isLs H f o' = true → s = s'

theorem okAfter_spec {oc oi : Oper} (h : okAfter H f oc oi = true) : (∀ d, oi.dst = some d → oc.dst ≠ some d ∧ d ∉ tmpsOf oc) ∧ (boxLoad H f oc = true → tameOp oi.op = true ∨ isLs H f oi = true) := by
  unfold okAfter at h
  simp only [Bool.and_eq_true, Bool.or_eq_true, Bool.not_eq_true'] at h
  refine ⟨fun d hd => ?_, fun hb => ?_⟩
  · have h1 := h.1
    rw [hd] at h1
    simp at h1
    exact ⟨h1.1, h1.2⟩
  · rcases h.2 with (h2 | h2) | h2
    · rw [hb] at h2; cases h2
    · exact .inl h2
    · exact .inr h2

theorem fok_fence {F : Fence} {X0 : Cx} {Md : Md} {n : Nat} (h : FOk F X0 Md n) : F = Fence.wide ∨ ∃ l, F = Fence.wide.inRound l := by
  rcases h.1 with h | ⟨r, l, h, _⟩
  · exact .inl h
  · exact .inr ⟨l, h⟩

/-- ONE OPERATION -/
theorem one_okL (hC : OrcOk P C) {F : Fence} {w0 : World} {X0 : Cx} {Md : Md} {n : Nat} (hFO : FOk F X0 Md n) {ops : Array Oper} {done : Nat → Prop} {i : Nat} {st st' : St} {ft : Foot} {a : Act} (hS : SimI P H f ops done w0 X0 Md n st a w)
    (hx : oneL P H C f ops i st = some (st', ft)) (hfit : Fits H f ops done i) {K : Act → World → Prop} {Q : Exit → Act → World → Prop} (hK : ∀ a' w', SimI P H f ops (fun k => done k ∨ k = i) w0 X0 Md n st' a' w' → K a' w') : wpOpIn F 0 P ops Q i K a w := by
  have hFF := fok_fence hFO
  obtain ⟨X, O, h, hF, hM, hI⟩ := hS
  obtain ⟨o, ho, ⟨hls, hx⟩ | ⟨hls, hgate, hx⟩⟩ := oneL_cases hx
  · -- the store
    obtain ⟨t, d, xo, hop, hld⟩ : ∃ t d xo, o.op = .store t (.tmp d) xo ∧ H.link f d = true := by
      unfold isLs at hls
      split at hls
      · rename_i t d xo hop; exact ⟨t, d, xo, hop, hls⟩
      · cases hls
    have hpend : ∃ (s : Nat) (o : Oper), ops[s]? = some o ∧ isLs H f o = true ∧ ¬ done s := ⟨i, o, ho, hls, hfit.new⟩
    have hfacts := hI hpend
    have hpath : ∀ rt p, lkPath P H f ops st.E ops.size i d = some (rt, p, true) → ∃ v0 b k, RootVal w X a.tmps rt v0 ∧ a.tmps.getD d undef = .pointer (some ⟨b, k, none⟩) ∧ PtrR w v0 p b k := fun rt p hlk => by
      obtain ⟨v0, h1, h2⟩ := lk_ok h (s := i) (fun c oc hoc hl hci => hfacts c oc hoc hl (hfit.ls o ho hls c oc hoc hl hci)) ops.size i d rt p true (Nat.le_refl _) hlk
      simp only [if_true] at h2
      obtain ⟨b, k, h3, h4⟩ := h2
      exact ⟨v0, b, k, h1, h3, h4⟩
    obtain ⟨hdst, hgd, w', b, hrun, hW, hsz, O', hR', hF', hM'⟩ := ls_ok h hF (fun h0 => hFO.2 h0) hM hop hpath hx
    unfold wpOpIn
    rw [ho]
    have hwant : Region.wanted o (yielded ops a.tmps) = true := by unfold Region.wanted; rw [hgd]
    simp only [hwant, if_true]
    refine ⟨fun g _ => fn_wide hFF g, ?_⟩
    rw [Oper.semAt_eq _ _ _ (by intro c hc; rw [hop] at hc; cases hc)]
    have hrun' : (execOp a.eval o).run P w = .ok .skip w' := by simp only [execOp, hop, Sem.run_bind, hrun, Result.andThen_ok, Sem.run_pure]
    rw [hrun', Oper.uponIn_skip]
    refine hK _ _ ?_
    have hput : a.put o.dst undef = a := by rw [hdst]; rfl
    rw [hput]
    refine ⟨X, O', hR', hF', hM', fun hp c oc hoc hlk hc => ?_⟩
    have hci : done c := by
      rcases hc with hc | rfl
      · exact hc
      · rw [ho] at hoc; cases hoc
        unfold isLk at hlk; rw [hdst] at hlk; cases hlk
    refine (hfacts c oc hoc hlk hci).keep (fun _ _ => rfl) (fun _ _ => rfl) (fun hn => ?_) (fun hb t' ht' r o' hE => ?_)
    · obtain ⟨s, o2, ho2, hls2, hd2⟩ := hp
      exact absurd (.inr (hfit.lone c oc hoc hlk hn s i o2 o ho2 ho hls2 hls)) hd2
    · have hE0 := ls_E hx hE
      refine ⟨hE0, fun b' hb' => ?_⟩
      obtain ⟨u, hu, hr⟩ := h.env t' _ hE0
      simp only [Rep] at hr
      obtain ⟨_, b2, hb2, rfl⟩ := hr
      rw [getD_at hu] at hb'
      cases hb'
      have hlive := h.ptrE r (mem_ptrsL.2 ⟨_, List.mem_of_getElem? hE0, by simp [V.ptrs]⟩)
      obtain ⟨cs, hcs⟩ := Option.isSome_iff_exists.1 hlive
      obtain ⟨b3, hb3, _, hω, _⟩ := h.box r cs hcs
      rw [hb2] at hb3; cases hb3
      obtain ⟨e, he⟩ := hW.ω
      exact cell_of_heap (hW.kept _ (fun e' => by rw [e', he] at hω; cases hω))
  · -- any other
    obtain ⟨Md2, hFb, hkd, lift⟩ := rebaseF h hF hM
    obtain ⟨o', ho', b, z, m, A⟩ := oneR_iff.1 hx
    rw [ho] at ho'; cases ho'
    have hE' : ∀ t, o.dst ≠ some t → ∀ r off, st'.E[t]? = some (.ptr r off) → st.E[t]? = some (.ptr r off) := fun t ht r off hE => by
      rw [A.res] at hE
      simp only [putE_at] at hE
      rw [if_neg (fun hh => ht hh.1)] at hE
      exact ptr_dullAt hE
    have key : ∀ (v : Value) (w' : World), Sim w X Md2 n st' (a.put o.dst v).tmps w' → (tameOp o.op = true → ∀ b, b < w.heap.size → X.ω b = none → w'.heap[b]? = w.heap[b]?) →
        (isLk H f o = true → ∀ X' : Cx, (∀ b e fz, X.ω b = some (e, fz) → ∃ e' fz', X'.ω b = some (e', fz') ∧ e ≤ e') → LkFact P H f st'.E o (a.put o.dst v).tmps w' X') →
        SimI P H f ops (fun k => done k ∨ k = i) w0 X0 Md n st' (a.put o.dst v) w' := by
      rintro v w' ⟨X', O', hR', hFr'⟩ htame hnew
      obtain ⟨hF', hM'⟩ := lift _ _ _ _ hFr'
      have hdef : (a.put o.dst v).defers = a.defers := by cases o.dst <;> rfl
      have hω : ∀ b e fz, X.ω b = some (e, fz) → ∃ e' fz', X'.ω b = some (e', fz') ∧ e ≤ e' := fun b e fz hb => by
        obtain ⟨e', fz', h1, h2, _⟩ := hFr'.grew b e fz hb; exact ⟨e', fz', h1, h2⟩
      refine ⟨X', O', hR', hF', by rw [hdef]; exact hM', fun ⟨s, os, hos, hlss, hs⟩ c oc hoc hlk hc => ?_⟩
      have hfacts := hI ⟨s, os, hos, hlss, fun hd => hs (.inl hd)⟩
      rcases hc with hc | rfl
      · obtain ⟨h1, h2⟩ := okAfter_spec (hfit.after c oc o hoc ho hlk hc)
        refine (hfacts c oc hoc hlk hc).keep (fun d hd => tv_put (fun e => (h1 d e).1 hd)) (fun t ht => tv_put (fun e => (h1 t e).2 ht)) (fun _ => ⟨hω, fun b e fz k v hb hk hcell => ?_⟩) (fun hbl t' ht' r o' hE => ?_)
        · obtain ⟨e', fz', _, _, _, h4⟩ := hFr'.grew b e fz hb
          exact h4 k v hk hcell
        · have hE0 := hE' t' (fun e => (h1 t' e).2 ht') r o' hE
          refine ⟨hE0, fun b' hb' => ?_⟩
          obtain ⟨u, hu, hr⟩ := h.env t' _ hE0
          simp only [Rep] at hr
          obtain ⟨_, b2, hb2, rfl⟩ := hr
          rw [getD_at hu] at hb'
          cases hb'
          have hlive := h.ptrE r (mem_ptrsL.2 ⟨_, List.mem_of_getElem? hE0, by simp [V.ptrs]⟩)
          obtain ⟨cs, hcs⟩ := Option.isSome_iff_exists.1 hlive
          obtain ⟨b3, hb3, hlt, hω0, _⟩ := h.box r cs hcs
          rw [hb2] at hb3; cases hb3
          have ht : tameOp o.op = true := by
            rcases h2 hbl with h2 | h2
            · exact h2
            · rw [hls] at h2; cases h2
          exact cell_of_heap (htame ht _ hlt hω0)
      · rw [ho] at hoc; cases hoc
        exact hnew hlk X' hω
    unfold wpOpIn
    rw [ho]
    simp only
    rw [wanted_ok h A.wanted]
    cases b with
    | false =>
      simp only [Bool.false_eq_true, if_false]
      refine ⟨fun g _ => fn_wide hFF g, hK _ _ (key undef w ?_ (fun _ _ _ _ => rfl) (fun hlk => ?_))⟩
      · obtain ⟨rfl, rfl, _⟩ := some3 A.mem
        refine ⟨X, putO O [] o.dst st.E.length [], ?_⟩
        have hst' : st' = st.put o.dst (.val undef) := by rw [A.res, put_eq]; rfl
        rw [hst', putT_eq]
        exact ⟨h.put0 o.dst (by simp [Rep]) Lin.nil (by simp) (by simp [V.ptrs]), hFb.put0 o.dst (by simp)⟩
      · have := (hfit.self o ho hlk).1
        have hw := A.wanted
        unfold wantedA at hw
        rw [this] at hw
        cases hw
    | true =>
      simp only [if_true]
      have hstep : stepFp P H C f o st = some (st', ft.fp) := by
        have h2 := hx
        unfold oneR at h2
        rw [ho] at h2
        simp only [A.wanted] at h2
        obtain ⟨⟨s1, fp⟩, h3, h4⟩ := Option.map_eq_some_iff.1 h2
        simp only [Prod.mk.injEq] at h4
        obtain ⟨rfl, rfl⟩ := h4
        exact h3
      refine step_okT hC hFF h hFb hstep fun v w' hSim ht => hK _ _ (key v w' hSim (fun h1 => (ht h1).1) fun hlk X' hω => ?_)
      obtain ⟨_, hself⟩ := hfit.self o ho hlk
      rcases chain_fact h hFb hlk hself hgate hstep with hall | ⟨htm, v0, hrun, hfact⟩
      · exact hall _ _ _ _
      · obtain ⟨rfl, rfl⟩ := (ht htm).2 v0 hrun
        exact hfact _ _ hω (fun t ht' r o' hE => hE' t (fun e => hself t e ht') r o' hE)
end Go.Ab
