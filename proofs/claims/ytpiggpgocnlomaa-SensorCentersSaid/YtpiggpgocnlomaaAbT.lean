/-
  A REGION IS SOUND.
-/
import Derived.Test.YtpiggpgocnlomaaAbS
set_option linter.unusedVariables false
namespace Go.Ab
open Go
variable {P : Program} {H : Hints} {f : FuncId} {C : Orc} {w : World}

theorem wanted_ok {st : St} {tmps : Array Value} {X : Cx} {O : Pl → List Nat} (h : Rel st tmps w X O) {ops : Array Oper} {o : Oper} {b : Bool} (hw : wantedA ops st.E o = some b) : Region.wanted o (yielded ops tmps) = b := by
  unfold wantedA at hw
  unfold Region.wanted
  cases hg : o.guard with
  | none => rw [hg] at hw; simpa using hw
  | some gw =>
    obtain ⟨g, want⟩ := gw
    rw [hg] at hw
    simp only at hw ⊢
    cases hb : (ops[g]?).bind (·.dst) with
    | none => rw [hb] at hw; cases hw
    | some t =>
      rw [hb] at hw
      simp only at hw
      split at hw
      · rename_i c hE
        obtain ⟨v, hv, hr⟩ := h.env t _ hE
        simp only [Rep] at hr
        obtain ⟨rfl, _⟩ := hr
        have : yielded ops tmps g = some c := by unfold yielded; rw [hb]; simp only [Option.bind_some, hv]
        rw [this]
        simp only [Option.some.injEq] at hw
        rw [← hw]
        cases c <;> cases want <;> rfl
      · rename_i vs hE
        obtain ⟨v, hv, hr⟩ := h.env t _ hE
        simp only [Rep] at hr
        obtain ⟨rfl, _⟩ := hr
        have : yielded ops tmps g = none := by unfold yielded; rw [hb]; simp only [Option.bind_some, hv]
        rw [this]
        split at hw
        · simp only [Option.some.injEq] at hw
          rw [← hw]
          cases want <;> rfl
        · cases hw
      · cases hw

theorem fn_wide {F : Fence} (hFF : F = Fence.wide ∨ ∃ l, F = Fence.wide.inRound l) (g : FuncId) : F.fn g := by rcases hFF with rfl | ⟨l, rfl⟩ <;> trivial

/-- one operation of a region -/
theorem one_ok (hC : OrcOk P C) {F : Fence} (hFF : F = Fence.wide ∨ ∃ l, F = Fence.wide.inRound l) {w0 : World} {X0 : Cx} {Md : Md} {n : Nat} {ops : Array Oper} {i : Nat} {st st' : St} {ft : Foot} {a : Act} (hS : Sim w0 X0 Md n st a.tmps w)
    (hx : oneR P H C f ops i st = some (st', ft)) {K : Act → World → Prop} {Q : Exit → Act → World → Prop} (hK : ∀ a' w', a'.defers = a.defers → Sim w0 X0 Md n st' a'.tmps w' → K a' w') : wpOpIn F 0 P ops Q i K a w := by
  have hS' := hS
  obtain ⟨X, O, h, hF⟩ := hS'
  unfold oneR at hx
  unfold wpOpIn
  cases ho : ops[i]? with
  | none => rw [ho] at hx; cases hx
  | some o =>
    rw [ho] at hx
    simp only at hx ⊢
    cases hw : wantedA ops st.E o with
    | none => rw [hw] at hx; cases hx
    | some b =>
      rw [hw] at hx
      rw [wanted_ok h hw]
      have hdef : ∀ v, (a.put o.dst v).defers = a.defers := fun v => by cases o.dst <;> rfl
      cases b with
      | false =>
        simp only [Option.some.injEq, Prod.mk.injEq] at hx
        obtain ⟨rfl, _⟩ := hx
        simp only [Bool.false_eq_true, if_false]
        refine ⟨fun g _ => fn_wide hFF g, hK _ _ (hdef _) ⟨X, putO O [] o.dst st.E.length [], ?_⟩⟩
        rw [putT_eq]
        exact ⟨h.put0 o.dst (by simp [Rep]) Lin.nil (by simp) (by simp [V.ptrs]), hF.put0 o.dst (by simp)⟩
      | true =>
        simp only [if_true]
        obtain ⟨⟨s1, fp⟩, h1, h2⟩ := Option.map_eq_some_iff.1 hx
        simp only [Prod.mk.injEq] at h2
        obtain ⟨rfl, _⟩ := h2
        exact step_ok hC hFF hS (by unfold stepOp; rw [h1]; rfl) (fun v w' hS' => hK _ _ (hdef v) hS')

theorem seq_ok (hC : OrcOk P C) {F : Fence} (hFF : F = Fence.wide ∨ ∃ l, F = Fence.wide.inRound l) {w0 : World} {X0 : Cx} {Md : Md} {n : Nat} {ops : Array Oper} {Q : Exit → Act → World → Prop} : ∀ (l : List Nat) (st st' : St) (fps : List (Nat × Foot)) (a : Act) (w : World), Sim w0 X0 Md n st a.tmps w →
    execR P H C f ops l st = some (st', fps) → (∀ a' w', a'.defers = a.defers → Sim w0 X0 Md n st' a'.tmps w' → Q .normal a' w') → wpOpsIn F 0 P ops Q l a w
  | [], st, st', fps, a, w, hS, hx, hK => by
    simp only [execR, Option.some.injEq, Prod.mk.injEq] at hx
    obtain ⟨rfl, _⟩ := hx
    exact hK a w rfl hS
  | i :: l, st, st', fps, a, w, hS, hx, hK => by
    obtain ⟨s1, ft, fps', h1, h2, _⟩ := execR_cons.1 hx
    rw [wpOpsIn_cons]
    exact one_ok hC hFF hS h1 fun a' w' hd hS' => seq_ok hC hFF l s1 st' fps' a' w' hS' h2 fun a2 w2 hd2 => hK a2 w2 (by rw [hd2, hd])

theorem execR_of_execOps {ops : Array Oper} : ∀ (l : List Nat) (st s : St), execOps P H C f ops l st = some s → ∃ fps, execR P H C f ops l st = some (s, fps)
  | [], st, s, h => by simp only [execOps, Option.some.injEq] at h; subst h; exact ⟨[], rfl⟩
  | i :: l, st, s, h => by
    simp only [execOps] at h
    cases ho : ops[i]? with
    | none => rw [ho] at h; cases h
    | some o =>
      rw [ho] at h
      simp only at h
      cases hw : wantedA ops st.E o with
      | none => rw [hw] at h; cases h
      | some b =>
        rw [hw] at h
        cases b with
        | false =>
          simp only at h
          obtain ⟨fps, h1⟩ := execR_of_execOps l _ s h
          exact ⟨_, execR_cons.2 ⟨st.put o.dst (.val undef), ⟨.none, [], looksAt ops o⟩, fps, by unfold oneR; rw [ho]; simp only [hw], h1, rfl⟩⟩
        | true =>
          simp only at h
          cases hs : stepOp P H C f o st with
          | none => rw [hs] at h; cases h
          | some st' =>
            rw [hs] at h
            simp only at h
            obtain ⟨fps, h1⟩ := execR_of_execOps l _ s h
            unfold stepOp at hs
            obtain ⟨⟨s1, fp⟩, h2, rfl⟩ := Option.map_eq_some_iff.1 hs
            exact ⟨_, execR_cons.2 ⟨s1, _, fps, by unfold oneR; rw [ho]; simp only [hw, h2]; rfl, h1, rfl⟩⟩

/-! ### ancestors -/
theorem mem_dedupN {j : Nat} : ∀ {l : List Nat}, j ∈ dedupN l → j ∈ l
  | [], h => h
  | x :: l, h => by
    simp only [dedupN] at h
    split at h
    · exact List.mem_cons_of_mem _ (mem_dedupN h)
    · rcases List.mem_cons.1 h with rfl | h
      · exact List.mem_cons_self
      · exact List.mem_cons_of_mem _ (mem_dedupN h)
theorem ancs_snoc (l : List Oper) (o : Oper) : ancs (l ++ [o]) = ancs l ++ [dedupN ((boundE o).flatMap fun j => j :: (ancs l).getD j [])] := by
  unfold ancs; rw [List.foldl_append]; rfl
theorem ancs_nil : ancs [] = [] := rfl
theorem list_snoc_ind {α : Type} {p : List α → Prop} (h0 : p []) (h1 : ∀ l a, p l → p (l ++ [a])) : ∀ l, p l := by
  intro l
  have : ∀ n (l : List α), l.length = n → p l := by
    intro n
    induction n with
    | zero => intro l hl; rw [List.eq_nil_of_length_eq_zero hl]; exact h0
    | succ n ih =>
      intro l hl
      have hne : l ≠ [] := fun e => by subst e; simp at hl
      rw [← List.dropLast_concat_getLast hne]
      exact h1 _ _ (ih _ (by simp [hl]))
  exact this _ l rfl
theorem ancs_length : ∀ l : List Oper, (ancs l).length = l.length := list_snoc_ind rfl (fun l a ih => by rw [ancs_snoc]; simp [ih])
theorem ancs_get : ∀ (l : List Oper) (i : Nat) (o : Oper), l[i]? = some o → (∀ j ∈ boundE o, j < i) → (ancs l).getD i [] = dedupN ((boundE o).flatMap fun j => j :: (ancs l).getD j []) := by
  refine list_snoc_ind ?_ ?_
  · intro i o h; simp at h
  · intro l x ih i o h hb
    rw [ancs_snoc]
    have hlt : i < (l ++ [x]).length := (List.getElem?_eq_some_iff.1 h).1
    simp only [List.length_append, List.length_singleton] at hlt
    have hpre : ∀ j, j < i → (ancs l ++ [dedupN ((boundE x).flatMap fun j => j :: (ancs l).getD j [])]).getD j [] = (ancs l).getD j [] := fun j hj => by
      rw [List.getD_eq_getElem?_getD, List.getD_eq_getElem?_getD, List.getElem?_append_left (by rw [ancs_length]; omega)]
    have hfm : ((boundE o).flatMap fun j => j :: (ancs l ++ [dedupN ((boundE x).flatMap fun j => j :: (ancs l).getD j [])]).getD j []) = (boundE o).flatMap fun j => j :: (ancs l).getD j [] := by
      generalize dedupN ((boundE x).flatMap fun j => j :: (ancs l).getD j []) = z at hpre ⊢
      rw [List.flatMap_def, List.flatMap_def]
      congr 1
      refine List.map_congr_left fun j hj => ?_
      rw [hpre j (hb j hj)]
    rw [hfm]
    by_cases hi : i < l.length
    · rw [List.getElem?_append_left hi] at h
      rw [← ih i o h hb, List.getD_eq_getElem?_getD, List.getD_eq_getElem?_getD, List.getElem?_append_left (by rw [ancs_length]; exact hi)]
    · have hi' : i = l.length := by omega
      subst hi'
      simp only [List.getElem?_append_right (Nat.le_refl _), Nat.sub_self, List.getElem?_cons_zero, Option.some.injEq] at h
      subst h
      rw [List.getD_eq_getElem?_getD, List.getElem?_append_right (by rw [ancs_length]; exact Nat.le_refl _), ancs_length]
      simp

/-- whatever is ahead of a listed operation is listed -/
def Down (ops : Array Oper) (listed : Array Bool) : Prop := ∀ k o, ops[k]? = some o → listed.getD k true = true → ∀ j ∈ boundE o, listed.getD j true = true

theorem boundE_mem {o : Oper} {j : Nat} : j ∈ boundE o ↔ ∃ e ∈ o.after, Region.binds .any e = true ∧ e.on = j := by
  unfold boundE
  simp only [List.mem_map, List.mem_filter, Array.mem_toList_iff]
  constructor
  · rintro ⟨e, ⟨h1, h2⟩, h3⟩; exact ⟨e, h1, h2, h3⟩
  · rintro ⟨e, h1, h2, h3⟩; exact ⟨e, ⟨h1, h2⟩, h3⟩

theorem anc_listed {ops : Array Oper} {listed : Array Bool} (hsz : listed.size = ops.size) (hb : ∀ k o, ops[k]? = some o → ∀ j ∈ boundE o, j < k) (hd : Down ops listed) : ∀ (k i : Nat) (o : Oper), i ≤ k → ops[i]? = some o → (∀ j ∈ boundE o, listed.getD j true = true) →
    ∀ j ∈ (ancs ops.toList).getD i [], listed.getD j true = true := by
  intro k
  induction k with
  | zero =>
    intro i o hi ho hall j hj
    rw [ancs_get ops.toList i o (by simpa using ho) (hb i o ho)] at hj
    obtain ⟨e, he, _⟩ := List.mem_flatMap.1 (mem_dedupN hj)
    have := hb i o ho e he; omega
  | succ k ih =>
    intro i o hi ho hall j hj
    rw [ancs_get ops.toList i o (by simpa using ho) (hb i o ho)] at hj
    obtain ⟨e, he, hj⟩ := List.mem_flatMap.1 (mem_dedupN hj)
    rcases List.mem_cons.1 hj with rfl | hj
    · exact hall _ he
    · have hei := hb i o ho e he
      have hilt : i < ops.size := (Array.getElem?_eq_some_iff.1 ho).1
      obtain ⟨oe, hoe⟩ : ∃ oe, ops[e]? = some oe := ⟨ops[e]'(by omega), Array.getElem?_eq_getElem (by omega)⟩
      exact ih e oe (by omega) hoe (hd e oe hoe (hall e he)) j hj

theorem noConf_spec {U : List (Nat × Nat)} {fps : List (Nat × Foot)} (h : noConf U fps = true) : ∀ i j fi fj, (i, j) ∈ U → (i, fi) ∈ fps → (j, fj) ∈ fps → fi.clash fj = false := by
  intro i j fi fj hu hi hj
  unfold noConf at h
  have h1 := List.all_eq_true.1 h (i, j) hu
  have h2 := List.all_eq_true.1 h1 (i, fi) hi
  simp only [bne_self_eq_false, Bool.false_or] at h2
  have h3 := List.all_eq_true.1 h2 (j, fj) hj
  simpa using h3

theorem region_any (hC : OrcOk P C) {F : Fence} (hFF : F = Fence.wide ∨ ∃ l, F = Fence.wide.inRound l) {w0 : World} {X0 : Cx} {Md : Md} {n : Nat} {ops : Array Oper} {U : List (Nat × Nat)} (hreg : regionOk H f U ops = true) {Q : Exit → Act → World → Prop} :
    ∀ (fuel : Nat) (listed : Array Bool) (st st' : St) (fps : List (Nat × Foot)) (a : Act) (w : World), listed.size = ops.size → Down ops listed → ((List.range ops.size).filter fun k => !listed.getD k true).length ≤ fuel →
      execR P H C f ops ((List.range ops.size).filter fun k => !listed.getD k true) st = some (st', fps) → (∀ i j fi fj, (i, j) ∈ U → (i, fi) ∈ fps → (j, fj) ∈ fps → fi.clash fj = false) →
      Sim w0 X0 Md n st a.tmps w → (∀ a' w', a'.defers = a.defers → Sim w0 X0 Md n st' a'.tmps w' → Q .normal a' w') → wpAnyIn F 0 P .any ops Q fuel listed a w := by
  have hrow : ∀ i y, ops[i]? = some y → (∀ j ∈ boundE y, j < i) ∧ ∀ j, j < i → j ∈ (ancs ops.toList).getD i [] ∨ ∃ x, ops[j]? = some x ∧ dstApart ops x y = true ∧ (textApart H f ops x y = true ∨ (j, i) ∈ U) := by
    intro i y hy
    have hilt : i < ops.size := (Array.getElem?_eq_some_iff.1 hy).1
    unfold regionOk at hreg
    have h1 := List.all_eq_true.1 hreg i (List.mem_range.2 hilt)
    rw [hy] at h1
    simp only [Bool.and_eq_true] at h1
    refine ⟨fun j hj => by simpa using List.all_eq_true.1 h1.1 j hj, fun j hj => ?_⟩
    have h2 := List.all_eq_true.1 h1.2 j (List.mem_range.2 hj)
    simp only [Bool.or_eq_true] at h2
    rcases h2 with h2 | h2
    · exact .inl (by simpa using h2)
    · right
      cases hx : ops[j]? with
      | none => rw [hx] at h2; cases h2
      | some x =>
        rw [hx] at h2
        simp only [Bool.and_eq_true, Bool.or_eq_true] at h2
        exact ⟨x, rfl, h2.1, h2.2.imp id (by simp)⟩
  have hempty : ∀ (listed : Array Bool), listed.size = ops.size → Down ops listed → Region.ready .any ops listed = [] → ((List.range ops.size).filter fun k => !listed.getD k true) = [] := by
    intro listed hsz hd hr
    cases hR : (List.range ops.size).filter fun k => !listed.getD k true with
    | nil => rfl
    | cons k R =>
      exfalso
      have hsorted : ((List.range ops.size).filter fun k => !listed.getD k true).Pairwise (· < ·) := List.Pairwise.filter _ List.pairwise_lt_range
      have hk : k ∈ (List.range ops.size).filter fun k => !listed.getD k true := by rw [hR]; simp
      rw [hR] at hsorted
      obtain ⟨hklt, hkun⟩ := List.mem_filter.1 hk
      have hklt := List.mem_range.1 hklt
      obtain ⟨o, ho⟩ : ∃ o, ops[k]? = some o := ⟨ops[k], Array.getElem?_eq_getElem hklt⟩
      have : k ∈ Region.ready .any ops listed := by
        rw [mem_ready]
        refine ⟨by simpa using hkun, o, ho, fun e he hb => ?_⟩
        have hek := (hrow k o ho).1 e.on (boundE_mem.2 ⟨e, he, hb, rfl⟩)
        cases hc : listed.getD e.on true with
        | true =>
          have : e.on < listed.size := by omega
          simp [Array.getD, this] at hc ⊢
          exact hc
        | false =>
          have hmem : e.on ∈ (List.range ops.size).filter fun k => !listed.getD k true := List.mem_filter.2 ⟨List.mem_range.2 (by omega), by simp [hc]⟩
          rw [hR] at hmem
          rcases List.mem_cons.1 hmem with h1 | h1
          · omega
          · have := (List.pairwise_cons.1 hsorted).1 _ h1; omega
      rw [hr] at this
      simp at this
  intro fuel
  induction fuel with
  | zero =>
    intro listed st st' fps a w hsz hd hlen hx hconf hS hQ
    have hnil : ((List.range ops.size).filter fun k => !listed.getD k true) = [] := List.eq_nil_of_length_eq_zero (by omega)
    rw [hnil] at hx
    simp only [execR, Option.some.injEq, Prod.mk.injEq] at hx
    obtain ⟨rfl, _⟩ := hx
    refine ⟨?_, hQ a w rfl hS⟩
    cases hr : Region.ready .any ops listed with
    | nil => rfl
    | cons i R =>
      have hi : i ∈ Region.ready .any ops listed := by rw [hr]; simp
      obtain ⟨h1, o, ho, _⟩ := mem_ready.1 hi
      have : i ∈ (List.range ops.size).filter fun k => !listed.getD k true := List.mem_filter.2 ⟨List.mem_range.2 (Array.getElem?_eq_some_iff.1 ho).1, by simp [h1]⟩
      rw [hnil] at this; simp at this
  | succ fuel ih =>
    intro listed st st' fps a w hsz hd hlen hx hconf hS hQ
    refine ⟨fun hr => ?_, fun i hi => ?_⟩
    · have hnil := hempty listed hsz hd hr
      rw [hnil] at hx
      simp only [execR, Option.some.injEq, Prod.mk.injEq] at hx
      obtain ⟨rfl, _⟩ := hx
      exact hQ a w rfl hS
    · obtain ⟨hun, y, hy, hall⟩ := mem_ready.1 hi
      have hilt : i < ops.size := (Array.getElem?_eq_some_iff.1 hy).1
      have hiR : i ∈ (List.range ops.size).filter fun k => !listed.getD k true := List.mem_filter.2 ⟨List.mem_range.2 hilt, by simp [hun]⟩
      have hsorted : ((List.range ops.size).filter fun k => !listed.getD k true).Pairwise (· < ·) := List.Pairwise.filter _ List.pairwise_lt_range
      obtain ⟨A, B, hAB⟩ := List.append_of_mem hiR
      rw [hAB] at hx hsorted
      obtain ⟨_, hs2, hs3⟩ := List.pairwise_append.1 hsorted
      have hAi : ∀ j ∈ A, j < i := fun j hj => hs3 j hj i (by simp)
      have hiB : ∀ j ∈ B, i < j := fun j hj => (List.pairwise_cons.1 hs2).1 j hj
      have hlistedE : ∀ j ∈ boundE y, listed.getD j true = true := fun j hj => by
        obtain ⟨e, he, hb, rfl⟩ := boundE_mem.1 hj
        have h1 := hall e he hb
        have hlt := (hrow i y hy).1 e.on hj
        have : e.on < listed.size := by omega
        simp [Array.getD, this] at h1 ⊢
        exact h1
      have hanc := anc_listed hsz (fun k o ho => (hrow k o ho).1) hd i i y (Nat.le_refl _) hy hlistedE
      obtain ⟨fps', h1, h2⟩ := move_front hy A st st' fps hx (fun j hj => by
        have hjR : j ∈ (List.range ops.size).filter fun k => !listed.getD k true := by rw [hAB]; simp [hj]
        have hjun : listed.getD j true = false := by simpa using (List.mem_filter.1 hjR).2
        rcases (hrow i y hy).2 j (hAi j hj) with h3 | ⟨x, hx1, hx2, hx3⟩
        · have := hanc j h3; rw [hjun] at this; cases this
        · refine ⟨x, hx1, hx2, fun fx fy h4 h5 => ?_⟩
          rcases hx3 with hx3 | hx3
          · obtain ⟨_, _, _, e1⟩ := execR_mem _ _ _ _ hx j fx h4
            obtain ⟨_, _, _, e2⟩ := execR_mem _ _ _ _ hx i fy h5
            exact clash_text hx1 hy e1 e2 hx3
          · exact hconf j i fx fy hx3 h4 h5)
      obtain ⟨s1, fi, fps2, h3, h4, rfl⟩ := execR_cons.1 h1
      refine one_ok hC hFF hS h3 fun a' w' hdf hS' => ?_
      have hR' : ((List.range ops.size).filter fun k => !(listed.setIfInBounds i true).getD k true) = A ++ B := by
        have e1 : ((List.range ops.size).filter fun k => !(listed.setIfInBounds i true).getD k true) = ((List.range ops.size).filter fun k => !listed.getD k true).filter (fun k => decide (k ≠ i)) := by
          rw [List.filter_filter]
          refine List.filter_congr fun k hk => ?_
          have hklt := List.mem_range.1 hk
          by_cases hki : k = i
          · subst hki
            have : k < listed.size := by omega
            simp [Array.getD, this]
          · rw [getD_set_ne true (Ne.symm hki)]; simp [hki]
        rw [e1, hAB, List.filter_append, List.filter_cons]
        simp only [ne_eq, not_true_eq_false, decide_false, Bool.false_eq_true, if_false]
        rw [List.filter_eq_self.2 (fun j hj => by have := hAi j hj; simp; omega), List.filter_eq_self.2 (fun j hj => by have := hiB j hj; simp; omega)]
      have hd' : Down ops (listed.setIfInBounds i true) := by
        intro k o ho hk j hj
        by_cases hji : j = i
        · subst hji
          have : j < listed.size := by omega
          simp [Array.getD, this]
        · rw [getD_set_ne true (Ne.symm hji)]
          by_cases hki : k = i
          · subst hki
            rw [hy] at ho; cases ho
            exact hlistedE j hj
          · rw [getD_set_ne true (Ne.symm hki)] at hk
            exact hd k o ho hk j hj
      refine ih (listed.setIfInBounds i true) s1 st' fps2 a' w' (by simp [hsz]) hd' ?_ (by rw [hR']; exact h4) (fun i' j' fi' fj' hu h5 h6 => hconf i' j' fi' fj' hu ((h2 _).1 (by simp [h5])) ((h2 _).1 (by simp [h6]))) hS' (fun a2 w2 hd2 => hQ a2 w2 (by rw [hd2, hdf]))
      rw [hR']
      rw [hAB] at hlen
      simp only [List.length_append, List.length_cons] at hlen ⊢
      omega

theorem sim_drew {w0 : World} {X0 : Cx} {Md : Md} {n : Nat} {st : St} {tmps : Array Value} (hS : Sim w0 X0 Md n st tmps w) : Sim w0 X0 Md n st tmps { w with drawn := w.drawn + 1 } := by
  obtain ⟨X, O, h, hF⟩ := hS
  have heff : Eff w X { w with drawn := w.drawn + 1 } X [] :=
    ⟨Nat.le_refl _, fun _ _ _ => rfl, fun _ _ _ => rfl, by simp, rfl, h.dom, rfl, rfl, rfl⟩
  have h1 := h.put (T := []) (Oin := []) (O' := []) (z := .undef) (v := undef) none (by simp) heff (by simp [Rep]) Lin.nil (by simp) (by simp [V.ptrs])
  have hF1 := Fr.put (z := .undef) h hF (T := []) (Oin := []) (O' := []) none (by simp) heff (by simp)
  exact ⟨X, _, h1, hF1⟩

theorem all_unlisted (n : Nat) : ((List.range n).filter fun k => !(Array.replicate n false).getD k true) = List.range n := by
  refine List.filter_eq_self.2 fun k hk => ?_
  have := List.mem_range.1 hk
  simp [Array.getD, this]

/-- A REGION -/
theorem region_ok (hC : OrcOk P C) (hm : P.follows .mixedOrders = true) {F : Fence} (hFF : F = Fence.wide ∨ ∃ l, F = Fence.wide.inRound l) {w0 : World} {X0 : Cx} {Md : Md} {n : Nat} {bid id : Nat} {ops : Array Oper} {draw : Bool} {st st' : St} {e : Ex} {a : Act} (hS : Sim w0 X0 Md n st a.tmps w)
    (hls : hasLs H f ops = false) (hx : ex P H C f bid (.region id ops draw) st = some (e, st')) : (Code.region id ops draw).wpIn F 0 P (fun e' a' w' => e' = e.exit' ∧ a'.defers = a.defers ∧ Sim w0 X0 Md n st' a'.tmps w') a w := by
  simp only [ex, hls, Bool.false_eq_true, if_false] at hx
  cases draw with
  | false =>
    simp only [Bool.false_eq_true, if_false] at hx
    obtain ⟨s, h1, h2⟩ := Option.map_eq_some_iff.1 hx
    simp only [Prod.mk.injEq] at h2
    obtain ⟨rfl, rfl⟩ := h2
    obtain ⟨fps, h3⟩ := execR_of_execOps _ _ _ h1
    exact wpIn_region (seq_ok hC hFF _ st s fps a w hS h3 fun a' w' hd hS' => ⟨rfl, hd, hS'⟩)
  | true =>
    simp only [if_true] at hx
    split at hx
    · rename_i hreg
      have key : ∀ fps, execR P H C f ops (List.range ops.size) st = some (st', fps) → (∀ i j fi fj, (i, j) ∈ H.pairs f id → (i, fi) ∈ fps → (j, fj) ∈ fps → fi.clash fj = false) → e = .normal →
          (Code.region id ops true).wpIn F 0 P (fun e' a' w' => e' = e.exit' ∧ a'.defers = a.defers ∧ Sim w0 X0 Md n st' a'.tmps w') a w := fun fps h3 hc he => by
        subst he
        refine wpIn_region_any hm (region_any hC hFF hreg ops.size _ st st' fps a _ (by simp) (fun k o ho hk => ?_) (by rw [all_unlisted]; simp) (by rw [all_unlisted]; exact h3) hc (sim_drew hS) fun a' w' hd hS' => ⟨rfl, hd, hS'⟩)
        have := (Array.getElem?_eq_some_iff.1 ho).1
        simp [Array.getD, this] at hk
      split at hx
      · rename_i hU
        obtain ⟨s, h1, h2⟩ := Option.map_eq_some_iff.1 hx
        simp only [Prod.mk.injEq] at h2
        obtain ⟨rfl, rfl⟩ := h2
        obtain ⟨fps, h3⟩ := execR_of_execOps _ _ _ h1
        exact key fps h3 (by rw [hU]; simp) rfl
      · split at hx
        · rename_i s fps h3
          split at hx
          · rename_i hc
            simp only [Option.some.injEq, Prod.mk.injEq] at hx
            obtain ⟨rfl, rfl⟩ := hx
            exact key fps h3 (noConf_spec hc) rfl
          · cases hx
        · cases hx
    · cases hx
end Go.Ab
