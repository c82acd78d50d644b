/-
  REGIONS, in whatever order.
-/
import Derived.Test.YtpiggpgocnlomaaAbR
import Derived.OrdersIn
set_option linter.unusedVariables false
namespace Go.Ab
open Go
variable {P : Program} {H : Hints} {f : FuncId} {C : Orc}

/-! ### dull without owners -/
mutual
theorem dull_of_owns : ∀ x : V, x.owns = false → x.reflag flDull = x
  | .undef, _ | .val _, _ | .ptr .., _ | .yld _, _ | .lp .., _ => by simp [V.reflag]
  | .cptr l, h => by simp only [V.owns] at h; simp only [V.reflag, dullL_of_owns l h]
  | .sl f c l, h => by
    simp only [V.owns, Bool.or_eq_false_iff, decide_eq_false_iff_not] at h
    simp only [V.reflag, dullL_of_owns l h.2]
    have : flDull f = f := by cases f <;> simp_all [flDull]
    rw [this]
  | .fn g a b, h => by
    simp only [V.owns, Bool.or_eq_false_iff] at h
    simp only [V.reflag, dullL_of_owns a h.1, dullL_of_owns b h.2]
  | .iface t x, h => by simp only [V.owns] at h; simp only [V.reflag, dull_of_owns x h]
  | .agg l, h => by simp only [V.owns] at h; simp only [V.reflag, dullL_of_owns l h]
  | .tuple l, h => by simp only [V.owns] at h; simp only [V.reflag, dullL_of_owns l h]
theorem dullL_of_owns : ∀ l : List V, ownsL l = false → reflagL flDull l = l
  | [], _ => rfl
  | x :: l, h => by
    simp only [ownsL, Bool.or_eq_false_iff] at h
    simp only [reflagL, dull_of_owns x h.1, dullL_of_owns l h.2]
end
mutual
theorem dull_dull : ∀ x : V, (x.reflag flDull).reflag flDull = x.reflag flDull
  | .undef | .val _ | .ptr .. | .yld _ | .lp .. => by simp [V.reflag]
  | .cptr l => by simp only [V.reflag, dullL_dull l]
  | .sl f c l => by
    simp only [V.reflag, dullL_dull l]
    have : flDull (flDull f) = flDull f := by cases f <;> rfl
    rw [this]
  | .fn g a b => by simp only [V.reflag, dullL_dull a, dullL_dull b]
  | .iface t x => by simp only [V.reflag, dull_dull x]
  | .agg l => by simp only [V.reflag, dullL_dull l]
  | .tuple l => by simp only [V.reflag, dullL_dull l]
theorem dullL_dull : ∀ l : List V, reflagL flDull (reflagL flDull l) = reflagL flDull l
  | [] => rfl
  | x :: l => by simp only [reflagL, dull_dull x, dullL_dull l]
end

theorem dullAt_at : ∀ (T : List Tmp) (E : List V) (t : Nat), (dullAt E T)[t]? = if t ∈ T then E[t]?.map V.dull else E[t]?
  | [], E, t => by simp [dullAt]
  | s :: T, E, t => by
    have h : (dullAt E (s :: T)) = dullAt (E.modify s V.dull) T := rfl
    rw [h, dullAt_at T, List.getElem?_modify]
    by_cases hst : s = t
    · subst hst
      simp only [if_true, List.mem_cons, true_or, Option.map_eq_map]
      by_cases hm : s ∈ T
      · rw [if_pos hm]
        cases E[s]? with
        | none => rfl
        | some x => simp only [Option.map_some, Option.some.injEq]; exact dull_dull x
      · rw [if_neg hm]
    · have : (t ∈ s :: T) ↔ t ∈ T := by simp [Ne.symm hst]
      simp only [hst, if_false, this, Option.map_eq_map]
      split <;> simp

/-! ### one operation of a region -/
def putE (d : Option Tmp) (z : V) (E : List V) : List V := match d with
  | some d => E.set d z
  | none => E
def memStep (P : Program) (H : Hints) (C : Orc) (f : FuncId) (o : Oper) (b : Bool) (xs : List V) (st : St) : Option (V × St × Fp) := if b then stepM P H C f o xs st else some (.val undef, st, .none)
def takenOf (H : Hints) (f : FuncId) (o : Oper) (b : Bool) : List Tmp := if b && takes H f o then tmpsOf o else []

structure One (P : Program) (H : Hints) (C : Orc) (f : FuncId) (ops : Array Oper) (o : Oper) (st s : St) (ft : Foot) (b : Bool) (z : V) (m : St) : Prop where
  wanted : wantedA ops st.E o = some b
  nodup : b = true → takes H f o = true → nodupT (tmpsOf o) = true
  mem : memStep P H C f o b (o.op.operands.toList.map (rd H f o st.E)) st = some (z, m, ft.fp)
  res : s = { m with E := putE o.dst z (dullAt st.E (takenOf H f o b)) }
  took : ft.took = if b then tookAt H f o st.E else []
  looks : ft.looks = looksAt ops o

theorem put_eq (s : St) (d : Option Tmp) (z : V) : s.put d z = { s with E := putE d z s.E } := by cases d <;> rfl

theorem oneR_iff {ops : Array Oper} {i : Nat} {st s : St} {ft : Foot} : oneR P H C f ops i st = some (s, ft) ↔ ∃ o, ops[i]? = some o ∧ ∃ b z m, One P H C f ops o st s ft b z m := by
  unfold oneR
  constructor
  · intro h
    cases ho : ops[i]? with
    | none => rw [ho] at h; cases h
    | some o =>
      rw [ho] at h
      simp only at h
      refine ⟨o, rfl, ?_⟩
      cases hw : wantedA ops st.E o with
      | none => rw [hw] at h; cases h
      | some b =>
        rw [hw] at h
        cases b with
        | false =>
          simp only [Option.some.injEq, Prod.mk.injEq] at h
          obtain ⟨rfl, rfl⟩ := h
          exact ⟨false, .val undef, st, hw, (fun hb => nomatch hb), rfl, by rw [put_eq]; rfl, rfl, rfl⟩
        | true =>
          simp only at h
          obtain ⟨⟨s1, fp⟩, h1, h2⟩ := Option.map_eq_some_iff.1 h
          simp only [Prod.mk.injEq] at h2
          obtain ⟨rfl, rfl⟩ := h2
          unfold stepFp at h1
          split at h1
          · cases h1
          · rename_i hn
            obtain ⟨⟨z, m, fp'⟩, h3, h4⟩ := Option.map_eq_some_iff.1 h1
            simp only [Prod.mk.injEq] at h4
            obtain ⟨rfl, rfl⟩ := h4
            have hE : (if takes H f o = true then { st with E := dullAt st.E (tmpsOf o) } else st) = { st with E := dullAt st.E (takenOf H f o true) } := by
              unfold takenOf; by_cases ht : takes H f o = true <;> simp [ht, dullAt]
            rw [hE, stepM_E] at h3
            obtain ⟨⟨z1, m1, fp1⟩, h5, h6⟩ := Option.map_eq_some_iff.1 h3
            simp only [Prod.mk.injEq] at h6
            obtain ⟨rfl, rfl, rfl⟩ := h6
            exact ⟨true, z1, m1, hw, fun _ ht => by simpa [ht] using hn, h5, by rw [put_eq], rfl, rfl⟩
  · rintro ⟨o, ho, b, z, m, h⟩
    rw [ho]
    simp only [h.wanted]
    cases b with
    | false =>
      obtain ⟨rfl, rfl, hfp⟩ := some3 (h.mem)
      have h1 := h.res; have h2 := h.took; have h3 := h.looks
      simp only [Option.some.injEq, Prod.mk.injEq]
      refine ⟨by rw [h1, put_eq]; rfl, ?_⟩
      cases ft; simp_all
    | true =>
      have h0 := h.mem
      simp only [memStep, if_true] at h0
      have hE : (if takes H f o = true then { st with E := dullAt st.E (tmpsOf o) } else st) = { st with E := dullAt st.E (takenOf H f o true) } := by
        unfold takenOf; by_cases ht : takes H f o = true <;> simp [ht, dullAt]
      have h3 : stepFp P H C f o st = some (s, ft.fp) := by
        unfold stepFp
        rw [if_neg (by intro hc; simp only [Bool.and_eq_true, Bool.not_eq_true'] at hc; rw [h.nodup rfl hc.1] at hc; cases hc.2), hE, stepM_E, h0]
        simp only [Option.map_some, Option.some.injEq, Prod.mk.injEq, and_true]
        rw [put_eq, h.res]
      simp only [h3, Option.map_some, Option.some.injEq, Prod.mk.injEq, true_and]
      have h1 := h.took; have h2 := h.looks
      cases ft; simp_all

theorem memStep_swap {o o' : Oper} {b b' : Bool} {xs xs' : List V} {st m m' : St} {z z' : V} {fp fp' : Fp} (h : memStep P H C f o b xs st = some (z, m, fp)) (h' : memStep P H C f o' b' xs' m = some (z', m', fp')) (hc : fp.conflict fp' = false) :
    ∃ m1, memStep P H C f o' b' xs' st = some (z', m1, fp') ∧ memStep P H C f o b xs m1 = some (z, m', fp) := by
  cases b with
  | false =>
    obtain ⟨rfl, rfl, rfl⟩ := some3 h
    exact ⟨m', h', rfl⟩
  | true =>
    cases b' with
    | false =>
      obtain ⟨rfl, rfl, rfl⟩ := some3 h'
      exact ⟨st, rfl, h⟩
    | true => exact stepM_swap h h' hc

theorem memStep_E (o : Oper) (b : Bool) (xs : List V) (st : St) (E : List V) : memStep P H C f o b xs { st with E := E } = (memStep P H C f o b xs st).map fun (z, m, fp) => (z, { m with E := E }, fp) := by
  cases b
  · rfl
  · exact stepM_E ..

theorem getD_congr {E E' : List V} {t : Nat} (h : E'[t]? = E[t]?) : E'.getD t .undef = E.getD t .undef := by
  rw [List.getD_eq_getElem?_getD, List.getD_eq_getElem?_getD, h]

theorem view_congr {ops : Array Oper} {o : Oper} {E E' : List V} (h : ∀ t ∈ looksAt ops o, E'[t]? = E[t]?) :
    wantedA ops E' o = wantedA ops E o ∧ o.op.operands.toList.map (rd H f o E') = o.op.operands.toList.map (rd H f o E) ∧ tookAt H f o E' = tookAt H f o E := by
  have ht : ∀ t ∈ tmpsOf o, E'[t]? = E[t]? := fun t ht => h t (List.mem_append_left _ ht)
  refine ⟨?_, ?_, ?_⟩
  · unfold wantedA
    cases hg : o.guard with
    | none => rfl
    | some gw =>
      obtain ⟨g, want⟩ := gw
      simp only
      cases hb : (ops[g]?).bind (·.dst) with
      | none => rfl
      | some t =>
        simp only
        rw [h t (List.mem_append_right _ (by rw [hg]; simp [hb]))]
  · refine List.map_congr_left fun x hx => ?_
    cases x with
    | tmp t =>
      have : E'.getD t .undef = E.getD t .undef := getD_congr (ht t (List.mem_filterMap.2 ⟨.tmp t, hx, rfl⟩))
      simp only [rd, this]
    | _ => rfl
  · unfold tookAt
    split
    · refine List.filter_congr fun t htm => ?_
      rw [getD_congr (ht t htm)]
    · rfl

theorem dstApart_spec {ops : Array Oper} {x y : Oper} (h : dstApart ops x y = true) :
    (∀ d, x.dst = some d → d ∉ looksAt ops y) ∧ (∀ d, x.dst = some d → y.dst ≠ some d) ∧ (∀ d, y.dst = some d → d ∉ looksAt ops x) := by
  refine ⟨fun d hd => ?_, fun d hd => ?_, fun d hd => ?_⟩ <;> simp [dstApart, hd] at h
  · exact h.1.1
  · exact h.1.2
  · exact h.2

theorem meets_false {l l' : List Tmp} (h : meets l l' = false) : ∀ t ∈ l, t ∉ l' := by
  intro t ht ht'
  have := List.any_eq_false.1 h t ht
  simp [ht'] at this

theorem putE_at (d : Option Tmp) (z : V) (E : List V) (t : Nat) : (putE d z E)[t]? = if d = some t ∧ t < E.length then some z else E[t]? := by
  cases d with
  | none => simp [putE]
  | some d =>
    simp only [putE, List.getElem?_set, Option.some.injEq]
    by_cases h : d = t
    · subst h
      by_cases h2 : d < E.length
      · simp [h2]
      · simp [h2]
    · simp [h]

/-- what another looks at stays -/
theorem looks_kept {ops : Array Oper} {o y : Oper} {st : St} {b : Bool} {z : V} {took : List Tmp} (hd : ∀ d, o.dst = some d → d ∉ looksAt ops y) (htk : took = if b then tookAt H f o st.E else []) (hm : ∀ t ∈ took, t ∉ looksAt ops y) :
    ∀ t ∈ looksAt ops y, (putE o.dst z (dullAt st.E (takenOf H f o b)))[t]? = st.E[t]? := by
  intro t ht
  rw [putE_at, if_neg (fun h => hd t h.1 ht), dullAt_at]
  split
  · rename_i hmem
    unfold takenOf at hmem
    split at hmem
    · rename_i hb
      simp only [Bool.and_eq_true] at hb
      have hnt : t ∉ took := fun h => hm t h ht
      rw [htk, if_pos hb.1] at hnt
      unfold tookAt at hnt
      rw [if_pos hb.2] at hnt
      simp only [List.mem_filter, hmem, true_and, Bool.not_eq_true] at hnt
      cases hE : st.E[t]? with
      | none => rfl
      | some x =>
        rw [List.getD_eq_getElem?_getD, hE] at hnt
        simp only [Option.map_some, Option.some.injEq]
        exact dull_of_owns x hnt
    · simp at hmem
  · rfl

theorem dullAt_len (E : List V) (T : List Tmp) : (dullAt E T).length = E.length := dullAt_length T E
theorem putE_len (d : Option Tmp) (z : V) (E : List V) : (putE d z E).length = E.length := by cases d <;> simp [putE]

theorem taken_looks {ops : Array Oper} {o : Oper} {b : Bool} {t : Nat} (h : t ∈ takenOf H f o b) : t ∈ looksAt ops o := by
  unfold takenOf at h
  split at h
  · exact List.mem_append_left _ h
  · simp at h

theorem swap_one {ops : Array Oper} {i j : Nat} {x y : Oper} {st s1 s2 : St} {fx fy : Foot} (hx : ops[j]? = some x) (hy : ops[i]? = some y) (hap : dstApart ops x y = true) (h1 : oneR P H C f ops j st = some (s1, fx)) (h2 : oneR P H C f ops i s1 = some (s2, fy))
    (hcl : fx.clash fy = false) : ∃ s1', oneR P H C f ops i st = some (s1', fy) ∧ oneR P H C f ops j s1' = some (s2, fx) := by
  obtain ⟨x', hx', b, z, m, A⟩ := oneR_iff.1 h1
  obtain ⟨y', hy', b', z', m', B⟩ := oneR_iff.1 h2
  rw [hx] at hx'; rw [hy] at hy'
  cases hx'; cases hy'
  obtain ⟨d1, d2, d3⟩ := dstApart_spec hap
  simp only [Foot.clash, Bool.or_eq_false_iff] at hcl
  obtain ⟨⟨hc, hm1⟩, hm2⟩ := hcl
  have hm1' := meets_false hm1
  have hm2' := meets_false hm2
  rw [B.looks] at hm1'
  rw [A.looks] at hm2'
  have hk1 := looks_kept (z := z) d1 A.took hm1'
  have hE1 : s1.E = putE x.dst z (dullAt st.E (takenOf H f x b)) := by rw [A.res]
  rw [← hE1] at hk1
  obtain ⟨v1, v2, v3⟩ := view_congr (H := H) (f := f) hk1
  have hmem := B.mem
  rw [v2] at hmem
  have hs1 : s1 = { m with E := s1.E } := by rw [hE1]; exact A.res
  rw [hs1, memStep_E] at hmem
  obtain ⟨⟨z2, m2, fp2⟩, h3, h4⟩ := Option.map_eq_some_iff.1 hmem
  simp only [Prod.mk.injEq] at h4
  obtain ⟨rfl, hm'E, rfl⟩ := h4
  obtain ⟨m1, h5, h6⟩ := memStep_swap A.mem h3 hc
  have hBt : fy.took = if b' then tookAt H f y st.E else [] := by rw [B.took, v3]
  have hk2 := looks_kept (z := z2) d3 hBt hm2'
  obtain ⟨u1, u2, u3⟩ := view_congr (H := H) (f := f) hk2
  let s1' : St := { m1 with E := putE y.dst z2 (dullAt st.E (takenOf H f y b')) }
  have e1 : oneR P H C f ops i st = some (s1', fy) := oneR_iff.2 ⟨y, hy, b', z2, m1, by rw [← v1]; exact B.wanted, B.nodup, h5, rfl, hBt, B.looks⟩
  refine ⟨s1', e1, oneR_iff.2 ⟨x, hx, b, z, { m2 with E := s1'.E }, by rw [u1]; exact A.wanted, A.nodup, ?_, ?_, by rw [A.took, u3], A.looks⟩⟩
  · rw [u2]
    show memStep P H C f x b _ { m1 with E := _ } = _
    rw [memStep_E, h6]
    rfl
  · rw [B.res, ← hm'E]
    simp only [St.mk.injEq, and_true]
    apply List.ext_getElem?
    intro t
    have hs1E : s1'.E = putE y.dst z2 (dullAt st.E (takenOf H f y b')) := rfl
    rw [hs1E, hE1]
    simp only [putE_at, dullAt_at, dullAt_len, putE_len]
    by_cases c1 : x.dst = some t
    · have n1 : y.dst ≠ some t := d2 t c1
      have n2 : t ∉ takenOf H f y b' := fun h => d1 t c1 (taken_looks h)
      simp [c1, n1, n2]
    · by_cases c2 : y.dst = some t
      · have n2 : t ∉ takenOf H f x b := fun h => d3 t c2 (taken_looks h)
        simp [c1, c2, n2]
      · simp only [c1, c2, false_and, if_false]
        by_cases c3 : t ∈ takenOf H f x b <;> by_cases c4 : t ∈ takenOf H f y b' <;> simp [c3, c4]

theorem execR_cons {ops : Array Oper} {i : Nat} {l : List Nat} {st s : St} {fps : List (Nat × Foot)} : execR P H C f ops (i :: l) st = some (s, fps) ↔ ∃ s1 ft fps', oneR P H C f ops i st = some (s1, ft) ∧ execR P H C f ops l s1 = some (s, fps') ∧ fps = (i, ft) :: fps' := by
  simp only [execR]
  cases h : oneR P H C f ops i st with
  | none => simp
  | some p =>
    obtain ⟨s1, ft⟩ := p
    simp only [Option.map_eq_some_iff, Prod.exists, Option.some.injEq, Prod.mk.injEq]
    constructor
    · rintro ⟨a, b, h1, rfl, rfl⟩; exact ⟨s1, ft, b, ⟨rfl, rfl⟩, h1, rfl⟩
    · rintro ⟨a, b, c, ⟨rfl, rfl⟩, h1, rfl⟩; exact ⟨s, c, h1, rfl, rfl⟩

theorem move_front {ops : Array Oper} {i : Nat} {y : Oper} (hy : ops[i]? = some y) {B : List Nat} : ∀ (A : List Nat) (st s : St) (fps : List (Nat × Foot)), execR P H C f ops (A ++ i :: B) st = some (s, fps) →
    (∀ j ∈ A, ∃ x, ops[j]? = some x ∧ dstApart ops x y = true ∧ ∀ fx fy, (j, fx) ∈ fps → (i, fy) ∈ fps → fx.clash fy = false) →
    ∃ fps', execR P H C f ops (i :: (A ++ B)) st = some (s, fps') ∧ ∀ p, p ∈ fps' ↔ p ∈ fps
  | [], st, s, fps, h, _ => ⟨fps, h, fun _ => Iff.rfl⟩
  | j :: A, st, s, fps, h, hA => by
    rw [List.cons_append, execR_cons] at h
    obtain ⟨s1, fj, fps1, h1, h2, rfl⟩ := h
    obtain ⟨fps2, h3, h4⟩ := move_front hy A s1 s fps1 h2 (fun k hk => by
      obtain ⟨x, hx, hd, hc⟩ := hA k (by simp [hk])
      exact ⟨x, hx, hd, fun fx fy h1 h2 => hc fx fy (by simp [h1]) (by simp [h2])⟩)
    rw [execR_cons] at h3
    obtain ⟨s2, fi, fps3, h5, h6, rfl⟩ := h3
    obtain ⟨x, hx, hd, hc⟩ := hA j (by simp)
    obtain ⟨s1', h7, h8⟩ := swap_one hx hy hd h1 h5 (hc fj fi (by simp) (by
      have := (h4 (i, fi)).1 (by simp)
      simp [this]))
    refine ⟨(i, fi) :: (j, fj) :: fps3, ?_, fun p => ?_⟩
    · rw [execR_cons]
      exact ⟨s1', fi, (j, fj) :: fps3, h7, by rw [List.cons_append, execR_cons]; exact ⟨s2, fj, fps3, h8, h6, rfl⟩, rfl⟩
    · have := h4 p
      simp only [List.mem_cons] at this ⊢
      rw [← this]
      constructor
      · rintro (h | h | h) <;> simp [h]
      · rintro (h | h | h) <;> simp [h]

/-- what a footprint is sure to say -/
theorem foot_text {ops : Array Oper} {i : Nat} {y : Oper} {st s : St} {ft : Foot} (hy : ops[i]? = some y) (h : oneR P H C f ops i st = some (s, ft)) :
    (stillOp y.op = true → ft.fp = .none) ∧ (∀ t ∈ ft.took, takes H f y = true ∧ t ∈ tmpsOf y) ∧ ft.looks = looksAt ops y := by
  obtain ⟨o, ho, b, z, m, A⟩ := oneR_iff.1 h
  rw [hy] at ho; cases ho
  refine ⟨fun hs => ?_, fun t ht => ?_, A.looks⟩
  · have hm := A.mem
    cases b with
    | false => exact (some3 hm).2.2.symm
    | true =>
      have hm : stepM P H C f y _ st = some (z, m, ft.fp) := hm
      rcases op_cases y.op with ⟨t, hop⟩ | ⟨t, a, hop⟩ | ⟨c, fo, hop, hc⟩ | hd
      · rw [hop] at hs; simp [stillOp] at hs
      · rw [hop] at hs; simp [stillOp] at hs
      · rw [hop] at hs; obtain ⟨cal, a1, a2⟩ := c; simp only at hc; subst hc; simp [stillOp] at hs
      · rw [stepM_dflt hd] at hm
        unfold dfltM at hm
        split at hm
        · split at hm
          · exact (some3 hm).2.2.symm
          · cases hm
        · rename_i r hr
          obtain ⟨_, _, _, ⟨t, a, hop⟩ | ⟨t, a, x, hop⟩⟩ := rootOf_some hr <;> rw [hop] at hs <;> simp [stillOp] at hs
  · rw [A.took] at ht
    split at ht
    · unfold tookAt at ht
      split at ht
      · rename_i htk; exact ⟨htk, (List.mem_filter.1 ht).1⟩
      · simp at ht
    · simp at ht

theorem clash_text {ops : Array Oper} {i j : Nat} {x y : Oper} {s1 s1' s2 s2' : St} {fx fy : Foot} (hx : ops[j]? = some x) (hy : ops[i]? = some y) (h : oneR P H C f ops j s1 = some (s1', fx)) (h' : oneR P H C f ops i s2 = some (s2', fy))
    (ht : textApart H f ops x y = true) : fx.clash fy = false := by
  obtain ⟨a1, a2, a3⟩ := foot_text hx h
  obtain ⟨b1, b2, b3⟩ := foot_text hy h'
  simp only [textApart, Bool.and_eq_true, Bool.or_eq_true, Bool.not_eq_true'] at ht
  obtain ⟨⟨h1, h2⟩, h3⟩ := ht
  simp only [Foot.clash, Bool.or_eq_false_iff]
  refine ⟨⟨?_, ?_⟩, ?_⟩
  · rcases h1 with h1 | h1
    · rw [a1 h1]; rfl
    · rw [b1 h1]; cases fx.fp <;> rfl
  · rw [b3]
    refine List.any_eq_false.2 fun t ht => ?_
    obtain ⟨c1, c2⟩ := a2 t ht
    rcases h2 with h2 | h2
    · rw [c1] at h2; cases h2
    · simpa using meets_false h2 t c2
  · rw [a3]
    refine List.any_eq_false.2 fun t ht => ?_
    obtain ⟨c1, c2⟩ := b2 t ht
    rcases h3 with h3 | h3
    · rw [c1] at h3; cases h3
    · simpa using meets_false h3 t c2

theorem execR_mem {ops : Array Oper} : ∀ (l : List Nat) (st s : St) (fps : List (Nat × Foot)), execR P H C f ops l st = some (s, fps) → ∀ k ft, (k, ft) ∈ fps → k ∈ l ∧ ∃ s1 s2, oneR P H C f ops k s1 = some (s2, ft)
  | [], st, s, fps, h, k, ft, hk => by simp only [execR, Option.some.injEq, Prod.mk.injEq] at h; rw [← h.2] at hk; simp at hk
  | i :: l, st, s, fps, h, k, ft, hk => by
    obtain ⟨s1, fi, fps', h1, h2, rfl⟩ := execR_cons.1 h
    rcases List.mem_cons.1 hk with hk | hk
    · cases hk; exact ⟨by simp, _, _, h1⟩
    · obtain ⟨h3, h4⟩ := execR_mem l s1 s fps' h2 k ft hk
      exact ⟨by simp [h3], h4⟩
end Go.Ab
