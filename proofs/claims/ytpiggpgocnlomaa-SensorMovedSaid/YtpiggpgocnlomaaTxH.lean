/-
  CODE AND FUNCTIONS: what the typed interpreter gives is what the abstract one gives.
-/
import Derived.Test.YtpiggpgocnlomaaTxG
set_option linter.unusedVariables false
namespace Go.Tx
open Go Go.Ab
variable {P : Program} {H : Hints} {J : TH} {T : CallT} {O : TOrc} {lib : FuncId → Option (List V → Option V)} {f : FuncId} {ctx : List Tmp}

theorem stepMT_ok (hT : TOk P H lib T) (hO : OOk P H lib O) {o : Oper} {xs : List TV} {ys : List V} {st : TSt} {s : St} {R : Type} {k : TV → TSt → Fp → Option R} {r : R} (hx : RVL xs ys) (hs : Rst st s)
    (h : stepMT P H J T O ctx f o xs st R k = some r) :
    ∃ v st' fp u s', k v st' fp = some r ∧ Ev (fun C => stepM P H C f o ys s = some (u, s', fp)) P H lib ∧ RV v u ∧ Rst st' s' ∧ Fr2 st st' s s' ∧ st'.E = st.E ∧ s'.E = s.E := by
  rcases op_cases o.op with ⟨t, hop⟩ | ⟨t, a, hop⟩ | ⟨c, fo, hop, hc⟩ | hd
  · unfold stepMT at h
    simp only [hop] at h
    split at h
    · rename_i d z hd hz
      split at h
      · rename_i hn
        have hn' : lookT st.B d = none := by simpa using hn
        obtain ⟨z', hz', _, hcz⟩ := zeroT_ok hz
        obtain ⟨hR, hF⟩ := push_ok hs hn' hcz
        refine ⟨_, _, _, .ptr ⟨s.L.length, d⟩ 0, _, h, .of fun C => ?_, by simp [RV, hs.len], hR, hF, rfl, rfl⟩
        unfold stepM
        simp only [hop, hd, hz']
        rw [if_pos (by rw [lookT_none hs hn']; rfl)]
      · cases h
    · cases h
  · unfold stepMT at h
    simp only [hop] at h
    split at h
    · rename_i d x hd
      split at h
      · rename_i hn
        have hn' : lookT st.B d = none := by simpa using hn.1
        obtain ⟨v, rfl, hv⟩ := rvl_one hx
        obtain ⟨hcells, hok⟩ := RV.cells hn.2.2 hv
        obtain ⟨hR, hF⟩ := push_ok hs hn' hcells
        refine ⟨_, _, _, .ptr ⟨s.L.length, d⟩ 0, _, h, .of fun C => ?_, by simp [RV, hs.len], hR, hF, rfl, rfl⟩
        unfold stepM
        simp only [hop, hd]
        rw [if_pos ⟨by rw [lookT_none hs hn']; rfl, by rw [hcells.length]; exact hn.2.1, hok⟩]
      · cases h
    · cases h
  · rw [stepMT_call hop hc] at h
    cases xs with
    | nil => cases h
    | cons fv args =>
      simp only [RVL] at hx
      obtain ⟨fv', args', rfl, hfv, ha⟩ := hx
      obtain ⟨v, st', u, s', hk, hev, hr, hR, hF, e1, e2, hp⟩ := callVT_ok hT hO hfv ha hs h
      refine ⟨v, st', _, u, s', hk, hev.imp fun C hC => ?_, hr, hR, hF, e1, e2⟩
      rw [stepM_call hop hc]
      simp only [hC, Option.map_some, hp]
  · rw [stepMT_dflt hd] at h
    obtain ⟨v, st', fp, u, s', hk, hm, hr, hR, hF, e1, e2⟩ := dfltMT_ok hx hs h
    exact ⟨v, st', fp, u, s', hk, .of fun C => by rw [stepM_dflt hd]; exact hm, hr, hR, hF, e1, e2⟩

theorem rd_ok {o : Oper} {E : List TV} {E' : List V} (h : RVL E E') (x : Operand) : RV (rdT H f o E x) (rd H f o E' x) := by
  cases x with
  | tmp t =>
    simp only [rdT, rd]
    split
    · exact h.getD t
    · exact (h.getD t).dull
  | const v => exact rv_const _ _
  | global g => exact rv_undef []
  | func g => simp [rdT, rd, RV, RVL]
theorem rds_ok {o : Oper} {E : List TV} {E' : List V} (h : RVL E E') : ∀ l : List Operand, RVL (l.map (rdT H f o E)) (l.map (rd H f o E'))
  | [] => rvl_nil
  | x :: l => rvl_cons.2 ⟨rd_ok h x, rds_ok h l⟩
theorem dullAt_ok : ∀ (ts : List Tmp) {E : List TV} {E' : List V}, RVL E E' → RVL (dullAtT E ts) (dullAt E' ts)
  | [], E, E', h => h
  | t :: ts, E, E', h => by
    have h1 : RVL (E.modify t TV.dull) (E'.modify t V.dull) := by
      refine rvl_of_get (by simp [h.length]) fun i x v hx hv => ?_
      rw [List.getElem?_modify] at hx hv
      obtain ⟨y, hy, rfl⟩ := Option.map_eq_some_iff.1 hx
      obtain ⟨u, hu, rfl⟩ := Option.map_eq_some_iff.1 hv
      obtain ⟨u2, hu2, hr⟩ := h.get hy
      rw [hu] at hu2; cases hu2
      by_cases e : t = i
      · simp only [e, if_true]; exact hr.dull
      · simp only [if_neg e]; exact hr
    exact dullAt_ok ts h1
theorem dullAt_other {ts : List Tmp} {t : Nat} (h : t ∉ ts) : ∀ E : List V, (dullAt E ts)[t]? = E[t]? := by
  induction ts with
  | nil => intro E; rfl
  | cons u ts ih =>
    intro E
    simp only [List.mem_cons, not_or] at h
    have e : dullAt E (u :: ts) = dullAt (E.modify u V.dull) ts := rfl
    rw [e, ih h.2, List.getElem?_modify]
    simp [Ne.symm h.1]
theorem dullAt_len' (ts : List Tmp) (E : List V) : (dullAt E ts).length = E.length := dullAt_length ts E

theorem put_ok {st : TSt} {s : St} (hs : Rst st s) (d : Option Tmp) {v : TV} {u : V} (hv : RV v u) : Rst (st.put d v) (s.put d u) ∧ Fr2 st (st.put d v) s (s.put d u) := by
  cases d with
  | none => exact ⟨hs, Fr2.refl _ _⟩
  | some t =>
    refine ⟨⟨hs.E.set t hv, hs.M⟩, ⟨fun x hx => by simp [TSt.put, hx], fun r hr => hr, fun x hx => ?_, fun r hr => rfl, rfl, by simp [St.put]⟩⟩
    simp only [TSt.put, List.mem_cons, not_or] at hx
    simp only [St.put]
    rw [List.getElem?_set_ne (Ne.symm hx.1)]

theorem stepFpT_ok (hT : TOk P H lib T) (hO : OOk P H lib O) {o : Oper} {st : TSt} {s : St} {R : Type} {k : TSt → Fp → Option R} {r : R} (hs : Rst st s) (h : stepFpT P H J T O ctx f o st R k = some r) :
    ∃ st' fp s', k st' fp = some r ∧ Ev (fun C => stepFp P H C f o s = some (s', fp)) P H lib ∧ Rst st' s' ∧ Fr2 st st' s s' := by
  unfold stepFpT at h
  split at h
  · cases h
  · rename_i hn
    have hs1 : Rst (if takes H f o = true then { st with E := dullAtT st.E (tmpsOf o), Wt := tmpsOf o ++ st.Wt } else st) (if takes H f o = true then { s with E := dullAt s.E (tmpsOf o) } else s) ∧
        Fr2 st (if takes H f o = true then { st with E := dullAtT st.E (tmpsOf o), Wt := tmpsOf o ++ st.Wt } else st) s (if takes H f o = true then { s with E := dullAt s.E (tmpsOf o) } else s) := by
      split
      · refine ⟨⟨dullAt_ok _ hs.E, hs.M⟩, ⟨fun t ht => by simp [ht], fun r hr => hr, fun t ht => ?_, fun r hr => rfl, rfl, dullAt_len' _ _⟩⟩
        simp only [List.mem_append, not_or] at ht
        exact dullAt_other ht.1 _
      · exact ⟨hs, Fr2.refl _ _⟩
    obtain ⟨v, st', fp, u, s', hk, hev, hr, hR, hF, e1, e2⟩ := stepMT_ok hT hO (rds_ok hs.E _) hs1.1 h
    obtain ⟨hR2, hF2⟩ := put_ok hR o.dst hr
    refine ⟨_, fp, _, hk, hev.imp fun C hC => ?_, hR2, (hs1.2.trans hF).trans hF2⟩
    unfold stepFp
    rw [if_neg hn, hC]
    rfl

theorem gate_ok {ops : Array Oper} {o : Oper} {st : TSt} {s : St} {R : Type} {yes no : TSt → Option R} {r : R} (hs : Rst st s) (h : gateT ops o st R yes no = some r) :
    ∃ st1 b, wantedA ops s.E o = some b ∧ Rst st1 s ∧ Fr2 st st1 s s ∧ (if b then yes st1 else no st1) = some r := by
  unfold gateT at h
  unfold wantedA
  split at h
  · rename_i hg
    rw [hg]
    exact ⟨st, true, rfl, hs, Fr2.refl _ _, h⟩
  · rename_i j want hg
    rw [hg]
    simp only
    split at h
    · rename_i t ht
      rw [ht]
      simp only
      split at h
      · rename_i o' b hb
        obtain ⟨v, hv, hr⟩ := hs.E.get hb
        simp only [RV, RTy] at hr
        subst hr
        rw [hv]
        have hset : ∀ c, b = c → Rst ({ st with E := st.E.set t (.t .bool 0 c) } : TSt) s := fun c hc => ⟨rvl_set_same hs.E t fun u hu => by
          rw [hv] at hu; cases hu; simp [RV, RTy, hc], hs.M⟩
        have hfr : ∀ c, Fr2 st ({ st with E := st.E.set t (.t .bool 0 c) } : TSt) s s := fun c => ⟨fun x hx => hx, fun x hx => hx, fun x hx => rfl, fun x hx => rfl, rfl, rfl⟩
        cases b with
        | true =>
          simp only [cond_true] at h
          refine ⟨_, (true == want), rfl, hset true rfl, hfr true, ?_⟩
          cases want <;> exact h
        | false =>
          simp only [cond_false] at h
          refine ⟨_, (false == want), rfl, hset false rfl, hfr false, ?_⟩
          cases want <;> exact h
      · rename_i vs hb
        obtain ⟨v, hv, hr⟩ := hs.E.get hb
        simp only [RV] at hr
        subst hr
        rw [hv]
        split at h
        · rename_i h0
          exact ⟨st, false, by simp only [h0, if_true], hs, Fr2.refl _ _, h⟩
        · cases h
      · cases h
    · cases h

theorem execT_ok (hT : TOk P H lib T) (hO : OOk P H lib O) {ops : Array Oper} {R : Type} {k : TSt → Option R} {r : R} : ∀ (is : List Nat) (st : TSt) (s : St), Rst st s → execT P H J T O ctx f ops is st R k = some r →
    ∃ st' s', k st' = some r ∧ Ev (fun C => execOps P H C f ops is s = some s') P H lib ∧ Rst st' s' ∧ Fr2 st st' s s'
  | [], st, s, hs, h => ⟨st, s, h, .of fun C => rfl, hs, Fr2.refl _ _⟩
  | i :: is, st, s, hs, h => by
    simp only [execT] at h
    split at h
    · cases h
    · rename_i o ho
      obtain ⟨st1, b, hw, hs1, hf1, hb⟩ := gate_ok hs h
      cases b with
      | true =>
        simp only [if_true] at hb
        obtain ⟨st2, fp, s2, hk, hev, hR, hF⟩ := stepFpT_ok hT hO hs1 hb
        obtain ⟨st3, s3, hk3, hev3, hR3, hF3⟩ := execT_ok hT hO is st2 s2 hR hk
        refine ⟨st3, s3, hk3, (hev.and hev3).imp fun C hC => ?_, hR3, (hf1.trans hF).trans hF3⟩
        simp only [execOps, ho, hw, stepOp, hC.1, Option.map_some, hC.2]
      | false =>
        simp only [Bool.false_eq_true, if_false] at hb
        obtain ⟨hR, hF⟩ := put_ok hs1 o.dst (v := .val undef) (u := .val undef) (by simp [RV])
        obtain ⟨st3, s3, hk3, hev3, hR3, hF3⟩ := execT_ok hT hO is _ _ hR hb
        refine ⟨st3, s3, hk3, hev3.imp fun C hC => ?_, hR3, (hf1.trans hF).trans hF3⟩
        simp only [execOps, ho, hw, hC]

/-- footprints, seen from above -/
def Cov (l : List (Nat × Foot)) (e : Nat × Foot) : Prop := ∃ e' ∈ l, e'.1 = e.1 ∧ e'.2.fp = e.2.fp ∧ e'.2.looks = e.2.looks ∧ ∀ t ∈ e.2.took, t ∈ e'.2.took
theorem took_ok {o : Oper} {E : List TV} {E' : List V} (h : RVL E E') : ∀ t ∈ tookAt H f o E', t ∈ tookAtT H f o E := fun t ht => by
  unfold tookAt at ht
  unfold tookAtT
  split at ht
  · rename_i htk
    rw [if_pos htk]
    simp only [List.mem_filter] at ht ⊢
    exact ⟨ht.1, RV.owns _ _ (h.getD t) ht.2⟩
  · cases ht
theorem execRT_ok (hT : TOk P H lib T) (hO : OOk P H lib O) {ops : Array Oper} {R : Type} {k : TSt → List (Nat × Foot) → Option R} {r : R} : ∀ (is : List Nat) (st : TSt) (s : St) (acc : List (Nat × Foot)), Rst st s → execRT P H J T O ctx f ops is st acc R k = some r →
    ∃ st' s' fps fpv, k st' fps = some r ∧ Ev (fun C => execR P H C f ops is s = some (s', fpv)) P H lib ∧ Rst st' s' ∧ Fr2 st st' s s' ∧ (∀ e ∈ acc, e ∈ fps) ∧ (∀ e ∈ fpv, Cov fps e)
  | [], st, s, acc, hs, h => ⟨st, s, acc, [], h, .of fun C => rfl, hs, Fr2.refl _ _, fun e he => he, by simp⟩
  | i :: is, st, s, acc, hs, h => by
    simp only [execRT] at h
    split at h
    · cases h
    · rename_i o ho
      obtain ⟨st1, b, hw, hs1, hf1, hb⟩ := gate_ok hs h
      cases b with
      | true =>
        simp only [if_true] at hb
        obtain ⟨st2, fp, s2, hk, hev, hR, hF⟩ := stepFpT_ok hT hO hs1 hb
        obtain ⟨st3, s3, fps, fpv, hk3, hev3, hR3, hF3, hacc, hcov⟩ := execRT_ok hT hO is st2 s2 _ hR hk
        refine ⟨st3, s3, fps, (i, ⟨fp, tookAt H f o s.E, looksAt ops o⟩) :: fpv, hk3, (hev.and hev3).imp fun C hC => ?_, hR3, (hf1.trans hF).trans hF3, fun e he => hacc e (by simp [he]), fun e he => ?_⟩
        · simp only [execR, oneR, ho, hw, hC.1, Option.map_some, hC.2]
        · rcases List.mem_cons.1 he with rfl | he
          · exact ⟨_, hacc _ (List.mem_cons_self ..), rfl, rfl, rfl, fun t ht => took_ok hs1.E t ht⟩
          · exact hcov e he
      | false =>
        simp only [Bool.false_eq_true, if_false] at hb
        obtain ⟨hR, hF⟩ := put_ok hs1 o.dst (v := .val undef) (u := .val undef) (by simp [RV])
        obtain ⟨st3, s3, fps, fpv, hk3, hev3, hR3, hF3, hacc, hcov⟩ := execRT_ok hT hO is _ _ _ hR hb
        refine ⟨st3, s3, fps, (i, ⟨.none, [], looksAt ops o⟩) :: fpv, hk3, hev3.imp fun C hC => ?_, hR3, (hf1.trans hF).trans hF3, fun e he => hacc e (by simp [he]), fun e he => ?_⟩
        · simp only [execR, oneR, ho, hw, hC, Option.map_some]
        · rcases List.mem_cons.1 he with rfl | he
          · exact ⟨_, hacc _ (List.mem_cons_self ..), rfl, rfl, rfl, fun t ht => by cases ht⟩
          · exact hcov e he
theorem meets_mono {l l' m : List Tmp} (h : ∀ t ∈ l, t ∈ l') (hm : meets l m = true) : meets l' m = true := by
  unfold meets at hm ⊢
  rw [List.any_eq_true] at hm ⊢
  obtain ⟨t, ht, h2⟩ := hm
  exact ⟨t, h t ht, h2⟩
theorem noConf_ok {U : List (Nat × Nat)} {fps fpv : List (Nat × Foot)} (hc : ∀ e ∈ fpv, Cov fps e) (h : noConf U fps = true) : noConf U fpv = true := by
  unfold noConf at h ⊢
  rw [List.all_eq_true] at h ⊢
  rintro ⟨i, j⟩ hu
  have h1 := h (i, j) hu
  simp only [List.all_eq_true] at h1 ⊢
  rintro ⟨a, p⟩ ha
  obtain ⟨⟨a', p'⟩, hp', hpa, hpf, hpl, hpt⟩ := hc (a, p) ha
  simp only at hpa hpf hpl hpt
  subst hpa
  have h2 := h1 (a', p') hp'
  simp only [Bool.or_eq_true, List.all_eq_true] at h2 ⊢
  rcases h2 with h2 | h2
  · exact .inl h2
  · right
    rintro ⟨b, q⟩ hb
    obtain ⟨⟨b', q'⟩, hq', hqa, hqf, hql, hqt⟩ := hc (b, q) hb
    simp only at hqa hqf hql hqt
    subst hqa
    have h3 := h2 (b', q') hq'
    simp only [Bool.not_eq_true'] at h3 ⊢
    rcases h3 with h3 | h3
    · exact .inl h3
    · right
      cases hcl : Foot.clash p q with
      | false => rfl
      | true =>
        have : Foot.clash p' q' = true := by
          unfold Foot.clash at hcl ⊢
          simp only [Bool.or_eq_true] at hcl ⊢
          rw [← hpf, ← hqf, ← hpl, ← hql] at hcl
          rcases hcl with (h4 | h4) | h4
          · exact .inl (.inl h4)
          · exact .inl (.inr (meets_mono hpt h4))
          · exact .inr (meets_mono hqt h4)
        rw [this] at h3; cases h3

/-! ### loops -/
theorem loopO_some {σ ρ : Type} {g : σ → Option (σ ⊕ ρ)} {s : σ} {r : ρ} (h : loopO g s = some r) : ∃ n, loopN g n s = some r := by
  unfold loopO at h
  split at h
  · rename_i hex
    cases h
    exact ⟨_, Classical.choose_spec (Classical.choose_spec hex)⟩
  · cases h

theorem loop_ok {j : Join} {bid : Nat} {c : Code} (ih : Snd (tx P H J T O ctx f bid c) (ExEv P H lib f bid c)) {st : TSt} {s0 : St} (hst : Rst st s0) {R : Type} {k : Ex → TSt → Option R} {r : R} :
    ∀ (n : Nat) (x : denL (j.ps.map (·.1))) (s : St), Rst (st.fresh.rebuild j (ofL j.ps x)) s → Fr2 st.fresh (st.fresh.rebuild j (ofL j.ps x)) s0 s →
      loopN (fun x => match (st.fresh.rebuild j (ofL j.ps x)).clear (H.clear f bid) with
            | some st1 => tx P H J T O ctx f bid c st1 (denL (j.ps.map (·.1)) ⊕ R) fun e st2 => match e with
              | .normal => (st2.outs st j).map .inl
              | e => (k e (st2.merge st)).map .inr
            | none => none) n x = some r →
      ∃ e st' s', ExEv P H lib f bid (.loop c) s e s' ∧ Rst st' s' ∧ Fr2 st st' s0 s' ∧ k e st' = some r
  | 0, x, s, hs, hf, h => by simp [loopN] at h
  | n + 1, x, s, hs, hf, h => by
    simp only [loopN] at h
    cases hcl : (st.fresh.rebuild j (ofL j.ps x)).clear (H.clear f bid) with
    | none => rw [hcl] at h; simp at h
    | some st1 =>
      rw [hcl] at h
      simp only at h
      obtain ⟨s1, hv1, hs1, hf1⟩ := clear_ok hs hcl
      have done : ∀ (e : Ex) (st2 : TSt) (s2 : St), e ≠ .normal → ExEv P H lib f bid c s1 e s2 → Rst st2 s2 → Fr2 st1 st2 s1 s2 → k e (st2.merge st) = some r →
          ∃ e st' s', ExEv P H lib f bid (.loop c) s e s' ∧ Rst st' s' ∧ Fr2 st st' s0 s' ∧ k e st' = some r := by
        intro e st2 s2 hne hev hR hF hk
        refine ⟨e, st2.merge st, s2, hev.imp fun C hC => ?_, hR.merge, merge_fr ((hf.trans hf1).trans hF), hk⟩
        simp only [ex, hv1, hC]
        cases e with
        | normal => exact absurd rfl hne
        | _ => rfl
      split at h
      · rename_i x' hx'
        obtain ⟨e, st2, s2, hev, hR, hF, hk⟩ := ih st1 _ _ _ s1 hx' hs1
        cases e with
        | normal =>
          obtain ⟨y, hy, hy2⟩ := Option.map_eq_some_iff.1 hk
          cases hy2
          have hF0 : Fr2 st.fresh st2 s0 s2 := (hf.trans hf1).trans hF
          have hy' : st2.outs st.fresh j = some x' := hy
          obtain ⟨e', st', s', hev', hR', hF', hk'⟩ := loop_ok ih hst n x' s2 (rebuild_ok hst.fresh hR hF0 hy') (rebuild_fr (st := st.fresh) hR hF0 hy' _) h
          refine ⟨e', st', s', ?_, hR', hF', hk'⟩
          obtain ⟨n1, h1⟩ := hev
          obtain ⟨n2, h2⟩ := hev'
          refine ⟨max n1 (n2 + 1), fun m hm => ?_⟩
          have e1 := h1 m (by omega)
          obtain ⟨m', rfl⟩ : ∃ m', m = m' + 1 := ⟨m - 1, by omega⟩
          have e2 := h2 m' (by omega)
          have hun : ex P H (orcN P H lib (m' + 1)) f bid (.loop c) s = (match s.clear (H.clear f bid) with
            | some st => match ex P H (orcN P H lib (m' + 1)) f bid c st with
              | some (.normal, s) => (orcN P H lib (m' + 1)).code f bid (.loop c) s
              | r => r
            | none => none) := by simp only [ex]; rfl
          show ex P H (orcN P H lib (m' + 1)) f bid (.loop c) s = _
          rw [hun, hv1]
          simp only [e1]
          exact e2
        | exit id =>
          obtain ⟨y, hy, hy2⟩ := Option.map_eq_some_iff.1 hk
          cases hy2
        | ret =>
          obtain ⟨y, hy, hy2⟩ := Option.map_eq_some_iff.1 hk
          cases hy2
      · rename_i y hx'
        cases h
        obtain ⟨e, st2, s2, hev, hR, hF, hk⟩ := ih st1 _ _ _ s1 hx' hs1
        cases e with
        | normal =>
          obtain ⟨y, hy, hy2⟩ := Option.map_eq_some_iff.1 hk
          cases hy2
        | exit id =>
          obtain ⟨y', hy, hy2⟩ := Option.map_eq_some_iff.1 hk
          cases hy2
          exact done _ _ _ (by simp) hev hR hF hy
        | ret =>
          obtain ⟨y', hy, hy2⟩ := Option.map_eq_some_iff.1 hk
          cases hy2
          exact done _ _ _ (by simp) hev hR hF hy
      · cases h

/-- the start of a loop: what is collected, what is forgotten -/
theorem start_ok {j : Join} {st : TSt} {s : St} (hs : Rst st s) (hf : st.forgets j = true) {x : denL (j.ps.map (·.1))} (hx : asL j.ps (j.lv.map st.get) = some x) :
    Rst (st.fresh.rebuild j (ofL j.ps x)) s ∧ Fr2 st.fresh (st.fresh.rebuild j (ofL j.ps x)) s s := by
  have ho : st.fresh.outs st.fresh j = some x := by
    unfold TSt.outs
    have h1 : st.fresh.forgets j = true := hf
    have h2 : st.fresh.wrote j = true := by simp [TSt.wrote, TSt.fresh]
    have h3 : st.fresh.like st.fresh j = true := by
      unfold TSt.like
      rw [List.all_eq_true]
      intro r _
      cases st.fresh.box r <;> simp
    rw [h1, h2, h3]
    exact hx
  exact ⟨rebuild_ok hs.fresh hs.fresh (Fr2.refl _ _) ho, rebuild_fr (st := st.fresh) hs.fresh (Fr2.refl _ _) ho _⟩

theorem tx_ok (hT : TOk P H lib T) (hO : OOk P H lib O) : ∀ (c : Code) (bid : Nat), Snd (tx P H J T O ctx f bid c) (ExEv P H lib f bid c)
  | .skip, bid => fun st R k r s h hs => ⟨.normal, st, s, .of fun C => rfl, hs, Fr2.refl _ _, h⟩
  | .ret, bid => fun st R k r s h hs => ⟨.ret, st, s, .of fun C => rfl, hs, Fr2.refl _ _, h⟩
  | .exit id, bid => fun st R k r s h hs => ⟨.exit id, st, s, .of fun C => rfl, hs, Fr2.refl _ _, h⟩
  | .seq a b, bid => fun st R k r s h hs => by
    simp only [tx] at h
    obtain ⟨e, st1, s1, hev, hR, hF, hk⟩ := tx_ok hT hO a bid st _ _ r s h hs
    cases e with
    | normal =>
      obtain ⟨e2, st2, s2, hev2, hR2, hF2, hk2⟩ := tx_ok hT hO b bid st1 _ _ r s1 hk hR
      exact ⟨e2, st2, s2, (hev.and hev2).imp fun C hC => by simp only [ex, hC.1, hC.2], hR2, hF.trans hF2, hk2⟩
    | exit id => exact ⟨.exit id, st1, s1, hev.imp fun C hC => by simp only [ex, hC], hR, hF, hk⟩
    | ret => exact ⟨.ret, st1, s1, hev.imp fun C hC => by simp only [ex, hC], hR, hF, hk⟩
  | .cond c a b, bid => fun st R k r s h hs => by
    simp only [tx] at h
    refine joinT_ok (rel := ExEv P H lib f bid (.cond c a b)) ?_ _ st R k r s h hs
    intro st R k r s h hs
    have hr := rd_ok (H := H) (f := f) (o := default) hs.E c
    simp only at h
    split at h
    · rename_i o t ht
      rw [ht] at hr
      simp only [RV, RTy] at hr
      cases t with
      | true =>
        obtain ⟨e2, st2, s2, hev2, hR2, hF2, hk2⟩ := tx_ok hT hO a bid st _ _ r s h hs
        exact ⟨e2, st2, s2, hev2.imp fun C hC => by simp only [ex, hr, if_true, hC], hR2, hF2, hk2⟩
      | false =>
        obtain ⟨e2, st2, s2, hev2, hR2, hF2, hk2⟩ := tx_ok hT hO b bid st _ _ r s h hs
        exact ⟨e2, st2, s2, hev2.imp fun C hC => by simp only [ex, hr, Bool.false_eq_true, if_false, hC], hR2, hF2, hk2⟩
    · cases h
  | .block id c, bid => fun st R k r s h hs => by
    simp only [tx] at h
    refine joinT_ok (rel := ExEv P H lib f bid (.block id c)) ?_ _ st R k r s h hs
    intro st R k r s h hs
    obtain ⟨e, st1, s1, hev, hR, hF, hk⟩ := tx_ok hT hO c id st _ _ r s h hs
    cases e with
    | exit i =>
      simp only at hk
      split at hk
      · rename_i hi
        exact ⟨.normal, st1, s1, hev.imp fun C hC => by simp only [ex, hC, hi, if_true], hR, hF, hk⟩
      · rename_i hi
        exact ⟨.exit i, st1, s1, hev.imp fun C hC => by simp only [ex, hC, hi, if_false], hR, hF, hk⟩
    | normal => exact ⟨.normal, st1, s1, hev.imp fun C hC => by simp only [ex, hC], hR, hF, hk⟩
    | ret => exact ⟨.ret, st1, s1, hev.imp fun C hC => by simp only [ex, hC], hR, hF, hk⟩
  | .region id ops draw, bid => fun st R k r s h hs => by
    simp only [tx] at h
    refine joinT_ok (rel := ExEv P H lib f bid (.region id ops draw)) ?_ _ st R k r s h hs
    intro st R k r s h hs
    simp only at h
    split at h
    · rename_i hd
      split at h
      · rename_i hok
        split at h
        · rename_i hU
          obtain ⟨st1, s1, hk, hev, hR, hF⟩ := execT_ok hT hO _ st s hs h
          rw [hU] at hok
          exact ⟨.normal, st1, s1, hev.imp fun C hC => by simp only [ex, hd, if_true, hU, hok, hC, Option.map_some], hR, hF, hk⟩
        · rename_i U hU
          obtain ⟨st1, s1, fps, fpv, hk, hev, hR, hF, _, hcov⟩ := execRT_ok hT hO _ st s [] hs h
          split at hk
          · rename_i hnc
            have hnc' := noConf_ok hcov hnc
            refine ⟨.normal, st1, s1, hev.imp fun C hC => ?_, hR, hF, hk⟩
            simp only [ex, hd, if_true, hok]
            cases hp : H.pairs f id with
            | nil => exact absurd hp (by simpa using hU)
            | cons u U' =>
              rw [hp] at hnc'
              simp only [hC, hnc', if_true]
          · cases hk
      · cases h
    · rename_i hd
      obtain ⟨st1, s1, hk, hev, hR, hF⟩ := execT_ok hT hO _ st s hs h
      exact ⟨.normal, st1, s1, hev.imp fun C hC => by simp only [ex]; rw [if_neg hd, hC]; rfl, hR, hF, hk⟩
  | .loop c, bid => fun st R k r s h hs => by
    simp only [tx] at h
    split at h
    · rename_i j hj
      split at h
      · rename_i hf
        obtain ⟨x0, hx0, h⟩ := Option.bind_eq_some_iff.1 h
        obtain ⟨n, hn⟩ := loopO_some h
        obtain ⟨h1, h2⟩ := start_ok hs hf hx0
        exact loop_ok (tx_ok hT hO c bid) hs n x0 s h1 h2 hn
      · cases h
    · split at h
      · rename_i st1 hcl
        obtain ⟨s1, hv1, hs1, hf1⟩ := clear_ok hs hcl
        obtain ⟨e, st2, s2, hev, hR, hF, hk⟩ := tx_ok hT hO c bid st1 _ _ r s1 h hs1
        cases e with
        | normal =>
          obtain ⟨e3, st3, s3, hev3, hR3, hF3, hk3⟩ := hO.code ctx f bid (.loop c) st2 _ _ r s2 hk hR
          exact ⟨e3, st3, s3, (hev.and hev3).imp fun C hC => by simp only [ex, hv1, hC.1, hC.2], hR3, (hf1.trans hF).trans hF3, hk3⟩
        | exit id => exact ⟨.exit id, st2, s2, hev.imp fun C hC => by simp only [ex, hv1, hC], hR, hf1.trans hF, hk⟩
        | ret => exact ⟨.ret, st2, s2, hev.imp fun C hC => by simp only [ex, hv1, hC], hR, hf1.trans hF, hk⟩
      · cases h
  | .rangeFunc .., bid => fun st R k r s h hs => by simp [tx] at h
  | .scope _, bid => fun st R k r s h hs => by simp [tx] at h
  | .label _, bid => fun st R k r s h hs => by simp [tx] at h
  | .goto _, bid => fun st R k r s h hs => by simp [tx] at h
  | .refuse _, bid => fun st R k r s h hs => by simp [tx] at h
end Go.Tx
