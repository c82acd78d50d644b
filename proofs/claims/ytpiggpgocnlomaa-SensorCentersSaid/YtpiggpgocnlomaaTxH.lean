/-
  CODE AND FUNCTIONS: what the typed interpreter gives is what the abstract one gives.
-/
import Derived.Test.YtpiggpgocnlomaaTxG
set_option linter.unusedVariables false
namespace Go.Tx
open Go Go.Ab
variable {P : Program} {H : Hints} {J : TH} {T : CallT} {O : TOrc} {lib : FuncId → Option (List V → Option V)} {f : FuncId} {ctx : List Tmp}

theorem stepMT_ok (hT : TOk P H lib T) (hO : OOk P H lib O) {o : Oper} {xs : List TV} {ys : List V} {st : TSt} {s : St} {R : Type} {k : TV → TSt → Fp → Option R} {r : R} (hx : RVL xs ys) (hs : Rst st s)
    (h : stepMT P H J T O ctx f o xs st R k = some r) :
    ∃ v st' fp u s', k v st' fp = some r ∧ Ev (fun C => stepM P H C f o ys s = some (u, s', fp)) P H lib ∧ RV v u ∧ Rst st' s' ∧ Fr2 st st' s s' ∧ st'.E = st.E ∧ s'.E = s.E := by
  rcases op_cases o.op with ⟨t, hop⟩ | ⟨t, a, hop⟩ | ⟨c, fo, hop, hc⟩ | hd
  · unfold stepMT at h
    simp only [hop] at h
    split at h
    · rename_i d z hd hz
      split at h
      · rename_i hn
        have hn' : lookT st.B d = none := by simpa using hn
        obtain ⟨z', hz', _, hcz⟩ := zeroT_ok hz
        obtain ⟨hR, hF⟩ := push_ok hs hn' hcz
        refine ⟨_, _, _, .ptr ⟨s.L.length, d⟩ 0, _, h, .of fun C => ?_, by simp [RV, hs.len], hR, hF, rfl, rfl⟩
        unfold stepM
        simp only [hop, hd, hz']
        rw [if_pos (by rw [lookT_none hs hn']; rfl)]
      · cases h
    · cases h
  · unfold stepMT at h
    simp only [hop] at h
    split at h
    · rename_i d x hd
      split at h
      · rename_i hn
        have hn' : lookT st.B d = none := by simpa using hn.1
        obtain ⟨v, rfl, hv⟩ := rvl_one hx
        obtain ⟨hcells, hok⟩ := RV.cells hn.2.2 hv
        obtain ⟨hR, hF⟩ := push_ok hs hn' hcells
        refine ⟨_, _, _, .ptr ⟨s.L.length, d⟩ 0, _, h, .of fun C => ?_, by simp [RV, hs.len], hR, hF, rfl, rfl⟩
        unfold stepM
        simp only [hop, hd]
        rw [if_pos ⟨by rw [lookT_none hs hn']; rfl, by rw [hcells.length]; exact hn.2.1, hok⟩]
      · cases h
    · cases h
  · rw [stepMT_call hop hc] at h
    cases xs with
    | nil => cases h
    | cons fv args =>
      simp only [RVL] at hx
      obtain ⟨fv', args', rfl, hfv, ha⟩ := hx
      obtain ⟨v, st', u, s', hk, hev, hr, hR, hF, e1, e2, hp⟩ := callVT_ok hT hO hfv ha hs h
      refine ⟨v, st', _, u, s', hk, hev.imp fun C hC => ?_, hr, hR, hF, e1, e2⟩
      rw [stepM_call hop hc]
      simp only [hC, Option.map_some, hp]
  · rw [stepMT_dflt hd] at h
    obtain ⟨v, st', fp, u, s', hk, hm, hr, hR, hF, e1, e2⟩ := dfltMT_ok hx hs h
    exact ⟨v, st', fp, u, s', hk, .of fun C => by rw [stepM_dflt hd]; exact hm, hr, hR, hF, e1, e2⟩

theorem getE {E : Env} {E' : List V} (h : RVL E.toL E') (t : Nat) : RV (E.get t) (E'.getD t .undef) := by rw [get_getD]; exact h.getD t
theorem rd_ok {o : Oper} {E : Env} {E' : List V} (h : RVL E.toL E') (x : Operand) : RV (rdT H f o E x) (rd H f o E' x) := by
  cases x with
  | tmp t =>
    simp only [rdT, rd]
    split
    · exact getE h t
    · exact (getE h t).dull
  | const v => exact rv_const _ _
  | global g => exact rv_undef []
  | func g => simp [rdT, rd, RV, RVL]
theorem rds_ok {o : Oper} {E : Env} {E' : List V} (h : RVL E.toL E') : ∀ l : List Operand, RVL (l.map (rdT H f o E)) (l.map (rd H f o E'))
  | [] => rvl_nil
  | x :: l => rvl_cons.2 ⟨rd_ok h x, rds_ok h l⟩
theorem dullAt_ok : ∀ (ts : List Tmp) {E : Env} {E' : List V}, RVL E.toL E' → RVL (dullAtT E ts).toL (dullAt E' ts)
  | [], E, E', h => h
  | t :: ts, E, E', h => by
    have h1 : RVL (E.set t (E.get t).dull).toL (E'.modify t V.dull) := by
      rw [toL_modify]
      refine rvl_of_get (by simp [h.length]) fun i x v hx hv => ?_
      rw [List.getElem?_modify] at hx hv
      obtain ⟨y, hy, rfl⟩ := Option.map_eq_some_iff.1 hx
      obtain ⟨u, hu, rfl⟩ := Option.map_eq_some_iff.1 hv
      obtain ⟨u2, hu2, hr⟩ := h.get hy
      rw [hu] at hu2; cases hu2
      by_cases e : t = i
      · simp only [e, if_true]; exact hr.dull
      · simp only [if_neg e]; exact hr
    exact dullAt_ok ts h1
theorem dullAt_other {ts : List Tmp} {t : Nat} (h : t ∉ ts) : ∀ E : List V, (dullAt E ts)[t]? = E[t]? := by
  induction ts with
  | nil => intro E; rfl
  | cons u ts ih =>
    intro E
    simp only [List.mem_cons, not_or] at h
    have e : dullAt E (u :: ts) = dullAt (E.modify u V.dull) ts := rfl
    rw [e, ih h.2, List.getElem?_modify]
    simp [Ne.symm h.1]
theorem dullAt_len' (ts : List Tmp) (E : List V) : (dullAt E ts).length = E.length := dullAt_length ts E

theorem put_ok {st : TSt} {s : St} (hs : Rst st s) (d : Option Tmp) {v : TV} {u : V} (hv : RV v u) : Rst (st.put d v) (s.put d u) ∧ Fr2 st (st.put d v) s (s.put d u) := by
  cases d with
  | none => exact ⟨hs, Fr2.refl _ _⟩
  | some t =>
    refine ⟨⟨by show RVL (st.E.set t v).toL _; rw [toL_set]; exact hs.E.set t hv, hs.M⟩, ⟨fun x hx => by simp [TSt.put, hx], fun r hr => hr, fun x hx => .inl ?_, fun x hx rs hE => ⟨rs, ?_⟩, fun r hr => .inl rfl, fun r hr h => h, rfl, by simp [St.put]⟩⟩
    case refine_2 =>
      simp only [TSt.put, Mask.mem_ins, not_or] at hx
      simp only [TSt.put, toL_set] at hE
      rwa [List.getElem?_set_ne (Ne.symm hx.1)] at hE
    simp only [TSt.put, Mask.mem_ins, not_or] at hx
    simp only [St.put]
    rw [List.getElem?_set_ne (Ne.symm hx.1)]

theorem dullAt_same {E : Env} {E' : List V} (h : RVL E.toL E') {ts : List Tmp} {t : Nat} (ht : t ∉ ts.filter (fun t => (E.get t).owns)) : (dullAt E' ts)[t]? = E'[t]? := by
  rw [dullAt_at]
  split
  · rename_i hm
    have hno : (E.get t).owns = false := by
      cases hh : (E.get t).owns with
      | false => rfl
      | true => exact absurd (List.mem_filter.2 ⟨hm, hh⟩) ht
    cases hv : E'[t]? with
    | none => rfl
    | some v =>
      have hr := getE h t
      rw [List.getD_eq_getElem?_getD (l := E'), hv] at hr
      simp only [Option.map_some, Option.some.injEq]
      refine dull_of_owns v ?_
      cases ho : v.owns with
      | false => rfl
      | true => have := RV.owns _ _ hr ho; rw [hno] at this; cases this
  · rfl
theorem dull_any {x : TV} {rs : List Root} (h : x.dull = .any rs) : x = .any rs := by cases x <;> simp_all [TV.dull]
theorem dullAtT_any : ∀ (T : List Tmp) (E : Env) (t : Nat) (rs : List Root), (dullAtT E T).toL[t]? = some (.any rs) → ∃ rs', E.toL[t]? = some (.any rs')
  | [], E, t, rs, h => ⟨rs, h⟩
  | s :: T, E, t, rs, h => by
    have h' : (dullAtT (E.set s (E.get s).dull) T).toL[t]? = some (.any rs) := h
    obtain ⟨rs', h1⟩ := dullAtT_any T _ t rs h'
    rw [toL_modify, List.getElem?_modify] at h1
    cases hE : E.toL[t]? with
    | none => rw [hE] at h1; cases h1
    | some x =>
      rw [hE] at h1
      simp only [Option.map_eq_map, Option.map_some, Option.some.injEq] at h1
      split at h1
      · exact ⟨rs', by rw [dull_any h1]⟩
      · exact ⟨rs', by rw [h1]⟩
theorem stepFpT_ok (hT : TOk P H lib T) (hO : OOk P H lib O) {o : Oper} {st : TSt} {s : St} {R : Type} {k : TSt → Fp → Option R} {r : R} (hs : Rst st s) (h : stepFpT P H J T O ctx f o st R k = some r) :
    ∃ st' fp s', k st' fp = some r ∧ Ev (fun C => stepFp P H C f o s = some (s', fp)) P H lib ∧ Rst st' s' ∧ Fr2 st st' s s' := by
  unfold stepFpT at h
  split at h
  · cases h
  · rename_i hn
    have hs1 : Rst (if takes H f o = true then { st with E := dullAtT st.E (tmpsOf o), Wt := Mask.ofList ((tmpsOf o).filter (fun t => (st.E.get t).owns)) ++ st.Wt } else st) (if takes H f o = true then { s with E := dullAt s.E (tmpsOf o) } else s) ∧
        Fr2 st (if takes H f o = true then { st with E := dullAtT st.E (tmpsOf o), Wt := Mask.ofList ((tmpsOf o).filter (fun t => (st.E.get t).owns)) ++ st.Wt } else st) s (if takes H f o = true then { s with E := dullAt s.E (tmpsOf o) } else s) := by
      split
      · refine ⟨⟨dullAt_ok _ hs.E, hs.M⟩, ⟨fun t ht => by simp [ht], fun r hr => hr, fun t ht => .inl ?_, fun t ht rs hE => ?_, fun r hr => .inl rfl, fun r hr h => h, rfl, dullAt_len' _ _⟩⟩
        · simp only [Mask.mem_append, Mask.mem_ofList, not_or] at ht
          exact dullAt_same hs.E ht.1
        · exact dullAtT_any _ _ _ _ hE
      · exact ⟨hs, Fr2.refl _ _⟩
    obtain ⟨v, st', fp, u, s', hk, hev, hr, hR, hF, e1, e2⟩ := stepMT_ok hT hO (rds_ok hs.E _) hs1.1 h
    obtain ⟨hR2, hF2⟩ := put_ok hR o.dst hr
    refine ⟨_, fp, _, hk, hev.imp fun C hC => ?_, hR2, (hs1.2.trans hF).trans hF2⟩
    unfold stepFp
    rw [if_neg hn, hC]
    rfl

theorem gate_ok {ops : Array Oper} {o : Oper} {st : TSt} {s : St} {R : Type} {yes no : TSt → Option R} {r : R} (hs : Rst st s) (h : gateT ops o st R yes no = some r) :
    ∃ st1 b, wantedA ops s.E o = some b ∧ Rst st1 s ∧ Fr2 st st1 s s ∧ (if b then yes st1 else no st1) = some r := by
  unfold gateT at h
  unfold wantedA
  split at h
  · rename_i hg
    rw [hg]
    exact ⟨st, true, rfl, hs, Fr2.refl _ _, h⟩
  · rename_i j want hg
    rw [hg]
    simp only
    split at h
    · rename_i t ht
      rw [ht]
      simp only
      split at h
      · rename_i o' b hb
        obtain ⟨v, hv, hr⟩ := hs.E.get (some_get hb (by simp))
        simp only [RV, RTy] at hr
        subst hr
        rw [hv]
        have hset : ∀ c, b = c → Rst ({ st with E := st.E.set t (.t .bool 0 c) } : TSt) s := fun c hc => ⟨by
          rw [toL_set]
          refine rvl_set_same hs.E t fun u hu => ?_
          rw [hv] at hu; cases hu; simp [RV, RTy, hc], hs.M⟩
        have hfr : ∀ c, Fr2 st ({ st with E := st.E.set t (.t .bool 0 c) } : TSt) s s := fun c => ⟨fun x hx => hx, fun x hx => hx, fun x hx => .inl rfl, fun x hx rs hE => ⟨rs, by
          simp only [toL_set, List.getElem?_set] at hE
          split at hE
          · split at hE <;> cases hE
          · exact hE⟩, fun x hx => .inl rfl, fun x hx h => h, rfl, rfl⟩
        cases b with
        | true =>
          simp only [cond_true] at h
          refine ⟨_, (true == want), rfl, hset true rfl, hfr true, ?_⟩
          cases want <;> exact h
        | false =>
          simp only [cond_false] at h
          refine ⟨_, (false == want), rfl, hset false rfl, hfr false, ?_⟩
          cases want <;> exact h
      · rename_i vs hb
        obtain ⟨v, hv, hr⟩ := hs.E.get (some_get hb (by simp))
        simp only [RV] at hr
        subst hr
        rw [hv]
        split at h
        · rename_i h0
          exact ⟨st, false, by simp only [h0, if_true], hs, Fr2.refl _ _, h⟩
        · cases h
      · cases h
    · cases h

/-! ### stores into owners' elements -/
def pathV (p : List (Int × Nat × Nat)) : Path := p.map fun e => (e.1.toNat, e.2.1, e.2.2)
theorem idxOfT_ok {E : Env} {E' : List V} (h : RVL E.toL E') {i : Operand} {n : Int} (hi : idxOfT E i = some n) (h0 : 0 ≤ n) : idxOf E' i = some n.toNat := by
  cases i with
  | tmp t =>
    simp only [idxOfT] at hi
    obtain ⟨k, hk⟩ := tint_ok hi (getE h t)
    simp only [idxOf, hk]
    exact natOf_int h0
  | const v =>
    simp only [idxOfT] at hi
    split at hi
    · cases hi; simp only [idxOf]; exact natOf_int h0
    · cases hi
  | _ => simp [idxOfT] at hi
theorem lkPathT_ok {ops : Array Oper} {E : Env} {E' : List V} (h : RVL E.toL E') : ∀ (n k : Nat) (d : Tmp) (rt : Rt) (p : List (Int × Nat × Nat)) (ptr : Bool), lkPathT P H f ops E n k d = some (rt, p, ptr) → (∀ e ∈ p, 0 ≤ e.1) → lkPath P H f ops E' n k d = some (rt, pathV p, ptr) := by
  intro n
  induction n with
  | zero => intro k d rt p ptr hx; simp [lkPathT] at hx
  | succ n ih =>
    intro k d rt p ptr hx h0
    simp only [lkPathT] at hx
    simp only [lkPath]
    split at hx
    · rename_i hl
      rw [if_pos hl]
      simp only [Option.some.injEq, Prod.mk.injEq] at hx
      obtain ⟨rfl, rfl, rfl⟩ := hx
      rfl
    · rename_i hl
      rw [if_neg hl]
      cases hc : defAt ops k d with
      | none => rw [hc] at hx; cases hx
      | some c =>
        rw [hc] at hx
        try simp only at hx ⊢
        cases hop : (ops[c]?).map Oper.op with
        | none => rw [hop] at hx; cases hx
        | some op =>
          rw [hop] at hx
          try simp only at hx ⊢
          split at hx
          · rename_i a heq
            cases heq
            exact ih _ _ _ _ _ hx h0
          · rename_i t a i heq
            cases heq
            try simp only
            split at hx
            · rename_i r q j elem hq hj hu
              simp only [Option.some.injEq, Prod.mk.injEq] at hx
              obtain ⟨rfl, rfl, rfl⟩ := hx
              rw [ih _ _ _ _ _ hq (fun e he => h0 e (by simp [he])), idxOfT_ok h hj (h0 (j, 0, P.cellsOf elem) (by simp)), hu]
              rfl
            · cases hx
          · rename_i t a fd heq
            cases heq
            try simp only
            split at hx
            · rename_i r j o s q o' hq ho'
              simp only [Option.some.injEq, Prod.mk.injEq] at hx
              obtain ⟨rfl, rfl, rfl⟩ := hx
              rw [ih _ _ _ _ _ hq (fun e he => by
                rcases List.mem_cons.1 he with rfl | he
                · exact h0 (j, o + o', s) (by simp)
                · exact h0 e (by simp [he])), ho']
              rfl
            · cases hx
          · rename_i t a heq
            cases heq
            try simp only
            split at hx
            · cases hx
            · rename_i hag
              rw [if_neg hag]
              split at hx
              · rename_i hla
                rw [if_pos hla]
                split at hx
                · rename_i r q hq
                  simp only [Option.some.injEq, Prod.mk.injEq] at hx
                  obtain ⟨rfl, rfl, rfl⟩ := hx
                  rw [ih _ _ _ _ _ hq h0]
                · cases hx
              · rename_i hla
                rw [if_neg hla]
                split at hx
                · rename_i r off hE
                  simp only [Option.some.injEq, Prod.mk.injEq] at hx
                  obtain ⟨rfl, rfl, rfl⟩ := hx
                  have := getE h a
                  rw [hE] at this
                  simp only [RV] at this
                  rw [this]
                  rfl
                · cases hx
          · cases hx

theorem recellT_ok {τ : Ty} (he : τ.elemOk = true) {o : Nat} {e : τ.den} {b : V} (hr : RTy τ o e b) {cs : List TV} {cs' : List V} (hc : RVL cs cs') (hlen : cs.length = τ.ncells) (h0 : τ.ncells ≠ 0) : RV (recellT (ofTy τ o e) cs) (recell b cs') := by
  have hd : ∀ (hone : τ.ncells = 1), RV (cs.headD (.any [])) (cs'.headD .undef) := fun _ => by
    cases hc' : cs with
    | nil => rw [hc'] at hlen; simp at hlen; omega
    | cons x l =>
      rw [hc'] at hc
      simp only [RVL] at hc
      obtain ⟨v, m, rfl, h1, _⟩ := hc
      exact h1
  cases τ with
  | int k => simp only [RTy] at hr; subst hr; exact hd rfl
  | bool => simp only [RTy] at hr; subst hr; exact hd rfl
  | str => simp only [RTy] at hr; subst hr; exact hd rfl
  | sl t => simp only [RTy] at hr; obtain ⟨f, c, l', rfl, _⟩ := hr; exact hd rfl
  | unit => exact absurd rfl h0
  | pair a b' =>
    simp only [RTy] at hr; obtain ⟨v1, l, rfl, _⟩ := hr
    simp only [ofTy, recellT, recell, RV]
    exact ⟨cs', rfl, hc⟩

theorem all2_set {α β : Type} {R : α → β → Prop} {l : List α} {l' : List β} (h : All2 R l l') : ∀ (i : Nat) {a : α} {b : β}, R a b → All2 R (l.set i a) (l'.set i b) := by
  induction h with
  | nil => intro i a b _; exact .nil
  | cons h1 h2 ih =>
    intro i a b hab
    cases i with
    | zero => exact .cons hab h2
    | succ i => exact .cons h1 (ih i hab)

theorem updT_ok {ys : List TV} {ys' : List V} (hy : RVL ys ys') : ∀ (p : List (Int × Nat × Nat)) (x : TV) (v : V) {R : Type} {k : TV → Option R} {r : R}, updT ys p x R k = some r → RV x v →
    (∀ e ∈ p, 0 ≤ e.1) ∧ ∃ y u, k y = some r ∧ updF ys' (pathV p) v = some u ∧ RV y u := by
  intro p
  induction p with
  | nil => intro x v R k r h; unfold updT at h; cases h
  | cons q p ih =>
    obtain ⟨i, o, s⟩ := q
    intro x v R k r h hx
    by_cases hxs : ∃ τ lv l, x = .t (.sl τ) lv l
    · obtain ⟨τ, lv, l, rfl⟩ := hxs
      unfold updT at h
      split at h
      · rename_i hc
        obtain ⟨hown, hcl, hs0, hok, hel⟩ := hc
        obtain ⟨e, he, h⟩ := Option.bind_eq_some_iff.1 h
        obtain ⟨h0, hget⟩ := idx_some he
        simp only [RV, RTy] at hx
        obtain ⟨fl, c, l', rfl, hfl, hall⟩ := hx
        have hf : fl = .own := hfl.own hown
        subst hf
        obtain ⟨b, hb, hr⟩ := hall.get hget
        obtain ⟨hbl, hbo⟩ := rty_ncells hel hr
        have hcells := (RV.cells (ofTy_oks hel (nx lv) e) (rv_ofTy τ (nx lv) e b hr)).1
        have hcl2 : (ofTy τ (nx lv) e).cells.length = τ.ncells := by rw [← hcells.length, hbl]
        have hn0 : τ.ncells ≠ 0 := by rw [hcl]; exact hs0
        have hfin : ∀ (cs : List TV) (cs' : List V) (e' : τ.den), RVL cs cs' → cs.length = τ.ncells → asTy τ (nx lv) (recellT (ofTy τ (nx lv) e) cs) = some e' →
            RV (.t (.sl τ) lv (l.set i.toNat e')) (.sl .own c (l'.set i.toNat (recell b cs'))) := fun cs cs' e' hcs hlen has => by
          have := asTy_ok _ _ _ _ _ has (recellT_ok hel hr hcs hlen hn0)
          simp only [RV, RTy]
          exact ⟨.own, c, _, rfl, flr_own hown, all2_set hall _ this⟩
        cases p with
        | nil =>
          simp only at h
          split at h
          · rename_i hle
            split at h
            · rename_i e' has
              have hsp := splice_ok (off := o) hcells hy
              refine ⟨by simp [h0], _, _, h, ?_, hfin _ _ e' hsp ?_ has⟩
              · simp only [pathV, List.map_cons, List.map_nil, updF]
                rw [hb]
                simp only
                rw [if_pos ⟨by rw [hbl, hcl], hbo⟩, if_pos (by rw [hy.length]; exact hle)]
              · rw [← hsp.length, splice_length (by rw [hy.length, hbl, hcl]; exact hle), hbl]
            · cases h
          · cases h
        | cons q2 p2 =>
          simp only at h
          split at h
          · rename_i z hz
            obtain ⟨z', hz', hrz⟩ := hcells.get hz
            obtain ⟨h1, y, u, hk, hupd, hyu⟩ := ih z z' h hrz
            split at hk
            · rename_i e' has
              have hset := hcells.set o hyu
              refine ⟨fun e he => ?_, _, _, hk, ?_, hfin _ _ e' hset (by simp [hcl2]) has⟩
              · rcases List.mem_cons.1 he with rfl | he
                · exact h0
                · exact h1 e he
              · have hpv : pathV ((i, o, s) :: q2 :: p2) = (i.toNat, o, s) :: pathV (q2 :: p2) := rfl
                have hpn : pathV (q2 :: p2) = (q2.1.toNat, q2.2.1, q2.2.2) :: pathV p2 := rfl
                rw [hpv]
                rw [hpn] at hupd ⊢
                unfold updF
                rw [hb]
                simp only
                rw [if_pos ⟨by rw [hbl, hcl], hbo⟩, hz']
                simp only
                rw [hupd]; rfl
            · cases hk
          · cases h
      · cases h
    · exfalso
      cases x with
      | t τ lv l =>
        cases τ with
        | sl τ => exact hxs ⟨τ, lv, l, rfl⟩
        | _ => simp [updT] at h
      | _ => simp [updT] at h

theorem rv_hard {x : TV} {v : V} (h : RV x v) : RV x.hard v.hard := by
  unfold TV.hard V.hard
  cases hf : x.firm with
  | true =>
    rw [RV.firm x v hf h]
    simpa using h
  | false =>
    simp only [Bool.false_eq_true, if_false]
    split
    · exact rv_undef _
    · simp only [RV]; exact ⟨fun r hr => RV.ptrs x v h r hr, rvl_notLp (rvl_cons.2 ⟨h, rvl_nil⟩)⟩
theorem rvl_hard : ∀ {l : List TV} {l' : List V}, RVL l l' → RVL (l.map TV.hard) (l'.map V.hard)
  | [], l', h => by simp only [RVL] at h; subst h; exact rvl_nil
  | x :: l, l', h => by
    simp only [RVL] at h; obtain ⟨v, m, rfl, h1, h2⟩ := h
    exact rvl_cons.2 ⟨rv_hard h1, rvl_hard h2⟩
theorem rvl_firm : ∀ {l : List TV} {l' : List V}, RVL l l' → l.all TV.firm = true → l'.map V.hard = l'
  | [], l', h, _ => by simp only [RVL] at h; subst h; rfl
  | x :: l, l', h, hf => by
    simp only [RVL] at h; obtain ⟨v, m, rfl, h1, h2⟩ := h
    simp only [List.all_cons, Bool.and_eq_true] at hf
    simp only [List.map_cons]
    rw [rvl_firm h2 hf.2]
    have : v.hard = v := by unfold V.hard; rw [RV.firm x v hf.1 h1]; rfl
    rw [this]
theorem softT_mem {E : Env} {i : Nat} {x : TV} (h : E.toL[i]? = some x) (hf : x.firm = false) (ha : x.isAny = false) : i ∈ softT E :=
  mask_get (by simp [TV.isAny]) h (by simp [hf, ha])
theorem softB_mem : ∀ {b : TLevel} {k : Nat} {c : List TV}, lookT b k = some (some c) → c.all TV.firm = false → (⟨0, k⟩ : Root) ∈ softB b
  | [], k, c, h, _ => by simp [lookT] at h
  | (k', none) :: b, k, c, h, hf => by
    simp only [lookT] at h
    split at h
    · cases h
    · simp only [softB]; exact softB_mem h hf
  | (k', some d) :: b, k, c, h, hf => by
    simp only [lookT] at h
    simp only [softB]
    split at h
    · rename_i e
      cases h
      rw [hf]
      simp [e]
    · split
      · exact softB_mem h hf
      · exact List.mem_cons_of_mem _ (softB_mem h hf)
theorem lookT_hard (s : Nat) : ∀ b : TLevel, lookT (hardTB b) s = (lookT b s).map (Option.map (List.map TV.hard))
  | [] => rfl
  | (k, c) :: b => by
    simp only [hardTB, List.map_cons, lookT]
    split
    · rfl
    · exact lookT_hard s b
theorem notAny_firm {x : TV} (h : x.isAny = true) : ∃ rs, x = .any rs := by cases x <;> first | exact ⟨_, rfl⟩ | (simp [TV.isAny] at h)

def softV (s : St) (T : List Tmp) : St := { s with E := (dullAt s.E T).map V.hard, B := hardB s.B }
theorem box_all0 {st : TSt} (hL : st.L = []) (r : Root) : st.box r = if r.lvl = 0 then (match lookT st.B r.slot with | some (some c) => some c | _ => none) else none := by
  unfold TSt.box
  rw [hL]
  simp only [List.length_nil]
  by_cases h : r.lvl = 0
  · rw [if_pos h, if_pos h]
    cases lookT st.B r.slot with
    | none => rfl
    | some o => cases o <;> rfl
  · rw [if_neg h, if_neg h]; simp
theorem soften_ok {st : TSt} {s : St} (h : Rst st s) (hL : st.L = []) (T : List Tmp) : s.L = [] ∧ noLpB s.B = true ∧ Rst (st.soften T) (softV s T) ∧ Fr2 st (st.soften T) s (softV s T) := by
  have hL' : s.L = [] := List.eq_nil_of_length_eq_zero (by rw [h.len, hL]; rfl)
  have hB : ∀ k, RB (lookT st.B k) (lookB s.B k) := fun k => by
    have := h.M.rel 0 k
    unfold lookM lookV at this
    simpa [TSt.all, allV, hL, hL'] using this
  have hnd : (s.B.map (·.1)).Nodup := h.M.nd s.B (by simp [allV])
  have hlp : ∀ k c, lookB s.B k = some c → isLp c = false := fun k c hc => by
    have := hB k
    cases ht : lookT st.B k with
    | none => rw [ht] at this; simp only [RB] at this; rw [this] at hc; cases hc
    | some o =>
      rw [ht] at this
      cases o with
      | none => exact this c hc
      | some d => obtain ⟨d', hd', hr⟩ := this; rw [hc] at hd'; cases hd'; exact rvl_notLp hr
  have hE := dullAt_ok T h.E
  have hlen : (dullAt s.E T).length = s.E.length := dullAt_length T s.E
  have hfirmE : ∀ (t : Nat), t ∉ softT (dullAtT st.E T) → ∀ x v, (dullAtT st.E T).toL[t]? = some x → (dullAt s.E T)[t]? = some v → x.firm = true ∨ ∃ rs, x = .any rs := fun t hts x v hx _ => by
    cases hf : x.firm with
    | true => exact .inl rfl
    | false =>
      cases ha : x.isAny with
      | true => exact .inr (notAny_firm ha)
      | false => exact absurd (softT_mem hx hf ha) hts
  have hmap : ((dullAtT st.E T).mapI fun _ v => v.hard).toL = (dullAtT st.E T).toL.map TV.hard := by
    apply List.ext_getElem?
    intro i
    rw [toL_mapI, List.getElem?_map]
  refine ⟨hL', ?_, ⟨by show RVL ((dullAtT st.E T).mapI fun _ v => v.hard).toL _; rw [hmap]; exact rvl_hard hE, ?_⟩, ?_⟩
  · unfold noLpB
    rw [List.all_eq_true]
    rintro ⟨k, c⟩ hk
    simp only [hlp k c (lookB_mem hnd hk), Bool.not_false]
  · refine ⟨by simp [TSt.all, allV, TSt.soften, softV, hL, hL'], fun l k => ?_, fun b hb => ?_⟩
    · unfold lookM lookV
      simp only [TSt.all, allV, TSt.soften, softV, hL, hL', List.nil_append]
      cases l with
      | zero =>
        simp only [List.getElem?_cons_zero]
        rw [lookT_hard, lookB_hard]
        have := hB k
        cases ht : lookT st.B k with
        | none => rw [ht] at this; simp only [RB] at this; rw [this]; rfl
        | some o =>
          rw [ht] at this
          cases o with
          | none =>
            simp only [Option.map_some, Option.map_none]
            intro c hc
            obtain ⟨c0, h1, rfl⟩ := Option.map_eq_some_iff.1 hc
            exact isLp_hard (this c0 h1)
          | some d => obtain ⟨d', hd', hr⟩ := this; rw [hd']; exact ⟨_, rfl, rvl_hard hr⟩
      | succ l => simp [RB]
    · simp only [allV, softV, hL', List.nil_append, List.mem_singleton] at hb
      subst hb
      simpa [hardB, List.map_map, Function.comp_def] using hnd
  · refine ⟨fun t ht => by simp [TSt.soften, ht], fun r hr => by simp [TSt.soften, hr], fun t ht => ?_, fun t ht rs hE' => ?_, fun r hr => ?_, fun r hr hsm => ?_, rfl, by simp [softV, hlen]⟩
    · simp only [TSt.soften, Mask.mem_append, Mask.mem_ofList, not_or] at ht
      simp only [softV, List.getElem?_map]
      have hEt := dullAt_same h.E ht.1
      rw [hEt]
      cases hv : s.E[t]? with
      | none => left; rfl
      | some v =>
        simp only [Option.map_some]
        have hv2 : (dullAt s.E T)[t]? = some v := by rw [hEt]; exact hv
        have hxt : ∃ x, (dullAtT st.E T).toL[t]? = some x := by
          have hlt : t < (dullAtT st.E T).toL.length := by
            have := (List.getElem?_eq_some_iff.1 hv2).1
            rw [← hE.length]; exact this
          exact ⟨_, List.getElem?_eq_getElem hlt⟩
        obtain ⟨x, hx⟩ := hxt
        rcases hfirmE t ht.2.1 x v hx hv2 with hf | ⟨rs, rfl⟩
        · left
          obtain ⟨v', hv', hr⟩ := hE.get hx
          rw [hv2] at hv'; cases hv'
          unfold V.hard; rw [RV.firm x v hf hr]; rfl
        · unfold V.hard
          cases hs : v.soft with
          | false => left; rfl
          | true =>
            right
            exact ⟨dullAtT_any _ _ _ _ hx, rfl⟩
    · simp only [TSt.soften, Mask.mem_append, Mask.mem_ofList, not_or] at ht
      simp only [TSt.soften, hmap, List.getElem?_map] at hE'
      obtain ⟨x, hx, hxa⟩ := Option.map_eq_some_iff.1 hE'
      obtain ⟨v, hv, _⟩ := hE.get hx
      rcases hfirmE t ht.2.1 x v hx hv with hf | ⟨rs', rfl⟩
      · unfold TV.hard at hxa
        rw [hf] at hxa
        simp only [if_true] at hxa
        subst hxa
        simp [TV.firm] at hf
      · exact dullAtT_any _ _ _ _ hx
    · simp only [TSt.soften, List.mem_append, not_or] at hr
      rw [box_L0 (st := softV s T) hL', box_L0 hL']
      by_cases h0 : r.lvl = 0
      · rw [if_pos h0, if_pos h0]
        simp only [softV, lookB_hard]
        have := hB r.slot
        cases ht : lookT st.B r.slot with
        | none => rw [ht] at this; simp only [RB] at this; rw [this]; left; rfl
        | some o =>
          rw [ht] at this
          cases o with
          | none =>
            right
            refine ⟨by rw [hL']; rfl, by rw [box_all0 hL, if_pos h0, ht], by simp, fun c hc => ?_⟩
            obtain ⟨c0, h1, rfl⟩ := Option.map_eq_some_iff.1 hc
            exact isLp_hard (this c0 h1)
          | some d =>
            left
            obtain ⟨d', hd', hrr⟩ := this
            rw [hd']
            cases hf : d.all TV.firm with
            | true => simp only [Option.map_some]; rw [rvl_firm hrr hf]
            | false =>
              exfalso
              refine hr.1 ?_
              have := softB_mem ht hf
              obtain ⟨l, sl⟩ := r
              simp only at h0 this
              rw [h0]; exact this
      · rw [if_neg h0, if_neg h0]; left; rfl
    · rw [box_all0 hL] at hsm
      have hL2 : (st.soften T).L = [] := hL
      rw [box_all0 hL2]
      by_cases h0 : r.lvl = 0
      · rw [if_pos h0] at hsm ⊢
        simp only [TSt.soften, lookT_hard]
        cases ht : lookT st.B r.slot with
        | none => rw [ht] at hsm; cases hsm
        | some o =>
          rw [ht] at hsm
          cases o with
          | none => cases hsm
          | some d => rfl
      · rw [if_neg h0] at hsm; cases hsm

theorem lsT_ok {ops : Array Oper} {i : Nat} {o : Oper} {st : TSt} {s : St} {R : Type} {k : TSt → Option R} {r : R} (hs : Rst st s) (h : lsT P H f ops i o st R k = some r) :
    ∃ st' s', k st' = some r ∧ lsStep P H f ops i o s = some s' ∧ Rst st' s' ∧ Fr2 st st' s s' := by
  unfold lsT at h
  split at h
  · rename_i t d xo hop
    simp only at h
    split at h
    · rename_i hc
      simp only [Bool.and_eq_true, decide_eq_true_eq, List.isEmpty_iff] at hc
      obtain ⟨⟨⟨⟨⟨⟨⟨hL, hdst⟩, hgd⟩, hnd⟩, hs0⟩, hxl⟩, hxo⟩, hxp⟩ := hc
      obtain ⟨hL', hnl, hsoft, hfr⟩ := soften_ok hs hL (tmpsOf o)
      have hrx := rd_ok (H := H) (f := f) (o := o) hs.E xo
      obtain ⟨hcx, hox⟩ := RV.cells hxo hrx
      have hpx : (rd H f o s.E xo).ptrs = [] := by
        rw [List.eq_nil_iff_forall_not_mem]
        intro q hq
        have := RV.ptrs _ _ hrx q hq
        rw [hxp] at this; cases this
      have hcond : (s.L.isEmpty && noLpB s.B && o.dst.isNone && o.guard.isNone && nodupT (tmpsOf o) && decide (P.cellsOf t ≠ 0) && decide ((rd H f o s.E xo).cells.length = P.cellsOf t) && (rd H f o s.E xo).oks && (rd H f o s.E xo).ptrs.isEmpty) = true := by
        simp only [Bool.and_eq_true, decide_eq_true_eq]
        exact ⟨⟨⟨⟨⟨⟨⟨⟨by rw [hL']; rfl, hnl⟩, hdst⟩, hgd⟩, hnd⟩, hs0⟩, by rw [hcx.length]; exact hxl⟩, hox⟩, by rw [hpx]; rfl⟩
      have hrev : ∀ p : List (Int × Nat × Nat), (pathV p).reverse = pathV p.reverse := fun p => by simp [pathV]
      split at h
      · rename_i r0 p hlk
        split at h
        · cases h
        · rename_i hrT
          obtain ⟨hp0, y, u, hk, hupd, hyu⟩ := updT_ok hcx _ _ _ h (getE hs.E r0)
          split at hk
          · rename_i hf
            have hlk' := lkPathT_ok hs.E _ _ _ _ _ _ hlk (fun e he => hp0 e (by simpa using he))
            obtain ⟨hR2, hF2⟩ := put_ok hsoft (some r0) hyu
            refine ⟨_, _, hk, ?_, hR2, hfr.trans hF2⟩
            unfold lsStep
            rw [hop]
            simp only
            rw [if_pos hcond, hlk']
            simp only
            rw [if_neg hrT, hrev, hupd]
            simp only
            rw [RV.firm y u hf hyu]
            rfl
          · cases hk
      · rename_i q off p hlk
        split at h
        · rename_i cs hcs
          split at h
          · rename_i z hz
            obtain ⟨c', hc', hrc⟩ := hs.box hcs
            obtain ⟨z', hz', hrz⟩ := hrc.get hz
            obtain ⟨hp0, y, u, hk, hupd, hyu⟩ := updT_ok hcx _ _ _ h hrz
            split at hk
            · rename_i hf
              have hlk' := lkPathT_ok hs.E _ _ _ _ _ _ hlk (fun e he => hp0 e (by simpa using he))
              have hsb : (st.soften (tmpsOf o)).box q = some (cs.map TV.hard) := by
                have hL2 : (st.soften (tmpsOf o)).L = [] := hL
                rw [box_all0 hL] at hcs
                rw [box_all0 hL2]
                by_cases h0 : q.lvl = 0
                · rw [if_pos h0] at hcs ⊢
                  simp only [TSt.soften, lookT_hard]
                  split at hcs
                  · rename_i c hc; cases hcs; rw [hc]; rfl
                  · cases hcs
                · rw [if_neg h0] at hcs; cases hcs
              have hq0 : q.lvl = 0 := by
                rw [box_L0 hL'] at hc'
                split at hc'
                · assumption
                · cases hc'
              obtain ⟨hR2, hF2⟩ := setBox_ok hsoft hsb ((rvl_hard hrc).set off hyu)
              refine ⟨_, _, hk, ?_, hR2, hfr.trans hF2⟩
              unfold lsStep
              rw [hop]
              simp only
              rw [if_pos hcond, hlk']
              simp only
              rw [hc']
              simp only
              rw [hz']
              simp only
              rw [hrev, hupd]
              simp only
              rw [RV.firm y u hf hyu]
              simp only [Bool.false_eq_true, if_false, Option.some.injEq]
              unfold St.setBox softV
              rw [if_pos (by rw [hq0, hL']; rfl)]
            · cases hk
          · cases h
        · cases h
      · cases h
    · cases h
  · cases h

theorem lkGate_ok {o : Oper} {E : Env} {E' : List V} (h : RVL E.toL E') (hg : lkGateT H f o E = true) : lkGate H f o E' = true := by
  unfold lkGateT at hg
  unfold lkGate
  simp only [Bool.or_eq_true, Bool.and_eq_true] at hg ⊢
  refine hg.imp id fun ⟨h1, h2⟩ => ⟨?_, ?_⟩
  · rw [h.length, toL_len]; exact h1
  · split
    · rename_i t a hop
      rw [hop] at h2
      simp only [Bool.or_eq_true] at h2 ⊢
      refine h2.imp id fun h3 => ?_
      have := getE h a
      cases hx : E.get a with
      | cptr l => rw [hx] at this; simp only [RV] at this; obtain ⟨l', hl', _⟩ := this; rw [hl']; rfl
      | _ => rw [hx] at h3; cases h3
    · rfl

theorem execT_ok (hT : TOk P H lib T) (hO : OOk P H lib O) {ops : Array Oper} {R : Type} {k : TSt → Option R} {r : R} : ∀ (is : List Nat) (st : TSt) (s : St), Rst st s → execT P H J T O ctx f ops is st R k = some r →
    ∃ st' s', k st' = some r ∧ Ev (fun C => execOps P H C f ops is s = some s') P H lib ∧ Rst st' s' ∧ Fr2 st st' s s'
  | [], st, s, hs, h => ⟨st, s, h, .of fun C => rfl, hs, Fr2.refl _ _⟩
  | i :: is, st, s, hs, h => by
    simp only [execT] at h
    split at h
    · cases h
    · rename_i o ho
      obtain ⟨st1, b, hw, hs1, hf1, hb⟩ := gate_ok hs h
      cases b with
      | true =>
        simp only [if_true] at hb
        obtain ⟨st2, fp, s2, hk, hev, hR, hF⟩ := stepFpT_ok hT hO hs1 hb
        obtain ⟨st3, s3, hk3, hev3, hR3, hF3⟩ := execT_ok hT hO is st2 s2 hR hk
        refine ⟨st3, s3, hk3, (hev.and hev3).imp fun C hC => ?_, hR3, (hf1.trans hF).trans hF3⟩
        simp only [execOps, ho, hw, stepOp, hC.1, Option.map_some, hC.2]
      | false =>
        simp only [Bool.false_eq_true, if_false] at hb
        obtain ⟨hR, hF⟩ := put_ok hs1 o.dst (v := .val undef) (u := .val undef) (by simp [RV])
        obtain ⟨st3, s3, hk3, hev3, hR3, hF3⟩ := execT_ok hT hO is _ _ hR hb
        refine ⟨st3, s3, hk3, hev3.imp fun C hC => ?_, hR3, (hf1.trans hF).trans hF3⟩
        simp only [execOps, ho, hw, hC]

/-- footprints, seen from above -/
def Cov (l : List (Nat × Foot)) (e : Nat × Foot) : Prop := ∃ e' ∈ l, e'.1 = e.1 ∧ e'.2.fp = e.2.fp ∧ e'.2.looks = e.2.looks ∧ ∀ t ∈ e.2.took, t ∈ e'.2.took
theorem took_ok {o : Oper} {E : Env} {E' : List V} (h : RVL E.toL E') : ∀ t ∈ tookAt H f o E', t ∈ tookAtT H f o E := fun t ht => by
  unfold tookAt at ht
  unfold tookAtT
  split at ht
  · rename_i htk
    rw [if_pos htk]
    simp only [List.mem_filter] at ht ⊢
    exact ⟨ht.1, RV.owns _ _ (getE h t) ht.2⟩
  · cases ht
theorem execRT_ok (hT : TOk P H lib T) (hO : OOk P H lib O) {ops : Array Oper} {R : Type} {k : TSt → List (Nat × Foot) → Option R} {r : R} : ∀ (is : List Nat) (st : TSt) (s : St) (acc : List (Nat × Foot)), Rst st s → execRT P H J T O ctx f ops is st acc R k = some r →
    ∃ st' s' fps fpv, k st' fps = some r ∧ Ev (fun C => execR P H C f ops is s = some (s', fpv)) P H lib ∧ Rst st' s' ∧ Fr2 st st' s s' ∧ (∀ e ∈ acc, e ∈ fps) ∧ (∀ e ∈ fpv, Cov fps e)
  | [], st, s, acc, hs, h => ⟨st, s, acc, [], h, .of fun C => rfl, hs, Fr2.refl _ _, fun e he => he, by simp⟩
  | i :: is, st, s, acc, hs, h => by
    simp only [execRT] at h
    split at h
    · cases h
    · rename_i o ho
      obtain ⟨st1, b, hw, hs1, hf1, hb⟩ := gate_ok hs h
      cases b with
      | true =>
        simp only [if_true] at hb
        obtain ⟨st2, fp, s2, hk, hev, hR, hF⟩ := stepFpT_ok hT hO hs1 hb
        obtain ⟨st3, s3, fps, fpv, hk3, hev3, hR3, hF3, hacc, hcov⟩ := execRT_ok hT hO is st2 s2 _ hR hk
        refine ⟨st3, s3, fps, (i, ⟨fp, tookAt H f o s.E, looksAt ops o⟩) :: fpv, hk3, (hev.and hev3).imp fun C hC => ?_, hR3, (hf1.trans hF).trans hF3, fun e he => hacc e (by simp [he]), fun e he => ?_⟩
        · simp only [execR, oneR, ho, hw, hC.1, Option.map_some, hC.2]
        · rcases List.mem_cons.1 he with rfl | he
          · exact ⟨_, hacc _ (List.mem_cons_self ..), rfl, rfl, rfl, fun t ht => took_ok hs1.E t ht⟩
          · exact hcov e he
      | false =>
        simp only [Bool.false_eq_true, if_false] at hb
        obtain ⟨hR, hF⟩ := put_ok hs1 o.dst (v := .val undef) (u := .val undef) (by simp [RV])
        obtain ⟨st3, s3, fps, fpv, hk3, hev3, hR3, hF3, hacc, hcov⟩ := execRT_ok hT hO is _ _ _ hR hb
        refine ⟨st3, s3, fps, (i, ⟨.none, [], looksAt ops o⟩) :: fpv, hk3, hev3.imp fun C hC => ?_, hR3, (hf1.trans hF).trans hF3, fun e he => hacc e (by simp [he]), fun e he => ?_⟩
        · simp only [execR, oneR, ho, hw, hC, Option.map_some]
        · rcases List.mem_cons.1 he with rfl | he
          · exact ⟨_, hacc _ (List.mem_cons_self ..), rfl, rfl, rfl, fun t ht => by cases ht⟩
          · exact hcov e he
theorem execLT_ok (hT : TOk P H lib T) (hO : OOk P H lib O) {ops : Array Oper} {R : Type} {k : TSt → List (Nat × Foot) → Option R} {r : R} : ∀ (is : List Nat) (st : TSt) (s : St) (acc : List (Nat × Foot)), Rst st s → execLT P H J T O ctx f ops is st acc R k = some r →
    ∃ st' s' fps fpv, k st' fps = some r ∧ Ev (fun C => execL P H C f ops is s = some (s', fpv)) P H lib ∧ Rst st' s' ∧ Fr2 st st' s s' ∧ (∀ e ∈ acc, e ∈ fps) ∧ (∀ e ∈ fpv, Cov fps e)
  | [], st, s, acc, hs, h => ⟨st, s, acc, [], h, .of fun C => rfl, hs, Fr2.refl _ _, fun e he => he, by simp⟩
  | i :: is, st, s, acc, hs, h => by
    simp only [execLT] at h
    split at h
    · cases h
    · rename_i o ho
      split at h
      · rename_i hls
        obtain ⟨st2, s2, hk, hst, hR, hF⟩ := lsT_ok hs h
        obtain ⟨st3, s3, fps, fpv, hk3, hev3, hR3, hF3, hacc, hcov⟩ := execLT_ok hT hO is st2 s2 _ hR hk
        refine ⟨st3, s3, fps, (i, ⟨.all, [], looksAt ops o⟩) :: fpv, hk3, hev3.imp fun C hC => ?_, hR3, hF.trans hF3, fun e he => hacc e (by simp [he]), fun e he => ?_⟩
        · simp only [execL, oneL, ho, hls, if_true, hst, Option.map_some, hC]
        · rcases List.mem_cons.1 he with rfl | he
          · exact ⟨_, hacc _ (List.mem_cons_self ..), rfl, rfl, rfl, fun t ht => ht⟩
          · exact hcov e he
      · rename_i hls
        split at h
        · rename_i hgt
          have hg := lkGate_ok hs.E hgt
          obtain ⟨st1, b, hw, hs1, hf1, hb⟩ := gate_ok hs h
          cases b with
          | true =>
            simp only [if_true] at hb
            obtain ⟨st2, fp, s2, hk, hev, hR, hF⟩ := stepFpT_ok hT hO hs1 hb
            obtain ⟨st3, s3, fps, fpv, hk3, hev3, hR3, hF3, hacc, hcov⟩ := execLT_ok hT hO is st2 s2 _ hR hk
            refine ⟨st3, s3, fps, (i, ⟨fp, tookAt H f o s.E, looksAt ops o⟩) :: fpv, hk3, (hev.and hev3).imp fun C hC => ?_, hR3, (hf1.trans hF).trans hF3, fun e he => hacc e (by simp [he]), fun e he => ?_⟩
            · simp only [execL, oneL, ho, hls, if_false, hg, if_true, oneR, hw, hC.1, Option.map_some, hC.2, Bool.false_eq_true]
            · rcases List.mem_cons.1 he with rfl | he
              · exact ⟨_, hacc _ (List.mem_cons_self ..), rfl, rfl, rfl, fun t ht => took_ok hs1.E t ht⟩
              · exact hcov e he
          | false =>
            simp only [Bool.false_eq_true, if_false] at hb
            obtain ⟨hR, hF⟩ := put_ok hs1 o.dst (v := .val undef) (u := .val undef) (by simp [RV])
            obtain ⟨st3, s3, fps, fpv, hk3, hev3, hR3, hF3, hacc, hcov⟩ := execLT_ok hT hO is _ _ _ hR hb
            refine ⟨st3, s3, fps, (i, ⟨.none, [], looksAt ops o⟩) :: fpv, hk3, hev3.imp fun C hC => ?_, hR3, (hf1.trans hF).trans hF3, fun e he => hacc e (by simp [he]), fun e he => ?_⟩
            · simp only [execL, oneL, ho, hls, if_false, hg, if_true, oneR, hw, hC, Option.map_some, Bool.false_eq_true]
            · rcases List.mem_cons.1 he with rfl | he
              · exact ⟨_, hacc _ (List.mem_cons_self ..), rfl, rfl, rfl, fun t ht => by cases ht⟩
              · exact hcov e he
        · cases h
theorem meets_mono {l l' m : List Tmp} (h : ∀ t ∈ l, t ∈ l') (hm : meets l m = true) : meets l' m = true := by
  unfold meets at hm ⊢
  rw [List.any_eq_true] at hm ⊢
  obtain ⟨t, ht, h2⟩ := hm
  exact ⟨t, h t ht, h2⟩
theorem noConf_ok {U : List (Nat × Nat)} {fps fpv : List (Nat × Foot)} (hc : ∀ e ∈ fpv, Cov fps e) (h : noConf U fps = true) : noConf U fpv = true := by
  unfold noConf at h ⊢
  rw [List.all_eq_true] at h ⊢
  rintro ⟨i, j⟩ hu
  have h1 := h (i, j) hu
  simp only [List.all_eq_true] at h1 ⊢
  rintro ⟨a, p⟩ ha
  obtain ⟨⟨a', p'⟩, hp', hpa, hpf, hpl, hpt⟩ := hc (a, p) ha
  simp only at hpa hpf hpl hpt
  subst hpa
  have h2 := h1 (a', p') hp'
  simp only [Bool.or_eq_true, List.all_eq_true] at h2 ⊢
  rcases h2 with h2 | h2
  · exact .inl h2
  · right
    rintro ⟨b, q⟩ hb
    obtain ⟨⟨b', q'⟩, hq', hqa, hqf, hql, hqt⟩ := hc (b, q) hb
    simp only at hqa hqf hql hqt
    subst hqa
    have h3 := h2 (b', q') hq'
    simp only [Bool.not_eq_true'] at h3 ⊢
    rcases h3 with h3 | h3
    · exact .inl h3
    · right
      cases hcl : Foot.clash p q with
      | false => rfl
      | true =>
        have : Foot.clash p' q' = true := by
          unfold Foot.clash at hcl ⊢
          simp only [Bool.or_eq_true] at hcl ⊢
          rw [← hpf, ← hqf, ← hpl, ← hql] at hcl
          rcases hcl with (h4 | h4) | h4
          · exact .inl (.inl h4)
          · exact .inl (.inr (meets_mono hpt h4))
          · exact .inr (meets_mono hqt h4)
        rw [this] at h3; cases h3

/-! ### loops -/
theorem loopO_some {σ ρ : Type} {g : σ → Option (σ ⊕ ρ)} {s : σ} {r : ρ} (h : loopO g s = some r) : ∃ n, loopN g n s = some r := by
  unfold loopO at h
  split at h
  · rename_i hex
    cases h
    exact ⟨_, Classical.choose_spec (Classical.choose_spec hex)⟩
  · cases h

theorem loop_ok {j : Join} {bid : Nat} {c : Code} (ih : Snd (tx P H J T O ctx f bid c) (ExEv P H lib f bid c)) {st : TSt} {s0 : St} (hst : Rst st s0) {R : Type} {k : Ex → TSt → Option R} {r : R} :
    ∀ (n : Nat) (x : denL (j.ps.map (·.1))) (s : St), Rst (st.fresh.rebuild j (ofL j.ps x)) s → Fr2 st.fresh (st.fresh.rebuild j (ofL j.ps x)) s0 s →
      loopN (fun x => match (st.fresh.rebuild j (ofL j.ps x)).clear (H.clear f bid) with
            | some st1 => tx P H J T O ctx f bid c st1 (denL (j.ps.map (·.1)) ⊕ R) fun e st2 => match e with
              | .normal => (st2.outs st j).map .inl
              | e => (k e (st2.merge st)).map .inr
            | none => none) n x = some r →
      ∃ e st' s', ExEv P H lib f bid (.loop c) s e s' ∧ Rst st' s' ∧ Fr2 st st' s0 s' ∧ k e st' = some r
  | 0, x, s, hs, hf, h => by simp [loopN] at h
  | n + 1, x, s, hs, hf, h => by
    simp only [loopN] at h
    cases hcl : (st.fresh.rebuild j (ofL j.ps x)).clear (H.clear f bid) with
    | none => rw [hcl] at h; simp at h
    | some st1 =>
      rw [hcl] at h
      simp only at h
      obtain ⟨s1, hv1, hs1, hf1⟩ := clear_ok hs hcl
      have done : ∀ (e : Ex) (st2 : TSt) (s2 : St), e ≠ .normal → ExEv P H lib f bid c s1 e s2 → Rst st2 s2 → Fr2 st1 st2 s1 s2 → k e (st2.merge st) = some r →
          ∃ e st' s', ExEv P H lib f bid (.loop c) s e s' ∧ Rst st' s' ∧ Fr2 st st' s0 s' ∧ k e st' = some r := by
        intro e st2 s2 hne hev hR hF hk
        refine ⟨e, st2.merge st, s2, hev.imp fun C hC => ?_, hR.merge, merge_fr ((hf.trans hf1).trans hF), hk⟩
        simp only [ex, hv1, hC]
        cases e with
        | normal => exact absurd rfl hne
        | _ => rfl
      split at h
      · rename_i x' hx'
        obtain ⟨e, st2, s2, hev, hR, hF, hk⟩ := ih st1 _ _ _ s1 hx' hs1
        cases e with
        | normal =>
          obtain ⟨y, hy, hy2⟩ := Option.map_eq_some_iff.1 hk
          cases hy2
          have hF0 : Fr2 st.fresh st2 s0 s2 := (hf.trans hf1).trans hF
          have hy' : st2.outs st.fresh j = some x' := hy
          obtain ⟨e', st', s', hev', hR', hF', hk'⟩ := loop_ok ih hst n x' s2 (rebuild_ok hst.fresh hR hF0 hy') (rebuild_fr (st := st.fresh) hR hF0 hy') h
          refine ⟨e', st', s', ?_, hR', hF', hk'⟩
          obtain ⟨n1, h1⟩ := hev
          obtain ⟨n2, h2⟩ := hev'
          refine ⟨max n1 (n2 + 1), fun m hm => ?_⟩
          have e1 := h1 m (by omega)
          obtain ⟨m', rfl⟩ : ∃ m', m = m' + 1 := ⟨m - 1, by omega⟩
          have e2 := h2 m' (by omega)
          have hun : ex P H (orcN P H lib (m' + 1)) f bid (.loop c) s = (match s.clear (H.clear f bid) with
            | some st => match ex P H (orcN P H lib (m' + 1)) f bid c st with
              | some (.normal, s) => (orcN P H lib (m' + 1)).code f bid (.loop c) s
              | r => r
            | none => none) := by simp only [ex]; rfl
          show ex P H (orcN P H lib (m' + 1)) f bid (.loop c) s = _
          rw [hun, hv1]
          simp only [e1]
          exact e2
        | exit id =>
          obtain ⟨y, hy, hy2⟩ := Option.map_eq_some_iff.1 hk
          cases hy2
        | ret =>
          obtain ⟨y, hy, hy2⟩ := Option.map_eq_some_iff.1 hk
          cases hy2
      · rename_i y hx'
        cases h
        obtain ⟨e, st2, s2, hev, hR, hF, hk⟩ := ih st1 _ _ _ s1 hx' hs1
        cases e with
        | normal =>
          obtain ⟨y, hy, hy2⟩ := Option.map_eq_some_iff.1 hk
          cases hy2
        | exit id =>
          obtain ⟨y', hy, hy2⟩ := Option.map_eq_some_iff.1 hk
          cases hy2
          exact done _ _ _ (by simp) hev hR hF hy
        | ret =>
          obtain ⟨y', hy, hy2⟩ := Option.map_eq_some_iff.1 hk
          cases hy2
          exact done _ _ _ (by simp) hev hR hF hy
      · cases h

/-- the start of a loop: what is collected, what is forgotten -/
theorem start_ok {j : Join} {st : TSt} {s : St} (hs : Rst st s) (hf : st.forgets j = true) {x : denL (j.ps.map (·.1))} (hx : asL j.ps (j.lv.map st.get) = some x) :
    Rst (st.fresh.rebuild j (ofL j.ps x)) s ∧ Fr2 st.fresh (st.fresh.rebuild j (ofL j.ps x)) s s := by
  have ho : st.fresh.outs st.fresh j = some x := by
    unfold TSt.outs
    have h1 : st.fresh.forgets j = true := hf
    have h2 : st.fresh.wrote j = true := by
      have : Mask.empty.sub j.D = true := Mask.sub_of fun t ht => absurd ht Mask.mem_empty
      simp [TSt.wrote, TSt.fresh, this]
    have h3 : st.fresh.like st.fresh j = true := by
      unfold TSt.like
      rw [List.all_eq_true]
      intro r _
      cases st.fresh.box r <;> simp
    rw [h1, h2, h3]
    exact hx
  exact ⟨rebuild_ok hs.fresh hs.fresh (Fr2.refl _ _) ho, rebuild_fr (st := st.fresh) hs.fresh (Fr2.refl _ _) ho⟩

theorem tx_ok (hT : TOk P H lib T) (hO : OOk P H lib O) : ∀ (c : Code) (bid : Nat), Snd (tx P H J T O ctx f bid c) (ExEv P H lib f bid c)
  | .skip, bid => fun st R k r s h hs => ⟨.normal, st, s, .of fun C => rfl, hs, Fr2.refl _ _, h⟩
  | .ret, bid => fun st R k r s h hs => ⟨.ret, st, s, .of fun C => rfl, hs, Fr2.refl _ _, h⟩
  | .exit id, bid => fun st R k r s h hs => ⟨.exit id, st, s, .of fun C => rfl, hs, Fr2.refl _ _, h⟩
  | .seq a b, bid => fun st R k r s h hs => by
    simp only [tx] at h
    obtain ⟨e, st1, s1, hev, hR, hF, hk⟩ := tx_ok hT hO a bid st _ _ r s h hs
    cases e with
    | normal =>
      obtain ⟨e2, st2, s2, hev2, hR2, hF2, hk2⟩ := tx_ok hT hO b bid st1 _ _ r s1 hk hR
      exact ⟨e2, st2, s2, (hev.and hev2).imp fun C hC => by simp only [ex, hC.1, hC.2], hR2, hF.trans hF2, hk2⟩
    | exit id => exact ⟨.exit id, st1, s1, hev.imp fun C hC => by simp only [ex, hC], hR, hF, hk⟩
    | ret => exact ⟨.ret, st1, s1, hev.imp fun C hC => by simp only [ex, hC], hR, hF, hk⟩
  | .cond c a b, bid => fun st R k r s h hs => by
    simp only [tx] at h
    refine joinT_ok (rel := ExEv P H lib f bid (.cond c a b)) ?_ _ st R k r s h hs
    intro st R k r s h hs
    have hr := rd_ok (H := H) (f := f) (o := default) hs.E c
    simp only at h
    split at h
    · rename_i o t ht
      rw [ht] at hr
      simp only [RV, RTy] at hr
      cases t with
      | true =>
        obtain ⟨e2, st2, s2, hev2, hR2, hF2, hk2⟩ := tx_ok hT hO a bid st _ _ r s h hs
        exact ⟨e2, st2, s2, hev2.imp fun C hC => by simp only [ex, hr, if_true, hC], hR2, hF2, hk2⟩
      | false =>
        obtain ⟨e2, st2, s2, hev2, hR2, hF2, hk2⟩ := tx_ok hT hO b bid st _ _ r s h hs
        exact ⟨e2, st2, s2, hev2.imp fun C hC => by simp only [ex, hr, Bool.false_eq_true, if_false, hC], hR2, hF2, hk2⟩
    · cases h
  | .block id c, bid => fun st R k r s h hs => by
    simp only [tx] at h
    refine joinT_ok (rel := ExEv P H lib f bid (.block id c)) ?_ _ st R k r s h hs
    intro st R k r s h hs
    obtain ⟨e, st1, s1, hev, hR, hF, hk⟩ := tx_ok hT hO c id st _ _ r s h hs
    cases e with
    | exit i =>
      simp only at hk
      split at hk
      · rename_i hi
        exact ⟨.normal, st1, s1, hev.imp fun C hC => by simp only [ex, hC, hi, if_true], hR, hF, hk⟩
      · rename_i hi
        exact ⟨.exit i, st1, s1, hev.imp fun C hC => by simp only [ex, hC, hi, if_false], hR, hF, hk⟩
    | normal => exact ⟨.normal, st1, s1, hev.imp fun C hC => by simp only [ex, hC], hR, hF, hk⟩
    | ret => exact ⟨.ret, st1, s1, hev.imp fun C hC => by simp only [ex, hC], hR, hF, hk⟩
  | .region id ops draw, bid => fun st R k r s h hs => by
    simp only [tx] at h
    refine joinT_ok (rel := ExEv P H lib f bid (.region id ops draw)) ?_ _ st R k r s h hs
    intro st R k r s h hs
    simp only [regionOkM_eq, linkOkM_eq] at h
    cases hls : hasLs H f ops with
    | true =>
      rw [hls] at h
      simp only [if_true] at h
      split at h
      · rename_i hok
        obtain ⟨st1, s1, fps, fpv, hk, hev, hR, hF, _, hcov⟩ := execLT_ok hT hO _ st s [] hs h
        split at hk
        · rename_i hnc
          refine ⟨.normal, st1, s1, hev.imp fun C hC => ?_, hR, hF, hk⟩
          have hnc' : (!draw || noConf (H.pairs f id) fpv) = true := by
            simp only [Bool.or_eq_true] at hnc ⊢
            exact hnc.imp (fun h => h) fun h => noConf_ok hcov h
          simp only [ex, hls, if_true, hok, hC, hnc']
        · cases hk
      · cases h
    | false =>
    rw [hls] at h
    simp only [Bool.false_eq_true, if_false] at h
    split at h
    · rename_i hd
      split at h
      · rename_i hok
        split at h
        · rename_i hU
          obtain ⟨st1, s1, hk, hev, hR, hF⟩ := execT_ok hT hO _ st s hs h
          rw [hU] at hok
          exact ⟨.normal, st1, s1, hev.imp fun C hC => by simp only [ex, hls, Bool.false_eq_true, if_false, hd, if_true, hU, hok, hC, Option.map_some], hR, hF, hk⟩
        · rename_i U hU
          obtain ⟨st1, s1, fps, fpv, hk, hev, hR, hF, _, hcov⟩ := execRT_ok hT hO _ st s [] hs h
          split at hk
          · rename_i hnc
            have hnc' := noConf_ok hcov hnc
            refine ⟨.normal, st1, s1, hev.imp fun C hC => ?_, hR, hF, hk⟩
            simp only [ex, hls, Bool.false_eq_true, if_false, hd, if_true, hok]
            cases hp : H.pairs f id with
            | nil => exact absurd hp (by simpa using hU)
            | cons u U' =>
              rw [hp] at hnc'
              simp only [hC, hnc', if_true]
          · cases hk
      · cases h
    · rename_i hd
      obtain ⟨st1, s1, hk, hev, hR, hF⟩ := execT_ok hT hO _ st s hs h
      exact ⟨.normal, st1, s1, hev.imp fun C hC => by simp only [ex, hls, Bool.false_eq_true, if_false]; rw [if_neg hd, hC]; rfl, hR, hF, hk⟩
  | .loop c, bid => fun st R k r s h hs => by
    simp only [tx] at h
    split at h
    · rename_i j hj
      split at h
      · rename_i hf
        obtain ⟨x0, hx0, h⟩ := Option.bind_eq_some_iff.1 h
        obtain ⟨n, hn⟩ := loopO_some h
        obtain ⟨h1, h2⟩ := start_ok hs hf hx0
        exact loop_ok (tx_ok hT hO c bid) hs n x0 s h1 h2 hn
      · cases h
    · split at h
      · rename_i st1 hcl
        obtain ⟨s1, hv1, hs1, hf1⟩ := clear_ok hs hcl
        obtain ⟨e, st2, s2, hev, hR, hF, hk⟩ := tx_ok hT hO c bid st1 _ _ r s1 h hs1
        cases e with
        | normal =>
          obtain ⟨e3, st3, s3, hev3, hR3, hF3, hk3⟩ := hO.code ctx f bid (.loop c) st2 _ _ r s2 hk hR
          exact ⟨e3, st3, s3, (hev.and hev3).imp fun C hC => by simp only [ex, hv1, hC.1, hC.2], hR3, (hf1.trans hF).trans hF3, hk3⟩
        | exit id => exact ⟨.exit id, st2, s2, hev.imp fun C hC => by simp only [ex, hv1, hC], hR, hf1.trans hF, hk⟩
        | ret => exact ⟨.ret, st2, s2, hev.imp fun C hC => by simp only [ex, hv1, hC], hR, hf1.trans hF, hk⟩
      · cases h
  | .rangeFunc .., bid => fun st R k r s h hs => by simp [tx] at h
  | .scope _, bid => fun st R k r s h hs => by simp [tx] at h
  | .label _, bid => fun st R k r s h hs => by simp [tx] at h
  | .goto _, bid => fun st R k r s h hs => by simp [tx] at h
  | .refuse _, bid => fun st R k r s h hs => by simp [tx] at h
end Go.Tx
