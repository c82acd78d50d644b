/-
  STEPS, CODE, FUNCTIONS: what the typed interpreter gives is what the abstract one gives.
-/
import Derived.Test.YtpiggpgocnlomaaTxF
set_option linter.unusedVariables false
namespace Go.Tx
open Go Go.Ab
variable {P : Program} {H : Hints} {J : TH} {T : CallT} {O : TOrc} {lib : FuncId → Option (List V → Option V)} {f : FuncId} {ctx : List Tmp}

/-- with enough fuel -/
def Ev (p : Orc → Prop) (P : Program) (H : Hints) (lib : FuncId → Option (List V → Option V)) : Prop := ∃ n, ∀ m, n ≤ m → p (orcN P H lib m)
theorem Ev.and {p q : Orc → Prop} (h : Ev p P H lib) (h' : Ev q P H lib) : Ev (fun C => p C ∧ q C) P H lib := by
  obtain ⟨n, h⟩ := h; obtain ⟨n', h'⟩ := h'
  exact ⟨max n n', fun m hm => ⟨h m (by omega), h' m (by omega)⟩⟩
theorem Ev.imp {p q : Orc → Prop} (h : Ev p P H lib) (hi : ∀ C, p C → q C) : Ev q P H lib := by
  obtain ⟨n, h⟩ := h; exact ⟨n, fun m hm => hi _ (h m hm)⟩
theorem Ev.of {p : Orc → Prop} (h : ∀ C, p C) : Ev p P H lib := ⟨0, fun m _ => h _⟩

def ExEv (P : Program) (H : Hints) (lib : FuncId → Option (List V → Option V)) (f : FuncId) (bid : Nat) (c : Code) (s : St) (e : Ex) (s' : St) : Prop := Ev (fun C => ex P H C f bid c s = some (e, s')) P H lib
def CallEv (P : Program) (H : Hints) (lib : FuncId → Option (List V → Option V)) (g : FuncId) (args : List V) (M : List Level) (r : V) (M' : List Level) : Prop := Ev (fun C => C.call g args M = some (r, M')) P H lib

def Snd (run : TSt → (R : Type) → (Ex → TSt → Option R) → Option R) (rel : St → Ex → St → Prop) : Prop :=
  ∀ (st : TSt) (R : Type) (k : Ex → TSt → Option R) (r : R) (s : St), run st R k = some r → Rst st s → ∃ e st' s', rel s e s' ∧ Rst st' s' ∧ Fr2 st st' s s' ∧ k e st' = some r

theorem setPlace_logs (st : TSt) (p : Place) (v : TV) : (st.setPlace p v).Wt = st.Wt ∧ (st.setPlace p v).Wb = st.Wb := by
  unfold TSt.setPlace
  cases p.lvl with
  | none => exact ⟨rfl, rfl⟩
  | some l =>
    simp only
    cases st.box ⟨l, p.slot⟩ with
    | none => exact ⟨rfl, rfl⟩
    | some cs => exact ⟨by simp only [TSt.setBox]; split <;> rfl, rfl⟩
theorem setPlaces_logs : ∀ (ps : List Place) (vs : List TV) (st : TSt), (setPlaces st ps vs).Wt = st.Wt ∧ (setPlaces st ps vs).Wb = st.Wb
  | [], vs, st => by cases vs <;> exact ⟨rfl, rfl⟩
  | p :: ps, [], st => ⟨rfl, rfl⟩
  | p :: ps, v :: vs, st => by
    have h1 := setPlaces_logs ps vs (st.setPlace p v)
    have h2 := setPlace_logs st p v
    exact ⟨h1.1.trans h2.1, h1.2.trans h2.2⟩
theorem tsetBox_some (st : TSt) (r : Root) (c : List TV) (q : Root) (h : (st.box q).isSome = true) : ((st.setBox r c).box q).isSome = true := by
  obtain ⟨l, s⟩ := r
  obtain ⟨l', s'⟩ := q
  have key : ∀ b : TLevel, (match lookT b s' with | some (some c) => some c | _ => none : Option (List TV)).isSome = true → (match lookT (setT b s (some c)) s' with | some (some c) => some c | _ => none : Option (List TV)).isSome = true := fun b hb => by
    rw [lookT_setT]
    by_cases e : s' = s
    · rw [if_pos e]
      subst e
      cases hl : lookT b s' with
      | none => rw [hl] at hb; cases hb
      | some o => rfl
    · rw [if_neg e]; exact hb
  unfold TSt.setBox TSt.box at *
  simp only at h ⊢
  by_cases h1 : l = st.L.length
  · rw [if_pos h1]
    simp only
    by_cases h2 : l' = st.L.length
    · rw [if_pos h2] at h ⊢; exact key _ h
    · rw [if_neg h2] at h ⊢; exact h
  · rw [if_neg h1]
    simp only [List.length_modify]
    by_cases h2 : l' = st.L.length
    · rw [if_pos h2] at h ⊢; exact h
    · rw [if_neg h2] at h ⊢
      rw [List.getElem?_modify]
      cases hb : st.L[l']? with
      | none => rw [hb] at h; cases h
      | some b =>
        rw [hb] at h
        simp only [Option.map_eq_map, Option.map_some]
        by_cases e : l = l'
        · rw [if_pos e]; exact key _ h
        · rw [if_neg e]; exact h
theorem setPlaces_E : ∀ (ps : List Place) (vs : List TV) (st : TSt) (t : Nat), (setPlaces st ps vs).E.toL[t]? = st.E.toL[t]? ∨ ∃ v ∈ vs, (setPlaces st ps vs).E.toL[t]? = some v
  | [], vs, st, t => by cases vs <;> exact .inl rfl
  | p :: ps, [], st, t => .inl rfl
  | p :: ps, v :: vs, st, t => by
    rcases setPlaces_E ps vs (st.setPlace p v) t with h | ⟨u, hu, h⟩
    · show (setPlaces (st.setPlace p v) ps vs).E.toL[t]? = _ ∨ ∃ u ∈ v :: vs, (setPlaces (st.setPlace p v) ps vs).E.toL[t]? = some u
      rw [h]
      unfold TSt.setPlace
      cases p.lvl with
      | none =>
        simp only [toL_set, List.getElem?_set]
        split
        · split
          · exact .inr ⟨v, by simp, rfl⟩
          · rename_i h1 h2; left; rw [List.getElem?_eq_none (by omega)]
        · exact .inl rfl
      | some l =>
        simp only
        cases st.box ⟨l, p.slot⟩ with
        | none => exact .inl rfl
        | some cs => left; simp only [TSt.setBox]; split <;> rfl
    · exact .inr ⟨u, by simp [hu], h⟩
theorem setPlace_box (st : TSt) (p : Place) (v : TV) (r : Root) (h : (st.box r).isSome = true) : ((st.setPlace p v).box r).isSome = true := by
  unfold TSt.setPlace
  cases p.lvl with
  | none => exact h
  | some l =>
    simp only
    cases hb : st.box ⟨l, p.slot⟩ with
    | none => exact h
    | some cs =>
      simp only
      have hbx : ({ st.setBox ⟨l, p.slot⟩ (cs.set p.cell v) with Wb := st.Wb } : TSt).box r = (st.setBox ⟨l, p.slot⟩ (cs.set p.cell v)).box r := rfl
      rw [hbx]
      exact tsetBox_some st ⟨l, p.slot⟩ _ r h
theorem setPlaces_box : ∀ (ps : List Place) (vs : List TV) (st : TSt) (r : Root), (st.box r).isSome = true → ((setPlaces st ps vs).box r).isSome = true
  | [], vs, st, r, h => by cases vs <;> exact h
  | p :: ps, [], st, r, h => h
  | p :: ps, v :: vs, st, r, h => setPlaces_box ps vs _ r (setPlace_box st p v r h)
theorem ofTy_any (τ : Ty) (o : Nat) (x : τ.den) : ∀ rs, ofTy τ o x ≠ .any rs := fun rs => by cases τ <;> simp [ofTy]
theorem ofL_any : ∀ (ps : List (Ty × Nat)) (x : denL (ps.map (·.1))), ∀ v ∈ ofL ps x, ∀ rs, v ≠ .any rs
  | [], x, v, hv => by simp [ofL] at hv
  | [(τ, o)], x, v, hv => by simp only [ofL, List.mem_singleton] at hv; subst hv; exact ofTy_any τ o x
  | (τ, o) :: q :: ps, x, v, hv => by
    simp only [ofL, List.mem_cons] at hv
    rcases hv with rfl | hv
    · exact ofTy_any τ o x.1
    · exact ofL_any (q :: ps) x.2 v hv
theorem rebuild_fr {st st2 : TSt} {s s' : St} {j : Join} {x : denL (j.ps.map (·.1))} (h2 : Rst st2 s') (hf : Fr2 st.fresh st2 s s') (ho : st2.outs st j = some x) : Fr2 st (st.rebuild j (ofL j.ps x)) s s' := by
  generalize hvs : ofL j.ps x = vs
  have hany : ∀ v ∈ vs, ∀ rs, v ≠ .any rs := by rw [← hvs]; exact ofL_any j.ps x
  unfold TSt.outs at ho
  split at ho
  · rename_i hc
    simp only [Bool.and_eq_true] at hc
    obtain ⟨⟨_, hwr⟩, _⟩ := hc
    unfold TSt.wrote at hwr
    simp only [Bool.and_eq_true, List.all_eq_true] at hwr
    obtain ⟨hwt0, hwb⟩ := hwr
    have hwt : ∀ t ∈ st2.Wt, t ∈ j.D := fun t ht => Mask.sub_mem hwt0 ht
    have hl := setPlaces_logs j.lv vs { j.wr.foldl (fun (st : TSt) r => st.forget j.rs r) { st with E := forgetM j.D j.rs st.E } with Wt := j.D ++ st.Wt, Wb := j.wr ++ st.Wb }
    have e1 : (st.rebuild j vs).Wt = j.D ++ st.Wt := hl.1
    have e2 : (st.rebuild j vs).Wb = j.wr ++ st.Wb := hl.2
    refine ⟨fun t ht => by rw [e1]; simp [ht], fun r hr => by rw [e2]; simp [hr], fun t ht => ?_, fun t ht rs hE => ?_, fun r hr => ?_, fun r hr hsm => ?_, hf.len, hf.elen⟩
    · rw [e1] at ht
      exact hf.e t fun hh => ht (by simp [hwt t hh])
    · rw [e1] at ht
      simp only [Mask.mem_append, not_or] at ht
      unfold TSt.rebuild at hE
      rcases setPlaces_E j.lv vs _ t with h3 | ⟨v, hv, h3⟩
      · rw [h3] at hE
        have h4 : (j.wr.foldl (fun (st : TSt) r => st.forget j.rs r) { st with E := forgetM j.D j.rs st.E }).E.toL[t]? = some (.any rs) := hE
        rw [forgets_E] at h4
        simp only at h4
        rw [forgetM_get, if_neg ht.1] at h4
        exact ⟨rs, h4⟩
      · rw [h3] at hE
        exact absurd (Option.some.inj hE) (hany v hv rs)
    · rw [e2] at hr
      by_cases hm : r ∈ st2.Wb
      · have := hwb r hm
        simp only [Bool.or_eq_true, decide_eq_true_eq] at this
        rcases this with h3 | h3
        · exact absurd (by simp at h3; simp [h3]) hr
        · rw [look_box, look_box]
          unfold lookV
          have h4 := h2.len
          have h5 := hf.len
          rw [List.getElem?_eq_none (by simp [allV]; omega), List.getElem?_eq_none (by simp [allV]; omega)]
          exact .inl rfl
      · exact hf.b r hm
    · rw [e2] at hr
      simp only [List.mem_append, not_or] at hr
      unfold TSt.rebuild
      refine setPlaces_box j.lv vs _ r ?_
      obtain ⟨c, hc⟩ := Option.isSome_iff_exists.1 hsm
      have hlk := box_some hc
      have h3 : lookM (j.wr.foldl (fun (st : TSt) r => st.forget j.rs r) { st with E := forgetM j.D j.rs st.E }).all r.lvl r.slot = some (some c) := by
        rw [lookM_forgets, if_neg (fun hh => hr.1 hh.1)]
        exact hlk
      have h4 : ({ j.wr.foldl (fun (st : TSt) r => st.forget j.rs r) { st with E := forgetM j.D j.rs st.E } with Wt := j.D ++ st.Wt, Wb := j.wr ++ st.Wb } : TSt).box r = some c := by
        rw [tlook_box]
        show (match lookM (j.wr.foldl (fun (st : TSt) r => st.forget j.rs r) { st with E := forgetM j.D j.rs st.E }).all r.lvl r.slot with
          | some (some c) => some c
          | _ => none) = some c
        rw [h3]
      rw [h4]; rfl
  · cases ho
theorem merge_fr {st st2 : TSt} {s s' : St} (hf : Fr2 st.fresh st2 s s') : Fr2 st (st2.merge st) s s' :=
  ⟨fun t ht => by simp [TSt.merge, ht], fun r hr => by simp [TSt.merge, hr], fun t ht => hf.e t fun hh => ht (by simp [TSt.merge, hh]), fun t ht rs hE => hf.an t (fun hh => ht (by simp [TSt.merge, hh])) rs hE, fun r hr => hf.b r fun hh => hr (by simp [TSt.merge, hh]), fun r hr hsm => hf.bn r (fun hh => hr (by simp [TSt.merge, hh])) hsm, hf.len, hf.elen⟩
theorem Rst.fresh {st : TSt} {s : St} (h : Rst st s) : Rst st.fresh s := ⟨h.E, h.M⟩
theorem Rst.merge {st st0 : TSt} {s : St} (h : Rst st s) : Rst (st.merge st0) s := ⟨h.E, h.M⟩

theorem joinT_ok {run : TSt → (R : Type) → (Ex → TSt → Option R) → Option R} {rel : St → Ex → St → Prop} (h : Snd run rel) (j : Option Join) : Snd (fun st R k => joinT j st run R k) rel := by
  intro st R k r s hr hs
  simp only [joinT] at hr
  cases j with
  | none => exact h st R k r s hr hs
  | some j =>
    simp only at hr
    split at hr
    · obtain ⟨x, hx, hk⟩ := Option.bind_eq_some_iff.1 hr
      obtain ⟨e, st2, s', hrel, hR, hF, hkk⟩ := h _ _ _ _ s hx hs.fresh
      have habn : ∀ e, (k e (st2.merge st)).map Sum.inr = some x → rel s e s' → ∃ e st' s', rel s e s' ∧ Rst st' s' ∧ Fr2 st st' s s' ∧ k e st' = some r := fun e hkk hrel => by
        obtain ⟨y, hy, rfl⟩ := Option.map_eq_some_iff.1 hkk
        simp only [Sum.elim_inr, Option.some.injEq] at hk
        subst hk
        exact ⟨e, _, s', hrel, hR.merge, merge_fr hF, hy⟩
      cases e with
      | normal =>
        obtain ⟨y, hy, rfl⟩ := Option.map_eq_some_iff.1 hkk
        simp only [Sum.elim_inl] at hk
        exact ⟨.normal, _, s', hrel, rebuild_ok hs hR hF hy, rebuild_fr hR hF hy, hk⟩
      | exit id => exact habn _ hkk hrel
      | ret => exact habn _ hkk hrel
    · obtain ⟨x, hx, hk⟩ := Option.bind_eq_some_iff.1 hr
      obtain ⟨e, st2, s', hrel, hR, hF, hkk⟩ := h _ _ _ _ s hx hs.fresh
      cases e with
      | normal => exact ⟨.normal, _, s', hrel, rebuild_ok hs hR hF hkk, rebuild_fr hR hF hkk, hk⟩
      | exit id => cases hkk
      | ret => cases hkk

/-! ### what is called -/
def TOk (P : Program) (H : Hints) (lib : FuncId → Option (List V → Option V)) (T : CallT) : Prop :=
  ∀ g args (R : Type) (k : TV → Option R) r vs, T g args R k = some r → RVL args vs → ∃ x v, k x = some r ∧ RV x v ∧ CallEv P H lib g vs [] v []
structure OOk (P : Program) (H : Hints) (lib : FuncId → Option (List V → Option V)) (O : TOrc) : Prop where
  call : ∀ ctx g args M (R : Type) (k : TV → List TLevel → List Root → Option R) r vs M', O.call ctx g args M R k = some r → RVL args vs → LR M M' →
    ∃ x N wb v N', k x N wb = some r ∧ RV x v ∧ LR N N' ∧ N.length = M.length ∧ (∀ l sl, (⟨l, sl⟩ : Root) ∉ wb → lookV N' l sl = lookV M' l sl ∧ ∀ c, lookM M l sl = some (some c) → ∃ c', lookM N l sl = some (some c')) ∧ CallEv P H lib g vs M' v N'
  code : ∀ ctx f bid c, Snd (fun st R k => O.code ctx f bid c st R k) fun s e s' => Ev (fun C => C.code f bid c s = some (e, s')) P H lib

theorem flShare_own (f : Fl) : flShare f ≠ .own := by simp [flShare]
theorem flHand_own (f : Fl) : flHand f ≠ .own := by cases f <;> simp [flHand]
theorem flLoosen_own (f : Fl) : flLoosen f = .own ↔ f = .own := by cases f <;> simp [flLoosen]
theorem flSettle_own (f : Fl) : flSettle f = .own ↔ f = .own := by cases f <;> simp [flSettle]

theorem lastSplitT_eq : ∀ {M : List TLevel} {L : List TLevel} {B : TLevel}, lastSplitT M = some (L, B) → M = L ++ [B]
  | [], _, _, h => by cases h
  | [b], _, _, h => by simp only [lastSplitT, Option.some.injEq, Prod.mk.injEq] at h; simp [← h.1, ← h.2]
  | b :: c :: l, L, B, h => by
    simp only [lastSplitT] at h
    obtain ⟨⟨x, y⟩, hxy, h2⟩ := Option.map_eq_some_iff.1 h
    simp only [Prod.mk.injEq] at h2
    obtain ⟨rfl, rfl⟩ := h2
    simp [lastSplitT_eq hxy]
theorem lastSplit_app : ∀ (L : List Level) (B : Level), lastSplit (L ++ [B]) = some (L, B)
  | [], B => rfl
  | [a], B => rfl
  | a :: b :: L, B => by
    have := lastSplit_app (b :: L) B
    simp only [List.cons_append] at this ⊢
    simp only [lastSplit, this, Option.map_some]
theorem split_last {α : Type} : ∀ {M : List α} {n : Nat}, M.length = n + 1 → ∃ L B, M = L ++ [B]
  | [], n, h => by simp at h
  | [b], n, h => ⟨[], b, rfl⟩
  | b :: c :: l, n, h => by
    obtain ⟨L, B, e⟩ := split_last (M := c :: l) (n := l.length) (by simp)
    exact ⟨b :: L, B, by rw [e]; rfl⟩

theorem callVT_ok (hT : TOk P H lib T) (hO : OOk P H lib O) {d : Tmp} {fv : TV} {fv' : V} {args : List TV} {args' : List V} {st : TSt} {s : St} {R : Type} {k : TV → TSt → Option R} {r : R}
    (hf : RV fv fv') (ha : RVL args args') (hs : Rst st s) (h : callVT J T O ctx f d fv args st R k = some r) :
    ∃ v st' u s', k v st' = some r ∧ Ev (fun C => vcallV C fv' args' s = some (u, s')) P H lib ∧ RV v u ∧ Rst st' s' ∧ Fr2 st st' s s' ∧ st'.E = st.E ∧ s'.E = s.E ∧ pureCall fv' args' = pureCallT fv args := by
  unfold callVT at h
  split at h
  · rename_i g first cap
    simp only [RV] at hf
    obtain ⟨first', cap', rfl, hf1, hc1⟩ := hf
    have hall : RVL (first ++ args ++ cap) (first' ++ args' ++ cap') := (hf1.append ha).append hc1
    split at h
    · rename_i hk
      have hpt := RVL.ptrs_eq _ _ hk hall
      have hpure : pureCall (.fn g first' cap') args' = pureCallT (.fn g first cap) args := by
        simp only [pureCall, pureCallT, hpt]
      split at h
      · rename_i hp
        have hp' : (ptrsL (first' ++ args' ++ cap')).isEmpty = true := by rw [hpt]; exact hp
        have hshare : RVL (shareL (first ++ args ++ cap)) ((first' ++ args' ++ cap').map V.share) := by
          have := RVL.share _ _ hall
          rw [reflagL_map] at this; exact this
        have fin : ∀ {x : TV} {v : V}, k (if tightL (first ++ args ++ cap) then x else x.loosen) st = some r → RV x v → CallEv P H lib g ((first' ++ args' ++ cap').map V.share) [] v [] →
            ∃ v st' u s', k v st' = some r ∧ Ev (fun C => vcallV C (.fn g first' cap') args' s = some (u, s')) P H lib ∧ RV v u ∧ Rst st' s' ∧ Fr2 st st' s s' ∧ st'.E = st.E ∧ s'.E = s.E ∧ pureCall (.fn g first' cap') args' = pureCallT (.fn g first cap) args := by
          intro x v hkx hr hev
          refine ⟨if tightL (first ++ args ++ cap) then x else x.loosen, st, if looseL (first' ++ args' ++ cap') = true then v.loosen else v, s, hkx, hev.imp fun C hC => ?_, ?_, hs, Fr2.refl _ _, rfl, rfl, hpure⟩
          · show vcall C g (first' ++ args' ++ cap') s = _
            unfold vcall
            rw [if_pos hp', hC]
          · cases htg : tightL (first ++ args ++ cap) with
            | true =>
              rw [RVL.tight _ _ htg hall]
              simpa using hr
            | false =>
              simp only [Bool.false_eq_true, if_false]
              split
              · exact RV.lo flLoosen_own _ _ hr
              · exact hr.lo0
        split at h
        · obtain ⟨x, N, wb, v, N', hkx, hr, hN, hlen, _, hev⟩ := hO.call _ _ _ _ _ _ _ _ [] h hshare ⟨rfl, fun l s => by simp [lookM, lookV, RB], by simp⟩
          have hN0 : N = [] := List.eq_nil_of_length_eq_zero (by rw [hlen]; rfl)
          subst hN0
          have hN0' : N' = [] := List.eq_nil_of_length_eq_zero (by rw [hN.len]; rfl)
          subst hN0'
          exact fin hkx hr hev
        · obtain ⟨x, v, hkx, hr, hev⟩ := hT _ _ _ _ _ _ h hshare
          exact fin hkx hr hev
      · rename_i hp
        have hp' : ¬ (ptrsL (first' ++ args' ++ cap')).isEmpty = true := by rw [hpt]; exact hp
        have hdull : RVL (dullL (first ++ args ++ cap)) ((first' ++ args' ++ cap').map V.hand) := hall.map_dull flHand_own rfl
        obtain ⟨x, N, wb, v, N', hkx, hr, hN, hlen, hfr, hev⟩ := hO.call _ _ _ _ _ _ _ _ (s.L ++ [s.B]) h hdull hs.M
        split at hkx
        · rename_i L B hsp
          have hNe := lastSplitT_eq hsp
          subst hNe
          split at hkx
          · rename_i hL
            obtain ⟨L', B', rfl⟩ := split_last (M := N') (n := L.length) (by rw [hN.len]; simp)
            have hL' : L'.length = s.L.length := by have := hN.len; have := hs.len; simp at *; omega
            refine ⟨x, _, v, { s with L := L', B := B' }, hkx, hev.imp fun C hC => ?_, hr, ⟨hs.E, hN⟩, ⟨fun t ht => ht, fun q hq => by simp [hq], fun t ht => .inl rfl, fun t ht rs hE => ⟨rs, hE⟩, fun q hq => .inl ?_, fun q hq hsm => ?_, hL', rfl⟩, rfl, rfl, hpure⟩
            · show vcall C g (first' ++ args' ++ cap') s = _
              unfold vcall
              rw [if_neg hp', hC]
              simp only [lastSplit_app, hL', if_true]
            · rw [look_box, look_box]
              simp only [List.mem_append, not_or] at hq
              exact (hfr q.lvl q.slot hq.1).1
            · simp only [List.mem_append, not_or] at hq
              obtain ⟨c, hc⟩ := Option.isSome_iff_exists.1 hsm
              obtain ⟨c', hc'⟩ := (hfr q.lvl q.slot hq.1).2 c (box_some hc)
              rw [tlook_box]
              show (match lookM (L ++ [B]) q.lvl q.slot with
                | some (some c) => some c
                | _ => none).isSome = true
              rw [hc']; rfl
          · cases hkx
        · cases hkx
    · cases h
  · cases h

/-! ### one operation -/
def dfltMT (P : Program) (H : Hints) (f : FuncId) (o : Oper) (xs : List TV) (st : TSt) (R : Type) (k : TV → TSt → Fp → Option R) : Option R :=
  match rootOfT o.op xs with
    | none => topSem P H f (takes H f o) o.op xs none R fun v c => match c with
      | none => k v st .none
      | some _ => none
    | some r => topSem P H f (takes H f o) o.op xs (st.box r) R fun v c => match c with
      | none => k v st (.root r (rangeOfT P o.op xs).1 (rangeOfT P o.op xs).2 false)
      | some c => if (wptrsT o.op xs).all (fun p => decide (p.lvl ≤ r.lvl)) && decide ((rangeOfT P o.op xs).1 + (rangeOfT P o.op xs).2 ≤ c.length) then k v (st.setBox r c) (.root r (rangeOfT P o.op xs).1 (rangeOfT P o.op xs).2 true) else none
theorem stepMT_dflt {o : Oper} (h : isDflt o.op = true) (xs : List TV) (st : TSt) (R : Type) (k : TV → TSt → Fp → Option R) : stepMT P H J T O ctx f o xs st R k = dfltMT P H f o xs st R k := by
  unfold stepMT
  split
  · rename_i hop; rw [hop] at h; simp [isDflt] at h
  · rename_i hop; rw [hop] at h; simp [isDflt] at h
  · rename_i hop; rw [hop] at h; simp [isDflt] at h
  · rfl
theorem stepMT_call {o : Oper} {c : Call} {fo : Operand} (hop : o.op = .call c) (hc : c.callee = .value fo) (xs : List TV) (st : TSt) (R : Type) (k : TV → TSt → Fp → Option R) :
    stepMT P H J T O ctx f o xs st R k = match xs with
      | fv :: args => callVT J T O ctx f (o.dst.getD 0) fv args st R fun v s => k v s (if pureCallT fv args then .none else .all)
      | [] => none := by
  unfold stepMT
  obtain ⟨cal, a1, a2⟩ := c
  simp only at hc
  subst hc
  simp only [hop]
  cases xs <;> rfl

theorem LR.push {M : List TLevel} {M' : List Level} {b : TLevel} {b' : Level} {d : Nat} {c : List TV} {c' : List V} (h : LR (M ++ [b]) (M' ++ [b'])) (hl : M'.length = M.length) (hd : lookT b d = none) (hc : RVL c c') : LR (M ++ [(d, some c) :: b]) (M' ++ [(d, c') :: b']) := by
  have hkey : ∀ k, RB (lookT b k) (lookB b' k) := fun k => by
    have := h.rel M.length k
    unfold lookM lookV at this
    rw [List.getElem?_append_right (Nat.le_refl _), ← hl, List.getElem?_append_right (Nat.le_refl _)] at this
    simpa using this
  refine ⟨by simp [hl], fun l k => ?_, fun q hq => ?_⟩
  · have key := h.rel l k
    unfold lookM lookV at key ⊢
    by_cases e : l < M.length
    · rw [List.getElem?_append_left e, List.getElem?_append_left (by omega)] at key ⊢
      exact key
    · rw [List.getElem?_append_right (by omega), List.getElem?_append_right (by omega), hl] at key ⊢
      cases hm : l - M.length with
      | zero =>
        simp only [List.getElem?_cons_zero]
        by_cases e2 : d = k
        · subst e2; simp only [lookT, lookB, if_true]; exact ⟨c', rfl, hc⟩
        · simp only [lookT, lookB, if_neg e2]; exact hkey k
      | succ n => simp [RB]
  · simp only [List.mem_append, List.mem_singleton] at hq
    rcases hq with hq | rfl
    · exact h.nd q (by simp [hq])
    · simp only [List.map_cons, List.nodup_cons]
      refine ⟨fun hm => ?_, h.nd b' (by simp)⟩
      obtain ⟨⟨k, c0⟩, hk, rfl⟩ := List.mem_map.1 hm
      have h1 := lookB_mem (h.nd b' (by simp)) hk
      have h2 := hkey k
      simp only at hd
      rw [hd] at h2
      simp only [RB] at h2
      rw [h2] at h1; cases h1
theorem lookT_none {st : TSt} {s : St} (hs : Rst st s) {d : Nat} (h : lookT st.B d = none) : lookB s.B d = none := by
  have := hs.M.rel st.L.length d
  unfold lookM lookV at this
  have e1 : st.all[st.L.length]? = some st.B := by simp [TSt.all]
  have e2 : (allV s)[st.L.length]? = some s.B := by rw [← hs.len]; simp [allV]
  rw [e1, e2] at this
  simp only at this
  rw [h] at this
  exact this

/-- a new box -/
theorem push_ok {st : TSt} {s : St} (hs : Rst st s) {d : Nat} {c : List TV} {c' : List V} (hd : lookT st.B d = none) (hc : RVL c c') :
    Rst { st with B := (d, some c) :: st.B, Wb := ⟨st.L.length, d⟩ :: st.Wb } { s with B := (d, c') :: s.B } ∧ Fr2 st { st with B := (d, some c) :: st.B, Wb := ⟨st.L.length, d⟩ :: st.Wb } s { s with B := (d, c') :: s.B } := by
  refine ⟨⟨hs.E, LR.push hs.M hs.len hd hc⟩, ⟨fun t ht => ht, fun r hr => by simp [hr], fun t ht => .inl rfl, fun t ht rs hE => ⟨rs, hE⟩, fun r hr => .inl ?_, fun r hr hsm => ?_, rfl, rfl⟩⟩
  case refine_2 =>
    simp only [List.mem_cons, not_or] at hr
    obtain ⟨l, sl⟩ := r
    unfold TSt.box at hsm ⊢
    simp only at hsm ⊢
    by_cases e : l = st.L.length
    · rw [if_pos e] at hsm ⊢
      have : d ≠ sl := fun e2 => hr.1 (by rw [e2, e])
      simp only [lookT, if_neg this]
      exact hsm
    · rw [if_neg e] at hsm ⊢
      exact hsm
  simp only [List.mem_cons, not_or] at hr
  obtain ⟨l, sl⟩ := r
  rw [look_box, look_box]
  unfold lookV allV
  simp only
  have hlen := hs.len
  by_cases e : l < s.L.length
  · rw [List.getElem?_append_left e, List.getElem?_append_left e]
  · rw [List.getElem?_append_right (by omega), List.getElem?_append_right (by omega)]
    cases hm : l - s.L.length with
    | zero =>
      simp only [List.getElem?_cons_zero, lookB]
      have : d ≠ sl := fun e2 => hr.1 (by rw [e2]; congr 1; omega)
      rw [if_neg this]
    | succ n => simp

theorem rvl_one {x : TV} {ys : List V} (h : RVL [x] ys) : ∃ v, ys = [v] ∧ RV x v := by
  simp only [RVL] at h; obtain ⟨v, m, rfl, h1, rfl⟩ := h; exact ⟨v, rfl, h1⟩

theorem tsetBox_E (st : TSt) (r : Root) (c : List TV) : (st.setBox r c).E = st.E ∧ (st.setBox r c).Wt = st.Wt ∧ (st.setBox r c).Wb = r :: st.Wb ∧ (st.setBox r c).L.length = st.L.length := by
  unfold TSt.setBox; split <;> simp
theorem setBox_E (s : St) (r : Root) (c : List V) : (s.setBox r c).E = s.E ∧ (s.setBox r c).L.length = s.L.length := by
  unfold St.setBox; split <;> simp
theorem setBox_ok {st : TSt} {s : St} (hs : Rst st s) {r : Root} {c0 c : List TV} {c' : List V} (hb : st.box r = some c0) (hc : RVL c c') : Rst (st.setBox r c) (s.setBox r c') ∧ Fr2 st (st.setBox r c) s (s.setBox r c') := by
  obtain ⟨e1, e2, e3, e4⟩ := tsetBox_E st r c
  obtain ⟨e5, e6⟩ := setBox_E s r c'
  refine ⟨⟨by rw [e1, e5]; exact hs.E, ?_⟩, ⟨fun t ht => by rw [e2]; exact ht, fun q hq => by rw [e3]; simp [hq], fun t ht => .inl (by rw [e5]), fun t ht rs hE => ⟨rs, by rw [← e1]; exact hE⟩, fun q hq => .inl ?_, fun q hq hsm => tsetBox_some st r c q hsm, e6, by rw [e5]⟩⟩
  · rw [tsetBox_all, setBox_all]
    exact LR.setBox hs.M _ _ (by rw [box_some hb]; simp) hc
  · rw [e3] at hq
    simp only [List.mem_cons, not_or] at hq
    rw [box_setBox, if_neg hq.1]

theorem dfltMT_ok {o : Oper} {xs : List TV} {ys : List V} {st : TSt} {s : St} {R : Type} {k : TV → TSt → Fp → Option R} {r : R} (hx : RVL xs ys) (hs : Rst st s) (h : dfltMT P H f o xs st R k = some r) :
    ∃ v st' fp u s', k v st' fp = some r ∧ dfltM P H f o ys s = some (u, s', fp) ∧ RV v u ∧ Rst st' s' ∧ Fr2 st st' s s' ∧ st'.E = st.E ∧ s'.E = s.E := by
  unfold dfltMT at h
  split at h
  · rename_i hr
    obtain ⟨z, c, u, c', hk, hsem, hrv, hbo⟩ := topSem_ok (ty := o.type) (bx := none) (bx' := none) hx True.intro h
    split at hk
    · have hc' : c' = none := hbo
      subst hc'
      have hr' : rootOf o.op ys = none := by
        cases ho : o.op <;> try rfl
        case load t a =>
          rw [ho] at h hr
          match xs, hx, h, hr with
          | [], hx, h, hr => simp [topSem] at h
          | [x], hx, h, hr =>
            obtain ⟨v, rfl, hv⟩ := rvl_one hx
            cases x <;> simp only [topSem] at h <;> try (cases h; done)
            simp only [RV] at hv; obtain ⟨l', rfl, _⟩ := hv; rfl
          | x :: y :: xs, hx, h, hr =>
            cases x <;> simp [topSem] at h
        case store t a b =>
          rw [ho] at h hr
          match xs, hx, h, hr with
          | [], hx, h, hr => simp [topSem] at h
          | [x], hx, h, hr => cases x <;> simp [topSem] at h
          | [x, y], hx, h, hr =>
            cases x <;> simp only [topSem] at h <;> try (cases h; done)
          | x :: y :: z :: xs, hx, h, hr => cases x <;> simp [topSem] at h
      refine ⟨z, st, .none, u, s, hk, ?_, hrv, hs, Fr2.refl _ _, rfl, rfl⟩
      unfold dfltM
      rw [hr']
      simp only [hsem]
    · cases hk
  · rename_i q hr
    obtain ⟨z, c, u, c', hk, hsem, hrv, hbo⟩ := topSem_ok (ty := o.type) hx (hs.bx q) h
    have hshape : rootOf o.op ys = some q ∧ rangeOf P o.op ys = rangeOfT P o.op xs ∧ (∀ p ∈ wptrs o.op ys, p ∈ wptrsT o.op xs) ∧ (∀ d, c = some d → ∃ c0, st.box q = some c0) := by
      cases ho : o.op <;> rw [ho] at hr <;> try (simp [rootOfT] at hr; done)
      case load t a =>
        rw [ho] at h
        match xs, hx, h, hr with
        | [], hx, h, hr => simp [topSem] at h
        | [x], hx, h, hr =>
          obtain ⟨v, rfl, hv⟩ := rvl_one hx
          cases x <;> simp only [rootOfT] at hr <;> try (cases hr; done)
          cases hr
          simp only [RV] at hv; subst hv
          refine ⟨rfl, rfl, fun p hp => by simp [wptrs] at hp, fun d _ => ?_⟩
          simp only [topSem] at h
          split at h
          · rename_i cs hcs; exact ⟨cs, hcs⟩
          · cases h
        | x :: y :: xs, hx, h, hr => cases x <;> simp [topSem] at h
      case store t a b =>
        rw [ho] at h
        match xs, hx, h, hr with
        | [], hx, h, hr => simp [topSem] at h
        | [x], hx, h, hr => cases x <;> simp [topSem] at h
        | [x, y], hx, h, hr =>
          cases x <;> simp only [rootOfT] at hr <;> try (cases hr; done)
          cases hr
          simp only [RVL] at hx
          obtain ⟨v, m, rfl, hv, v2, m2, rfl, hv2, rfl⟩ := hx
          simp only [RV] at hv; subst hv
          simp only [topSem] at h
          split at h
          · rename_i cs hcs
            split at h
            · rename_i hcond
              obtain ⟨hcells, _⟩ := RV.cells hcond.2.2.2 hv2
              refine ⟨rfl, ?_, fun p hp => ?_, fun d _ => ⟨cs, hcs⟩⟩
              · simp only [rangeOf, rangeOfT, hcells.length]
              · simp only [wptrs] at hp
                simp only [wptrsT]
                exact RV.ptrs _ _ hv2 p hp
            · cases h
          · cases h
        | x :: y :: z :: xs, hx, h, hr => cases x <;> simp [topSem] at h
    obtain ⟨hroot, hrange, hwp, hbx⟩ := hshape
    split at hk
    · have hc' : c' = none := hbo
      subst hc'
      refine ⟨z, st, _, u, s, hk, ?_, hrv, hs, Fr2.refl _ _, rfl, rfl⟩
      unfold dfltM
      rw [hroot]
      simp only [hsem, hrange]
    · rename_i d
      obtain ⟨d', rfl, hd⟩ := hbo
      split at hk
      · rename_i hcond
        obtain ⟨c0, hc0⟩ := hbx d rfl
        obtain ⟨hR, hF⟩ := setBox_ok hs hc0 hd
        refine ⟨z, _, _, u, s.setBox q d', hk, ?_, hrv, hR, hF, (tsetBox_E st q d).1, (setBox_E s q d').1⟩
        unfold dfltM
        rw [hroot]
        simp only [hsem, hrange]
        rw [if_pos]
        simp only [Bool.and_eq_true, List.all_eq_true, decide_eq_true_eq] at hcond ⊢
        exact ⟨fun p hp => hcond.1 p (hwp p hp), by rw [hd.length]; exact hcond.2⟩
      · cases hk
end Go.Tx
