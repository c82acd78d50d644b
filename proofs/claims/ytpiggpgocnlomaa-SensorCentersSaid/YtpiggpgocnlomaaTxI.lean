/-
  FUNCTIONS: what the typed interpreter computes of a function is what its call gives in the model.
-/
import Derived.Test.YtpiggpgocnlomaaTxH
set_option linter.unusedVariables false
namespace Go.Tx
open Go Go.Ab
variable {P : Program} {H : Hints} {J : TH} {T : CallT} {O : TOrc} {lib : FuncId → Option (List V → Option V)} {f : FuncId} {ctx : List Tmp}

theorem allSomeT_ok {st : TSt} {s : St} (hs : Rst st s) : ∀ (l : List ResultVar) (rs : List TV), allSomeT (l.map (resultT P st)) = some rs → ∃ rs', allSome (l.map (resultOf P s)) = some rs' ∧ RVL rs rs'
  | [], rs, h => by simp only [List.map_nil, allSomeT, Option.some.injEq] at h; subst h; exact ⟨[], rfl, rvl_nil⟩
  | v :: l, rs, h => by
    simp only [List.map_cons] at h
    cases h1 : resultT P st v with
    | none => rw [h1] at h; simp [allSomeT] at h
    | some x =>
      rw [h1] at h
      simp only [allSomeT] at h
      obtain ⟨rs0, h2, rfl⟩ := Option.map_eq_some_iff.1 h
      obtain ⟨rs', h3, hr⟩ := allSomeT_ok hs l rs0 h2
      have : ∃ u, resultOf P s v = some u ∧ RV x u := by
        cases v with
        | tmp t =>
          simp only [resultT, Option.some.injEq] at h1
          subst h1
          exact ⟨_, rfl, getE hs.E t⟩
        | cell a t =>
          simp only [resultT] at h1
          split at h1
          · rename_i r off hE
            have hg := getE hs.E a
            rw [hE] at hg
            simp only [RV] at hg
            split at h1
            · rename_i cs hcs
              obtain ⟨cs', hcs', hc⟩ := hs.box hcs
              obtain ⟨u, hu, hr⟩ := ofCellsT_ok h1 (hc.drop off)
              refine ⟨u, ?_, hr⟩
              simp only [resultOf, hg, hcs', rvl_notLp hc, Bool.false_eq_true, if_false, hu]
            · cases h1
          · cases h1
      obtain ⟨u, hu, hru⟩ := this
      refine ⟨u :: rs', ?_, rvl_cons.2 ⟨hru, hr⟩⟩
      simp only [List.map_cons, hu, allSome, h3, Option.map_some]
theorem allKeys_ok {st : TSt} {s : St} (hs : Rst st s) : ∀ (l : List ResultVar) (ks : List (Bool × Nat × Nat)), allKeys (l.map (resultKeyT st)) = some ks → l.map (resultKey s) = ks
  | [], ks, h => by simp only [List.map_nil, allKeys, Option.some.injEq] at h; subst h; rfl
  | v :: l, ks, h => by
    simp only [List.map_cons] at h
    cases h1 : resultKeyT st v with
    | none => rw [h1] at h; simp [allKeys] at h
    | some x =>
      rw [h1] at h
      simp only [allKeys] at h
      obtain ⟨ks0, h2, rfl⟩ := Option.map_eq_some_iff.1 h
      have : resultKey s v = x := by
        cases v with
        | tmp t => simp only [resultKeyT, Option.some.injEq] at h1; subst h1; rfl
        | cell a t =>
          simp only [resultKeyT] at h1
          split at h1
          · rename_i r off hE
            have hg := getE hs.E a
            rw [hE] at hg
            simp only [RV] at hg
            cases h1
            simp only [resultKey, hg]
          · cases h1
      simp only [List.map_cons, this, allKeys_ok hs l ks0 h2]

theorem rv_packed : ∀ {rs : List TV} {rs' : List V}, RVL rs rs' → RV (packedT rs) (packed rs')
  | [], rs', h => by simp only [RVL] at h; subst h; simp [packedT, packed, RV, RVL]
  | [x], rs', h => by obtain ⟨v, rfl, hv⟩ := rvl_one h; exact hv
  | x :: y :: rs, rs', h => by
    have h0 := h
    simp only [RVL] at h
    obtain ⟨v, m, rfl, _, v2, m2, rfl, _, _⟩ := h
    simp only [packedT, packed, RV]
    exact ⟨_, rfl, h0⟩

theorem LR.init {M : List TLevel} {M' : List Level} (h : LR M M') : LR (M ++ [[]]) (M' ++ [[]]) where
  len := by simp [h.len]
  rel := fun l s => by
    have key := h.rel l s
    unfold lookM lookV at key ⊢
    have hl := h.len
    by_cases e : l < M.length
    · rw [List.getElem?_append_left e, List.getElem?_append_left (by omega)]; exact key
    · rw [List.getElem?_append_right (by omega), List.getElem?_append_right (by omega), hl]
      cases l - M.length with
      | zero => simp [lookT, lookB, RB]
      | succ n => simp [RB]
  nd := fun b hb => by
    simp only [List.mem_append, List.mem_singleton] at hb
    rcases hb with hb | rfl
    · exact h.nd b hb
    · simp
theorem LR.front {M : List TLevel} {M' : List Level} {b : TLevel} {b' : Level} (h : LR (M ++ [b]) (M' ++ [b'])) : LR M M' where
  len := by have := h.len; simp at this; exact this
  rel := fun l s => by
    have hl : M'.length = M.length := by have := h.len; simp at this; exact this
    have key := h.rel l s
    unfold lookM lookV at key ⊢
    by_cases e : l < M.length
    · rw [List.getElem?_append_left e, List.getElem?_append_left (by omega)] at key; exact key
    · rw [List.getElem?_eq_none (by omega), List.getElem?_eq_none (by omega)]; rfl
  nd := fun c hc => h.nd c (by simp [hc])

theorem runT_ok (hT : TOk P H lib T) (hO : OOk P H lib O) {args : List TV} {M : List TLevel} {R : Type} {k : TV → List TLevel → List Root → Option R} {r : R} {vs : List V} {M' : List Level}
    (h : runT P H J T O ctx f args M R k = some r) (ha : RVL args vs) (hM : LR M M') :
    ∃ x N wb v N', k x N wb = some r ∧ RV x v ∧ LR N N' ∧ N.length = M.length ∧ (∀ l sl, (⟨l, sl⟩ : Root) ∉ wb → lookV N' l sl = lookV M' l sl ∧ ∀ c, lookM M l sl = some (some c) → ∃ c', lookM N l sl = some (some c')) ∧ J.lib f = false ∧ Ev (fun C => runF P H C f vs M' = some (v, N')) P H lib := by
  unfold runT at h
  split at h
  · cases h
  · rename_i hlib
    split at h
    · rename_i fn hfn
      split at h
      · rename_i c hbody
        have hE : RVL (Env.ofArgs args fn.ntmps).toL (vs ++ List.replicate (fn.ntmps - vs.length) .undef) := by
          rw [toL_ofArgs, ha.length]; exact ha.append (RVL.replicate (rv_undef []) _)
        have h0 : Rst { E := Env.ofArgs args fn.ntmps, L := M, B := [], Wt := .empty, Wb := [] } { E := vs ++ List.replicate (fn.ntmps - vs.length) .undef, L := M', B := [] } := ⟨hE, hM.init⟩
        have hsnd : Snd (fun st R k => tx P H J T O ctx f 0 c st R fun e st => match e with
          | .normal => k .normal st
          | .ret => k .normal st
          | _ => none) (fun s e s' => e = .normal ∧ Ev (fun C => ∃ e, (e = .normal ∨ e = .ret) ∧ ex P H C f 0 c s = some (e, s')) P H lib) := by
          intro st R k r s h hs
          obtain ⟨e, st1, s1, hev, hR, hF, hk⟩ := tx_ok hT hO c 0 st _ _ r s h hs
          cases e with
          | normal => exact ⟨.normal, st1, s1, ⟨rfl, hev.imp fun C hC => ⟨.normal, .inl rfl, hC⟩⟩, hR, hF, hk⟩
          | ret => exact ⟨.normal, st1, s1, ⟨rfl, hev.imp fun C hC => ⟨.ret, .inr rfl, hC⟩⟩, hR, hF, hk⟩
          | exit id => cases hk
        obtain ⟨e, st1, s1, ⟨_, hev⟩, hR, hF, hk⟩ := joinT_ok hsnd _ _ _ _ _ _ h h0
        split at hk
        · rename_i rs ks hrs hks
          split at hk
          · rename_i hc
            simp only [Bool.and_eq_true] at hc
            obtain ⟨⟨hkn, hpt⟩, hko⟩ := hc
            obtain ⟨rs', hrs', hrr⟩ := allSomeT_ok hR _ _ hrs
            have hkeys := allKeys_ok hR _ _ hks
            have hpeq := RVL.ptrs_eq _ _ hkn hrr
            have hlen := hR.len
            have hlen2 := hF.len
            have hML := hM.len
            simp only at hlen2
            refine ⟨_, _, _, packed (if M'.isEmpty && !ownsL rs' then reflagL flSettle rs' else rs'), s1.L, hk, ?_, hR.M.front, by omega, fun l sl hl => ?_, by simpa using hlib, hev.imp ?_⟩
            · split
              · exact rv_packed (RVL.keep flSettle_own rfl _ _ hrr)
              · exact rv_packed hrr
            · refine ⟨?_, fun c hc => ?_⟩
              · by_cases e : l < s1.L.length
                · rcases hF.b ⟨l, sl⟩ hl with this | ⟨h9, _⟩
                  · rw [look_box, look_box] at this
                    unfold lookV allV at this
                    simp only at this
                    unfold lookV
                    rw [List.getElem?_append_left e, List.getElem?_append_left (by omega)] at this
                    exact this
                  · simp only at h9; omega
                · unfold lookV
                  rw [List.getElem?_eq_none (by omega), List.getElem?_eq_none (by omega)]
              · have hlt : l < M.length := by
                  unfold lookM at hc
                  cases hM0 : M[l]? with
                  | none => rw [hM0] at hc; cases hc
                  | some b => exact (List.getElem?_eq_some_iff.1 hM0).1
                have hbx : (({ E := Env.ofArgs args fn.ntmps, L := M, B := [], Wt := .empty, Wb := [] } : TSt).box ⟨l, sl⟩).isSome = true := by
                  rw [tlook_box]
                  unfold lookM TSt.all
                  simp only
                  rw [List.getElem?_append_left hlt]
                  unfold lookM at hc
                  rw [hc]; rfl
                obtain ⟨c', hc'⟩ := Option.isSome_iff_exists.1 (hF.bn ⟨l, sl⟩ hl hbx)
                have h10 := box_some hc'
                refine ⟨c', ?_⟩
                unfold lookM TSt.all at h10
                simp only at h10
                rw [List.getElem?_append_left (by omega)] at h10
                exact h10
            · rintro C ⟨e, he, hC⟩
              unfold runF
              simp only [hfn, hbody, hC]
              rw [if_pos he, hrs']
              simp only
              rw [if_pos]
              simp only [hpeq, hkeys, Bool.and_eq_true]
              rw [hML]
              exact ⟨hpt, hko⟩
          · cases hk
        · cases hk
      · cases h
    · cases h

theorem torcN_ok (hT : TOk P H lib T) (hJ : ∀ g, J.lib g = false → lib g = none) : ∀ n, OOk P H lib (torcN P H J T n)
  | 0 => ⟨fun ctx g args M R k r vs M' h => by simp [torcN] at h, fun ctx f bid c st R k r s h => by simp [torcN] at h⟩
  | n + 1 => by
    have ih := torcN_ok hT hJ n
    refine ⟨fun ctx g args M R k r vs M' h ha hM => ?_, fun ctx f bid c st R k r s h hs => ?_⟩
    · simp only [torcN] at h
      obtain ⟨x, N, wb, v, N', hk, hr, hN, hlen, hfr, hl, hev⟩ := runT_ok hT ih h ha hM
      refine ⟨x, N, wb, v, N', hk, hr, hN, hlen, hfr, ?_⟩
      obtain ⟨n1, h1⟩ := hev
      refine ⟨n1 + 1, fun m hm => ?_⟩
      obtain ⟨m', rfl⟩ : ∃ m', m = m' + 1 := ⟨m - 1, by omega⟩
      have := h1 m' (by omega)
      simp only [orcN, hJ g hl]
      exact this
    · simp only [torcN] at h
      obtain ⟨e, st', s', hev, hR, hF, hk⟩ := tx_ok hT ih c bid st _ _ r s h hs
      refine ⟨e, st', s', ?_, hR, hF, hk⟩
      obtain ⟨n1, h1⟩ := hev
      refine ⟨n1 + 1, fun m hm => ?_⟩
      obtain ⟨m', rfl⟩ : ∃ m', m = m' + 1 := ⟨m - 1, by omega⟩
      exact h1 m' (by omega)

/-! ### the table -/
def EntryOk (P : Program) (H : Hints) (lib : FuncId → Option (List V → Option V)) (e : Entry) : Prop :=
  ∀ x y, e.F x = some y → ∀ vs, RVL (ofPms e.ps x) vs → ∃ v, CallEv P H lib e.g vs [] v [] ∧ RV (packT e.rs y) v

theorem asTys_ok : ∀ (cs : List Ty) (l : List TV) (x : denL cs) (l' : List V), asTys cs l = some x → RVL l l' → RVL (ofTys cs x) l'
  | [], l, x, l', h, hr => by
    cases l with
    | nil => simpa [ofTys] using hr
    | cons => simp [asTys] at h
  | [τ], l, x, l', h, hr => by
    match l, h, hr with
    | [v], h, hr =>
      obtain ⟨u, rfl, h1⟩ := rvl_one hr
      exact rvl_cons.2 ⟨rv_ofTy _ _ _ _ (asTy_ok _ _ _ _ _ h h1), rvl_nil⟩
    | [], h, hr => simp [asTys] at h
    | _ :: _ :: _, h, hr => simp [asTys] at h
  | τ :: q :: ps, l, x, l', h, hr => by
    match l, h, hr with
    | [], h, hr => simp [asTys] at h
    | v :: l, h, hr =>
      simp only [asTys] at h
      obtain ⟨y, hy, h⟩ := Option.bind_eq_some_iff.1 h
      obtain ⟨z, hz, h⟩ := Option.bind_eq_some_iff.1 h
      simp only [Option.some.injEq] at h
      subst h
      simp only [RVL] at hr
      obtain ⟨u, m, rfl, h1, h2⟩ := hr
      exact rvl_cons.2 ⟨rv_ofTy _ _ _ _ (asTy_ok _ _ _ _ _ hy h1), asTys_ok (q :: ps) l _ _ hz h2⟩
theorem asPm_ok {p : Pm} {w : TV} {x : p.den} {v : V} (h : asPm p w = some x) (hr : RV w v) : RV (ofPm p x) v := by
  unfold asPm at h
  split at h
  · exact rv_ofTy _ _ _ _ (asTy_ok _ _ _ _ _ h hr)
  · rename_i g cs g' cap
    split at h
    · rename_i hg
      subst hg
      simp only [RV] at hr
      obtain ⟨a', b', rfl, ha, hb⟩ := hr
      simp only [RVL] at ha
      subst ha
      simp only [ofPm, RV]
      exact ⟨[], b', rfl, rvl_nil, asTys_ok _ _ _ _ h hb⟩
    · cases h
  · cases h
theorem asPms_ok : ∀ (ps : List Pm) (l : List TV) (x : denP ps) (l' : List V), asPms ps l = some x → RVL l l' → RVL (ofPms ps x) l'
  | [], l, x, l', h, hr => by
    cases l with
    | nil => simpa [ofPms] using hr
    | cons => simp [asPms] at h
  | [p], l, x, l', h, hr => by
    match l, h, hr with
    | [v], h, hr =>
      obtain ⟨u, rfl, h1⟩ := rvl_one hr
      exact rvl_cons.2 ⟨asPm_ok h h1, rvl_nil⟩
    | [], h, hr => simp [asPms] at h
    | _ :: _ :: _, h, hr => simp [asPms] at h
  | p :: q :: ps, l, x, l', h, hr => by
    match l, h, hr with
    | [], h, hr => simp [asPms] at h
    | v :: l, h, hr =>
      simp only [asPms] at h
      obtain ⟨y, hy, h⟩ := Option.bind_eq_some_iff.1 h
      obtain ⟨z, hz, h⟩ := Option.bind_eq_some_iff.1 h
      simp only [Option.some.injEq] at h
      subst h
      simp only [RVL] at hr
      obtain ⟨u, m, rfl, h1, h2⟩ := hr
      exact rvl_cons.2 ⟨asPm_ok hy h1, asPms_ok (q :: ps) l _ _ hz h2⟩

theorem tab_ok : ∀ {l : List Entry}, (∀ e ∈ l, EntryOk P H lib e) → TOk P H lib (tabT l)
  | [], _ => fun g args R k r vs h => by simp [tabT] at h
  | e :: l, he => fun g args R k r vs h ha => by
    have ih := tab_ok (l := l) fun e' h' => he e' (by simp [h'])
    simp only [tabT] at h
    split at h
    · rename_i hg
      subst hg
      split at h
      · rename_i x hx
        obtain ⟨y, hy, hk⟩ := Option.bind_eq_some_iff.1 h
        obtain ⟨v, hev, hr⟩ := he e (by simp) x y hy vs (asPms_ok _ _ _ _ hx ha)
        exact ⟨_, v, hk, hr, hev⟩
      · exact ih _ _ _ _ _ _ h ha
    · exact ih _ _ _ _ _ _ h ha

theorem tab_nil : TOk P H lib (tabT []) := tab_ok (by simp)
theorem tab_cons {e : Entry} {l : List Entry} (h : EntryOk P H lib e) (h' : TOk P H lib (tabT l)) : TOk P H lib (tabT (e :: l)) := fun g args R k r vs hh ha => by
  simp only [tabT] at hh
  split at hh
  · rename_i hg
    subst hg
    split at hh
    · rename_i x hx
      obtain ⟨y, hy, hk⟩ := Option.bind_eq_some_iff.1 hh
      obtain ⟨v, hev, hr⟩ := h x y hy vs (asPms_ok _ _ _ _ hx ha)
      exact ⟨_, v, hk, hr, hev⟩
    · exact h' _ _ _ _ _ _ hh ha
  · exact h' _ _ _ _ _ _ hh ha

theorem asRes_ok {rs : List (Ty × Nat)} {x : TV} {y : denL (rs.map (·.1))} {v : V} (h : asRes rs x = some y) (hr : RV x v) : RV (packT rs y) v := by
  match rs, y, h with
  | [p], y, h =>
    simp only [asRes] at h
    have := asL_ok [p] [x] y [v] h (rvl_cons.2 ⟨hr, rvl_nil⟩)
    simp only [packT]
    obtain ⟨τ, o⟩ := p
    simp only [ofL] at this ⊢
    exact (rvl_cons.1 this).1
  | [], y, h =>
    cases x <;> simp only [asRes] at h <;> try (cases h; done)
    rename_i l _
    simp only [RV] at hr
    obtain ⟨l', rfl, hl⟩ := hr
    have := asL_ok [] l y l' h hl
    simp only [packT, ofL, packedT, RV]
    exact ⟨l', rfl, this⟩
  | p :: q :: rs, y, h =>
    cases x <;> simp only [asRes] at h <;> try (cases h; done)
    rename_i l _
    simp only [RV] at hr
    obtain ⟨l', rfl, hl⟩ := hr
    have := asL_ok (p :: q :: rs) l y l' h hl
    have hpk : ∀ m : List TV, 2 ≤ m.length → packedT m = .tuple m := fun m hm => by
      match m, hm with
      | _ :: _ :: _, _ => rfl
    simp only [packT]
    rw [hpk _ (by rw [asL_length _ _ _ h]; have := asL_length _ _ _ h; obtain ⟨τ, o⟩ := p; cases rs <;> simp [ofL] at this <;> omega)]
    simp only [RV]
    exact ⟨l', rfl, this⟩

/-- A FUNCTION IS KNOWN: by one equation that the kernel checks -/
theorem entry_ok (hT : TOk P H lib T) (hJ : ∀ g, J.lib g = false → lib g = none) (n : Nat) (g : FuncId) (ps : List Pm) (rs : List (Ty × Nat)) (F : denP ps → Option (denL (rs.map (·.1))))
    (h : ∀ x, fnT P H J T n g (ofPms ps x) rs = F x) : EntryOk P H lib ⟨g, ps, rs, F⟩ := by
  intro x y hy vs hvs
  simp only at hy hvs
  rw [← h x] at hy
  unfold fnT at hy
  obtain ⟨w, N, wb, v, N', hk, hr, hN, hlen, _, hev⟩ := (torcN_ok hT hJ n).call _ _ _ _ _ _ _ _ [] hy hvs ⟨rfl, fun l s => by simp [lookM, lookV, RB], by simp⟩
  have hN0 : N = [] := List.eq_nil_of_length_eq_zero (by rw [hlen]; rfl)
  subst hN0
  have hN0' : N' = [] := List.eq_nil_of_length_eq_zero (by rw [hN.len]; rfl)
  subst hN0'
  exact ⟨v, hev, asRes_ok hk hr⟩

/-- IN THE MODEL -/
theorem entry_call (hm : P.follows .mixedOrders = true) (hname : ∀ (g : FuncId) (fn : Func), P.funcs[g]? = some fn → fn.body.isSome = true → (fn.name == "runtime.NumGoroutine") = false)
    (hlib : ∀ g h args r, lib g = some h → h args = some r → CallOk P g args [] r []) {e : Entry} (he : EntryOk P H lib e) {x : denP e.ps} {y : denL (e.rs.map (·.1))} (h : e.F x = some y) {vs : List V} (hv : RVL (ofPms e.ps x) vs) :
    ∃ v, CallOk P e.g vs [] v [] ∧ RV (packT e.rs y) v := by
  obtain ⟨v, ⟨n, hev⟩, hr⟩ := he x y h vs hv
  exact ⟨v, (orcN_ok hm hname hlib n).call _ _ _ _ _ (hev n (Nat.le_refl _)), hr⟩
end Go.Tx
