/-
  STATES: what a typed state says of an abstract one; joins; the clearing at a loop's head.
-/
import Derived.Test.YtpiggpgocnlomaaTxE1
set_option linter.unusedVariables false
namespace Go.Tx
open Go Go.Ab
variable {P : Program} {H : Hints} {f : FuncId}

def lookM (M : List TLevel) (l s : Nat) : Option (Option (List TV)) := match M[l]? with
  | some b => lookT b s
  | none => none
def lookV (M : List Level) (l s : Nat) : Option (List V) := match M[l]? with
  | some b => lookB b s
  | none => none
/-- a box, known or not -/
def RB : Option (Option (List TV)) → Option (List V) → Prop
  | none, b => b = none
  | some none, b => ∀ c, b = some c → isLp c = false
  | some (some c), b => ∃ c', b = some c' ∧ RVL c c'
structure LR (M : List TLevel) (M' : List Level) : Prop where
  len : M'.length = M.length
  rel : ∀ l s, RB (lookM M l s) (lookV M' l s)
  nd : ∀ b ∈ M', (b.map (·.1)).Nodup
def TSt.all (st : TSt) : List TLevel := st.L ++ [st.B]
def allV (s : St) : List Level := s.L ++ [s.B]
structure Rst (st : TSt) (s : St) : Prop where
  E : RVL st.E.toL s.E
  M : LR st.all (allV s)

theorem Rst.len {st : TSt} {s : St} (h : Rst st s) : s.L.length = st.L.length := by
  have := h.M.len; simp [TSt.all, allV] at this; exact this
theorem look_box {s : St} (r : Root) : s.box r = lookV (allV s) r.lvl r.slot := by
  obtain ⟨l, sl⟩ := r
  unfold St.box lookV allV
  by_cases h : l = s.L.length
  · subst h; simp
  · rw [if_neg h]
    by_cases hlt : l < s.L.length
    · simp only [List.getElem?_append_left hlt]; rfl
    · have h1 : s.L[l]? = none := by simp; omega
      have h2 : (s.L ++ [s.B])[l]? = none := by simp; omega
      simp only [h1, h2]
theorem tlook_box {st : TSt} (r : Root) : st.box r = match lookM st.all r.lvl r.slot with
    | some (some c) => some c
    | _ => none := by
  obtain ⟨l, sl⟩ := r
  unfold TSt.box lookM TSt.all
  by_cases h : l = st.L.length
  · subst h; simp; rfl
  · rw [if_neg h]
    by_cases hlt : l < st.L.length
    · simp only [List.getElem?_append_left hlt]; rfl
    · have h1 : st.L[l]? = none := by simp; omega
      have h2 : (st.L ++ [st.B])[l]? = none := by simp; omega
      simp only [h1, h2]
theorem box_some {st : TSt} {r : Root} {c : List TV} (h : st.box r = some c) : lookM st.all r.lvl r.slot = some (some c) := by
  rw [tlook_box] at h
  split at h
  · rename_i c' hc; cases h; exact hc
  · cases h
theorem Rst.box {st : TSt} {s : St} (h : Rst st s) {r : Root} {c : List TV} (hc : st.box r = some c) : ∃ c', s.box r = some c' ∧ RVL c c' := by
  have := h.M.rel r.lvl r.slot
  rw [box_some hc] at this
  rw [look_box]; exact this
theorem Rst.bx {st : TSt} {s : St} (h : Rst st s) (r : Root) : BxR (st.box r) (s.box r) := by
  cases hc : st.box r with
  | none => trivial
  | some c => exact h.box hc

theorem lookT_setT (b : TLevel) (s s' : Nat) (c : Option (List TV)) : lookT (setT b s c) s' = if s' = s then (lookT b s).map (fun _ => c) else lookT b s' := by
  induction b with
  | nil => simp [setT, lookT]
  | cons p b ih =>
    obtain ⟨k, d⟩ := p
    by_cases h : k = s
    · subst h
      by_cases h2 : k = s'
      · subst h2; simp [setT, lookT]
      · simp [setT, lookT, h2, Ne.symm h2]
    · by_cases h2 : k = s'
      · subst h2; simp [setT, lookT, h]
      · simp [setT, lookT, h, h2, ih]
theorem lookB_setB (b : Level) (s s' : Nat) (c : List V) : lookB (setB b s c) s' = if s' = s then (lookB b s).map (fun _ => c) else lookB b s' := by
  induction b with
  | nil => simp [setB, lookB]
  | cons p b ih =>
    obtain ⟨k, d⟩ := p
    by_cases h : k = s
    · subst h
      by_cases h2 : k = s'
      · subst h2; simp [setB, lookB]
      · simp [setB, lookB, h2, Ne.symm h2]
    · by_cases h2 : k = s'
      · subst h2; simp [setB, lookB, h]
      · simp [setB, lookB, h, h2, ih]
theorem keys_setB (b : Level) (s : Nat) (c : List V) : (setB b s c).map (·.1) = b.map (·.1) := by
  induction b with
  | nil => rfl
  | cons p b ih =>
    obtain ⟨k, d⟩ := p
    by_cases h : k = s <;> simp [setB, h, ih]

theorem lookM_modify (M : List TLevel) (l : Nat) (g : TLevel → TLevel) (l' s : Nat) : lookM (M.modify l g) l' s = if l' = l then (match M[l]? with | some b => lookT (g b) s | none => none) else lookM M l' s := by
  unfold lookM
  rw [List.getElem?_modify]
  by_cases h : l' = l
  · subst h
    rw [if_pos rfl]
    cases M[l']? with
    | none => rfl
    | some b => simp
  · rw [if_neg h]
    cases M[l']? with
    | none => rfl
    | some b => simp [Ne.symm h]
theorem lookV_modify (M : List Level) (l : Nat) (g : Level → Level) (l' s : Nat) : lookV (M.modify l g) l' s = if l' = l then (match M[l]? with | some b => lookB (g b) s | none => none) else lookV M l' s := by
  unfold lookV
  rw [List.getElem?_modify]
  by_cases h : l' = l
  · subst h
    rw [if_pos rfl]
    cases M[l']? with
    | none => rfl
    | some b => simp
  · rw [if_neg h]
    cases M[l']? with
    | none => rfl
    | some b => simp [Ne.symm h]
theorem modify_last {α : Type} (g : α → α) (b : α) : ∀ L : List α, (L ++ [b]).modify L.length g = L ++ [g b]
  | [] => rfl
  | x :: L => by simp [modify_last g b L]
theorem modify_left {α : Type} (g : α → α) (b : α) : ∀ (L : List α) {l : Nat}, l ≠ L.length → (L ++ [b]).modify l g = L.modify l g ++ [b]
  | [], l, h => by
    cases l with
    | zero => simp at h
    | succ n => simp
  | x :: L, l, h => by
    cases l with
    | zero => simp
    | succ n =>
      have := modify_left g b L (l := n) (by simpa using h)
      simp [this]
theorem setBox_all (s : St) (r : Root) (c : List V) : allV (s.setBox r c) = (allV s).modify r.lvl (fun b => setB b r.slot c) := by
  unfold St.setBox allV
  by_cases h : r.lvl = s.L.length
  · rw [if_pos h, h, modify_last]
  · rw [if_neg h, modify_left _ _ _ h]
theorem tsetBox_all (st : TSt) (r : Root) (c : List TV) : (st.setBox r c).all = st.all.modify r.lvl (fun b => setT b r.slot (some c)) := by
  unfold TSt.setBox TSt.all
  by_cases h : r.lvl = st.L.length
  · rw [if_pos h, h, modify_last]
  · rw [if_neg h, modify_left _ _ _ h]
theorem forget_all (st : TSt) (rs : List Root) (r : Root) : (st.forget rs r).all = st.all.modify r.lvl (fun b => anyB rs b r.slot) := by
  unfold TSt.forget TSt.all
  by_cases h : r.lvl = st.L.length
  · rw [if_pos h, h, modify_last]
  · rw [if_neg h, modify_left _ _ _ h]
theorem mem_modify {α : Type} {g : α → α} {b : α} : ∀ {M : List α} {l : Nat}, b ∈ M.modify l g → b ∈ M ∨ ∃ b' ∈ M, b = g b'
  | [], l, h => by cases l <;> simp at h
  | x :: M, 0, h => by
    simp only [List.modify_zero_cons, List.mem_cons] at h
    rcases h with rfl | h
    · exact .inr ⟨x, by simp, rfl⟩
    · exact .inl (by simp [h])
  | x :: M, l + 1, h => by
    simp only [List.modify_succ_cons, List.mem_cons] at h
    rcases h with rfl | h
    · exact .inl (by simp)
    · rcases mem_modify h with h | ⟨b', h1, h2⟩
      · exact .inl (by simp [h])
      · exact .inr ⟨b', by simp [h1], h2⟩

/-- a box is written -/
theorem LR.setBox {M : List TLevel} {M' : List Level} (h : LR M M') (l s : Nat) {c : List TV} {c' : List V} (hd : lookM M l s ≠ some none) (hc : RVL c c') :
    LR (M.modify l fun b => setT b s (some c)) (M'.modify l fun b => setB b s c') where
  len := by simp [h.len]
  rel := fun l2 s2 => by
    rw [lookM_modify, lookV_modify]
    by_cases e : l2 = l
    · subst e
      rw [if_pos rfl, if_pos rfl]
      have key := h.rel l2 s2
      have key2 := h.rel l2 s
      unfold lookM lookV at key key2
      cases h1 : M[l2]? with
      | none =>
        have h2 : M'[l2]? = none := by rw [List.getElem?_eq_none_iff] at h1 ⊢; rw [h.len]; exact h1
        rw [h2]; rfl
      | some b =>
        have h2 : ∃ b', M'[l2]? = some b' := by
          have := (List.getElem?_eq_some_iff.1 h1).1
          exact ⟨_, List.getElem?_eq_getElem (by rw [h.len]; exact this)⟩
        obtain ⟨b', h2⟩ := h2
        rw [h1, h2] at key key2
        rw [h2]
        simp only at key key2 ⊢
        rw [lookT_setT, lookB_setB]
        by_cases e2 : s2 = s
        · subst e2
          rw [if_pos rfl, if_pos rfl]
          cases hl : lookT b s2 with
          | none => rw [hl] at key; simp only [RB] at key; rw [key]; rfl
          | some o =>
            rw [hl] at key
            cases o with
            | none =>
              exact absurd (by unfold lookM; rw [h1]; exact hl) hd
            | some d =>
              obtain ⟨d', hd', _⟩ := key
              rw [hd']
              exact ⟨c', rfl, hc⟩
        · rw [if_neg e2, if_neg e2]; exact key
    · rw [if_neg e, if_neg e]; exact h.rel l2 s2
  nd := fun b hb => by
    rcases mem_modify hb with hb | ⟨b', hb', rfl⟩
    · exact h.nd b hb
    · rw [keys_setB]; exact h.nd b' hb'
/-! ### what stays as it was -/
structure Fr2 (st st' : TSt) (s s' : St) : Prop where
  wt : ∀ t ∈ st.Wt, t ∈ st'.Wt
  wb : ∀ r ∈ st.Wb, r ∈ st'.Wb
  e : ∀ t, t ∉ st'.Wt → s'.E[t]? = s.E[t]? ∨ ((∃ rs, st.E.toL[t]? = some (.any rs)) ∧ s'.E[t]? = some .undef)
  an : ∀ t, t ∉ st'.Wt → ∀ rs, st'.E.toL[t]? = some (.any rs) → ∃ rs', st.E.toL[t]? = some (.any rs')
  b : ∀ r, r ∉ st'.Wb → s'.box r = s.box r ∨ (s.L.length = 0 ∧ st.box r = none ∧ (s'.box r).isSome = (s.box r).isSome ∧ ∀ c, s'.box r = some c → isLp c = false)
  bn : ∀ r, r ∉ st'.Wb → (st.box r).isSome = true → (st'.box r).isSome = true
  len : s'.L.length = s.L.length
  elen : s'.E.length = s.E.length
theorem Fr2.refl (st : TSt) (s : St) : Fr2 st st s s := ⟨fun _ h => h, fun _ h => h, fun _ _ => .inl rfl, fun _ _ rs h => ⟨rs, h⟩, fun _ _ => .inl rfl, fun _ _ h => h, rfl, rfl⟩
theorem Fr2.trans {a b c : TSt} {s t u : St} (h : Fr2 a b s t) (h' : Fr2 b c t u) : Fr2 a c s u where
  wt := fun x hx => h'.wt x (h.wt x hx)
  wb := fun x hx => h'.wb x (h.wb x hx)
  e := fun x hx => by
    have hx1 : x ∉ b.Wt := fun hh => hx (h'.wt x hh)
    rcases h'.e x hx with h1 | ⟨⟨rs, h1⟩, h2⟩
    · rw [h1]; exact h.e x hx1
    · exact .inr ⟨h.an x hx1 rs h1, h2⟩
  an := fun x hx rs hr => by
    obtain ⟨rs', h1⟩ := h'.an x hx rs hr
    exact h.an x (fun hh => hx (h'.wt x hh)) rs' h1
  b := fun x hx => by
    have hx1 : x ∉ b.Wb := fun hh => hx (h'.wb x hh)
    rcases h'.b x hx with h1 | ⟨h0, h1, h2, h3⟩
    · rw [h1]; exact h.b x hx1
    · right
      have hn : a.box x = none := by
        cases hb : a.box x with
        | none => rfl
        | some c => have := h.bn x hx1 (by rw [hb]; rfl); rw [h1] at this; cases this
      refine ⟨by rw [← h.len]; exact h0, hn, ?_, h3⟩
      rcases h.b x hx1 with h4 | ⟨_, _, h4, _⟩
      · rw [h2, h4]
      · rw [h2, h4]
  bn := fun x hx hs => h'.bn x hx (h.bn x (fun hh => hx (h'.wb x hh)) hs)
  len := by rw [h'.len, h.len]
  elen := by rw [h'.elen, h.elen]

theorem rvl_of_get : ∀ {l : List TV} {l' : List V}, l'.length = l.length → (∀ (i : Nat) x v, l[i]? = some x → l'[i]? = some v → RV x v) → RVL l l'
  | [], l', hl, _ => by simp at hl; simp [hl, RVL]
  | x :: l, [], hl, _ => by simp at hl
  | x :: l, v :: m, hl, h => rvl_cons.2 ⟨h 0 x v rfl rfl, rvl_of_get (by simpa using hl) fun i y u h1 h2 => h (i + 1) y u (by simpa using h1) (by simpa using h2)⟩
theorem set_get {α : Type} (E : List α) (t i : Nat) (a : α) : (E.set t a)[i]? = if t = i then (E[i]?).map (fun _ => a) else E[i]? := by
  rw [List.getElem?_set]
  by_cases e : t = i
  · subst e
    rw [if_pos rfl, if_pos rfl]
    by_cases hlt : t < E.length
    · simp [hlt]
    · simp [hlt]
  · rw [if_neg e, if_neg e]
theorem foldl_set_get {α : Type} (a : α) : ∀ (D : List Tmp) (E : List α) (i : Nat), (D.foldl (fun E t => E.set t a) E)[i]? = if i ∈ D then (E[i]?).map (fun _ => a) else E[i]?
  | [], E, i => by simp
  | t :: D, E, i => by
    simp only [List.foldl_cons]
    rw [foldl_set_get a D, set_get]
    by_cases h : i ∈ D
    · rw [if_pos h, if_pos (List.mem_cons_of_mem _ h)]
      split
      · cases E[i]? <;> rfl
      · rfl
    · rw [if_neg h]
      by_cases e : t = i
      · subst e
        rw [if_pos rfl, if_pos List.mem_cons_self]
      · rw [if_neg e, if_neg (by simp [h, Ne.symm e])]
theorem foldl_set_length {α : Type} (a : α) : ∀ (D : List Tmp) (E : List α), (D.foldl (fun E t => E.set t a) E).length = E.length
  | [], E => rfl
  | t :: D, E => by simp only [List.foldl_cons]; rw [foldl_set_length a D]; simp

/-- what is known of a box that was forgotten -/
def gone (rs : List Root) : Option (Option (List TV)) → Option (Option (List TV))
  | some (some cs) => some (some (cs.map fun _ => .any rs))
  | _ => some none
theorem gone_gone (rs : List Root) (o : Option (Option (List TV))) : gone rs (gone rs o) = gone rs o := by
  cases o with
  | none => rfl
  | some o => cases o with
    | none => rfl
    | some cs => simp [gone]
theorem lookT_anyB (rs : List Root) (b : TLevel) (s s' : Nat) : lookT (anyB rs b s) s' = if s' = s then gone rs (lookT b s) else lookT b s' := by
  unfold anyB
  split
  · rename_i h
    by_cases e : s' = s
    · subst e; simp [lookT, h, gone]
    · simp [lookT, e, Ne.symm e]
  · rename_i h
    by_cases e : s' = s
    · subst e; simp [h, gone]
    · simp [e]
  · rename_i cs h
    rw [lookT_setT]
    by_cases e : s' = s
    · subst e; simp [h, gone]
    · simp [e]
theorem lookM_forget (st : TSt) (rs : List Root) (r : Root) (l s : Nat) : lookM (st.forget rs r).all l s = if l = r.lvl ∧ s = r.slot ∧ l < st.all.length then gone rs (lookM st.all l s) else lookM st.all l s := by
  rw [forget_all, lookM_modify]
  by_cases e : l = r.lvl
  · subst e
    rw [if_pos rfl]
    unfold lookM
    cases h : st.all[r.lvl]? with
    | none =>
      have : ¬ r.lvl < st.all.length := by rw [List.getElem?_eq_none_iff] at h; omega
      rw [if_neg (fun hh => this hh.2.2)]
    | some b =>
      have hlt := (List.getElem?_eq_some_iff.1 h).1
      simp only
      rw [lookT_anyB]
      by_cases e2 : s = r.slot
      · subst e2; simp [hlt]
      · simp [e2]
  · rw [if_neg e, if_neg (by simp [e])]
theorem forget_len (st : TSt) (rs : List Root) (r : Root) : (st.forget rs r).all.length = st.all.length := by rw [forget_all]; simp
theorem forget_E (st : TSt) (rs : List Root) (r : Root) : (st.forget rs r).E = st.E := by unfold TSt.forget; split <;> rfl
theorem lookM_forgets (rs : List Root) (l s : Nat) : ∀ (wr : List Root) (st : TSt), lookM (wr.foldl (fun st r => st.forget rs r) st).all l s = if (⟨l, s⟩ : Root) ∈ wr ∧ l < st.all.length then gone rs (lookM st.all l s) else lookM st.all l s
  | [], st => by simp
  | r :: wr, st => by
    simp only [List.foldl_cons]
    rw [lookM_forgets rs l s wr, forget_len, lookM_forget]
    by_cases h1 : l = r.lvl ∧ s = r.slot ∧ l < st.all.length
    · rw [if_pos h1]
      have hr : (⟨l, s⟩ : Root) = r := by obtain ⟨e1, e2, _⟩ := h1; cases r; simp_all
      rw [gone_gone, if_pos (⟨by simp [hr], h1.2.2⟩ : (⟨l, s⟩ : Root) ∈ r :: wr ∧ l < st.all.length)]
      split <;> rfl
    · rw [if_neg h1]
      by_cases h2 : (⟨l, s⟩ : Root) ∈ wr ∧ l < st.all.length
      · rw [if_pos h2, if_pos ⟨by simp [h2.1], h2.2⟩]
      · rw [if_neg h2, if_neg]
        rintro ⟨h3, h4⟩
        rcases List.mem_cons.1 h3 with h3 | h3
        · exact h1 ⟨by rw [← h3], by rw [← h3], h4⟩
        · exact h2 ⟨h3, h4⟩
theorem forgets_E (rs : List Root) : ∀ (wr : List Root) (st : TSt), (wr.foldl (fun st r => st.forget rs r) st).E = st.E
  | [], st => rfl
  | r :: wr, st => by simp only [List.foldl_cons]; rw [forgets_E rs wr, forget_E]
theorem forgets_len (rs : List Root) : ∀ (wr : List Root) (st : TSt), (wr.foldl (fun st r => st.forget rs r) st).all.length = st.all.length
  | [], st => rfl
  | r :: wr, st => by simp only [List.foldl_cons]; rw [forgets_len rs wr, forget_len]

/-- the value at a place -/
def vget (s : St) (p : Place) : Option V := match p.lvl with
  | none => s.E[p.slot]?
  | some l => (s.box ⟨l, p.slot⟩).bind (·[p.cell]?)
theorem rvl_set_same {l : List TV} {l' : List V} (h : RVL l l') (i : Nat) {x : TV} (hx : ∀ u, l'[i]? = some u → RV x u) : RVL (l.set i x) l' := by
  refine rvl_of_get (by simp [h.length]) fun k y v hy hv => ?_
  rw [List.getElem?_set] at hy
  split at hy
  · rename_i e; subst e
    split at hy
    · cases hy; exact hx v hv
    · cases hy
  · obtain ⟨u, hu, hr⟩ := h.get hy
    rw [hv] at hu; cases hu; exact hr
theorem Rst.setPlace {st : TSt} {s : St} (h : Rst st s) {p : Place} {v : TV} (hv : ∀ u, vget s p = some u → RV v u) : Rst (st.setPlace p v) s := by
  unfold TSt.setPlace
  cases hl : p.lvl with
  | none => exact ⟨by rw [toL_set]; exact rvl_set_same h.E _ fun u hu => hv u (by unfold vget; rw [hl]; exact hu), h.M⟩
  | some l =>
    simp only
    cases hb : st.box ⟨l, p.slot⟩ with
    | none => exact h
    | some cs =>
      simp only
      obtain ⟨c', hc', hr⟩ := h.box hb
      have hset : RVL (cs.set p.cell v) c' := rvl_set_same hr _ fun u hu => hv u (by unfold vget; rw [hl]; simp only; rw [hc']; exact hu)
      refine ⟨?_, ?_⟩
      · have : ({ st.setBox ⟨l, p.slot⟩ (cs.set p.cell v) with Wb := st.Wb } : TSt).E = st.E := by simp only [TSt.setBox]; split <;> rfl
        rw [this]; exact h.E
      · have e1 : ({ st.setBox ⟨l, p.slot⟩ (cs.set p.cell v) with Wb := st.Wb } : TSt).all = (st.setBox ⟨l, p.slot⟩ (cs.set p.cell v)).all := rfl
        rw [e1, tsetBox_all]
        refine ⟨by rw [h.M.len]; simp, fun l2 s2 => ?_, h.M.nd⟩
        rw [lookM_modify]
        have hlook := box_some hb
        simp only at hlook ⊢
        by_cases e : l2 = l
        · subst e
          rw [if_pos rfl]
          have key := h.M.rel l2 s2
          unfold lookM at key hlook
          cases h1 : st.all[l2]? with
          | none => rw [h1] at hlook; cases hlook
          | some b =>
            rw [h1] at key hlook
            simp only at key hlook ⊢
            rw [lookT_setT]
            by_cases e2 : s2 = p.slot
            · subst e2
              rw [if_pos rfl, hlook]
              rw [look_box] at hc'
              exact ⟨c', hc', hset⟩
            · rw [if_neg e2]; exact key
        · rw [if_neg e]; exact h.M.rel l2 s2
theorem setPlaces_ok {s : St} : ∀ (ps : List Place) (vs : List TV) (st : TSt), Rst st s → (∀ p v, (p, v) ∈ ps.zip vs → ∀ u, vget s p = some u → RV v u) → Rst (setPlaces st ps vs) s
  | [], vs, st, h, _ => by cases vs <;> exact h
  | p :: ps, [], st, h, _ => h
  | p :: ps, v :: vs, st, h, hv => setPlaces_ok ps vs _ (h.setPlace (hv p v (by simp))) fun q w hq => hv q w (by simp [hq])

theorem asTy_any : ∀ (τ : Ty) (o : Nat) (rs : List Root), asTy τ o (.any rs) = none
  | .int _, _, _ | .bool, _, _ | .str, _, _ | .sl _, _, _ | .unit, _, _ | .pair .., _, _ => rfl
theorem Rst.get {st : TSt} {s : St} (h : Rst st s) {p : Place} (hp : ∀ rs, st.get p ≠ .any rs) {u : V} (hu : vget s p = some u) : RV (st.get p) u := by
  unfold TSt.get at hp ⊢
  unfold vget at hu
  cases hl : p.lvl with
  | none =>
    rw [hl] at hu hp
    simp only at hu hp ⊢
    have := h.E.getD p.slot
    rw [← get_getD, List.getD_eq_getElem?_getD, hu] at this
    exact this
  | some l =>
    rw [hl] at hu hp
    simp only at hu hp ⊢
    cases hb : st.box ⟨l, p.slot⟩ with
    | none => rw [hb] at hp; exact absurd rfl (hp [])
    | some cs =>
      obtain ⟨c', hc', hr⟩ := h.box hb
      rw [hc'] at hu
      simp only [Option.bind_some] at hu
      have := hr.getD p.cell
      rw [List.getD_eq_getElem?_getD, List.getD_eq_getElem?_getD, hu] at this
      simp only
      rw [List.getD_eq_getElem?_getD]
      exact this
/-- what is collected, and that it is typed -/
theorem collect_ok {st : TSt} {s : St} (h : Rst st s) : ∀ (ps : List (Ty × Nat)) (lv : List Place) (x : denL (ps.map (·.1))), asL ps (lv.map st.get) = some x →
    ∀ p v, (p, v) ∈ lv.zip (ofL ps x) → ∀ u, vget s p = some u → RV v u ∧ u.ptrs = [] ∧ isLp [u] = false
  | [], lv, x, hx, p, v, hm, u, hu => by simp [ofL] at hm
  | [(τ, o)], lv, x, hx, p, v, hm, u, hu => by
    match lv, hx, hm with
    | [q], hx, hm =>
      simp only [List.map_cons, List.map_nil, asL] at hx
      simp only [ofL, List.zip_cons_cons, List.zip_nil_right, List.mem_singleton, Prod.mk.injEq] at hm
      obtain ⟨rfl, rfl⟩ := hm
      have hg := h.get (p := p) (fun rs e => by rw [e, asTy_any] at hx; cases hx) hu
      have hr := asTy_ok _ _ _ _ _ hx hg
      have hrv := rv_ofTy _ _ _ _ hr
      exact ⟨hrv, rty_ptrs _ _ _ _ hr, rvl_notLp (rvl_cons.2 ⟨hrv, rvl_nil⟩)⟩
    | [], hx, hm => simp [asL] at hx
    | _ :: _ :: _, hx, hm => simp [asL] at hx
  | (τ, o) :: q' :: ps, lv, x, hx, p, v, hm, u, hu => by
    match lv, hx, hm with
    | [], hx, hm => simp [asL] at hx
    | q :: lv, hx, hm =>
      simp only [List.map_cons, asL] at hx
      obtain ⟨y, hy, hx⟩ := Option.bind_eq_some_iff.1 hx
      obtain ⟨z, hz, hx⟩ := Option.bind_eq_some_iff.1 hx
      simp only [Option.some.injEq] at hx
      subst hx
      simp only [ofL, List.zip_cons_cons, List.mem_cons, Prod.mk.injEq] at hm
      rcases hm with ⟨rfl, rfl⟩ | hm
      · have hg := h.get (p := p) (fun rs e => by rw [e, asTy_any] at hy; cases hy) hu
        have hr := asTy_ok _ _ _ _ _ hy hg
        have hrv := rv_ofTy _ _ _ _ hr
        exact ⟨hrv, rty_ptrs _ _ _ _ hr, rvl_notLp (rvl_cons.2 ⟨hrv, rvl_nil⟩)⟩
      · exact collect_ok h (q' :: ps) lv z (by simpa using hz) p v hm u hu
theorem asL_length : ∀ (ps : List (Ty × Nat)) (l : List TV) (x : denL (ps.map (·.1))), asL ps l = some x → (ofL ps x).length = l.length
  | [], l, x, h => by cases l with
    | nil => rfl
    | cons => simp [asL] at h
  | [(τ, o)], l, x, h => by
    match l, h with
    | [v], h => rfl
    | [], h => simp [asL] at h
    | _ :: _ :: _, h => simp [asL] at h
  | (τ, o) :: q :: ps, l, x, h => by
    match l, h with
    | [], h => simp [asL] at h
    | v :: l, h =>
      simp only [asL] at h
      obtain ⟨y, hy, h⟩ := Option.bind_eq_some_iff.1 h
      obtain ⟨z, hz, h⟩ := Option.bind_eq_some_iff.1 h
      simp only [Option.some.injEq] at h
      subst h
      simp [ofL, asL_length (q :: ps) l z hz]
theorem isIn_mem {lv : List Place} {l : Option Nat} {s c : Nat} (h : Place.isIn lv l s c = true) : (⟨l, s, c⟩ : Place) ∈ lv := by
  unfold Place.isIn at h
  rw [List.any_eq_true] at h
  obtain ⟨p, hp, h⟩ := h
  simp only [Bool.and_eq_true, decide_eq_true_eq] at h
  obtain ⟨⟨rfl, rfl⟩, rfl⟩ := h
  exact hp
theorem isIn_some {lv : List Place} {vs : List TV} (hl : vs.length = lv.length) {p : Place} (h : p ∈ lv) : ∃ v, (p, v) ∈ lv.zip vs := by
  obtain ⟨i, hi⟩ := List.mem_iff_getElem?.1 h
  have hlt := (List.getElem?_eq_some_iff.1 hi).1
  refine ⟨vs[i]'(by omega), List.mem_iff_getElem?.2 ⟨i, ?_⟩⟩
  rw [List.getElem?_zip_eq_some]
  exact ⟨hi, List.getElem?_eq_getElem _⟩
theorem subset_mem {l m : List Root} (h : Go.Tx.subset l m = true) : ∀ r ∈ l, r ∈ m := fun r hr => by
  unfold Go.Tx.subset at h
  rw [List.all_eq_true] at h
  simpa using h r hr

/-- BEHIND A JOIN -/
theorem rebuild_ok {st st2 : TSt} {s s' : St} {j : Join} {x : denL (j.ps.map (·.1))} (h : Rst st s) (h2 : Rst st2 s') (hf : Fr2 st.fresh st2 s s') (ho : st2.outs st j = some x) : Rst (st.rebuild j (ofL j.ps x)) s' := by
  unfold TSt.outs at ho
  split at ho
  · rename_i hc
    simp only [Bool.and_eq_true] at hc
    obtain ⟨⟨hfor, hwr⟩, hlike⟩ := hc
    have hcol := collect_ok h2 j.ps j.lv x ho
    have hlen : (ofL j.ps x).length = j.lv.length := by rw [asL_length _ _ _ ho]; simp
    unfold TSt.forgets at hfor
    simp only [Bool.and_eq_true, List.all_eq_true] at hfor
    obtain ⟨hD0, hW⟩ := hfor
    have hD : ∀ t ∈ j.D, ∀ x, st2.E.toL[t]? = some x → (Place.isIn j.lv none t 0 || Go.Tx.subset x.ptrs j.rs) = true := fun t ht x hx => by
      have := all_get hD0 (fun i => by cases j.D.has i <;> simp [TV.ptrs, Go.Tx.subset]) hx
      rw [Mask.mem_iff] at ht
      rw [ht] at this
      exact this
    unfold TSt.wrote at hwr
    simp only [Bool.and_eq_true, List.all_eq_true] at hwr
    obtain ⟨hwt0, hwb⟩ := hwr
    have hwt : ∀ t ∈ st2.Wt, t ∈ j.D := fun t ht => Mask.sub_mem hwt0 ht
    unfold TSt.like at hlike
    rw [List.all_eq_true] at hlike
    unfold TSt.rebuild
    refine setPlaces_ok _ _ _ ⟨?_, ?_⟩ fun p v hm u hu => (hcol p v hm u hu).1
    · -- temporaries
      show RVL (j.wr.foldl (fun (st : TSt) r => st.forget j.rs r) { st with E := forgetM j.D j.rs st.E }).E.toL s'.E
      rw [forgets_E]
      refine rvl_of_get ?_ fun i y v hy hv => ?_
      · simp only; rw [forgetM_len, hf.elen, h.E.length]
      · simp only at hy
        rw [forgetM_get] at hy
        split at hy
        · rename_i hi
          obtain ⟨z, hz, rfl⟩ := Option.map_eq_some_iff.1 hy
          obtain ⟨x2, hx2⟩ : ∃ x2, st2.E.toL[i]? = some x2 := by
            have hlt := (List.getElem?_eq_some_iff.1 hv).1
            have := h2.E.length
            exact ⟨_, List.getElem?_eq_getElem (by omega)⟩
          have hi' := hD i hi x2 hx2
          simp only [Bool.or_eq_true] at hi'
          simp only [RV]
          rcases hi' with hi' | hi'
          · obtain ⟨w, hw⟩ := isIn_some hlen (isIn_mem hi')
            obtain ⟨_, hp, hlp⟩ := hcol _ w hw v (by unfold vget; exact hv)
            exact ⟨by rw [hp]; simp, hlp⟩
          · obtain ⟨v2, hv2, hg⟩ := h2.E.get hx2
            rw [hv] at hv2; cases hv2
            refine ⟨fun r hr => subset_mem hi' r (RV.ptrs _ _ hg r hr), rvl_notLp (rvl_cons.2 ⟨hg, rvl_nil⟩)⟩
        · rename_i hi
          have : i ∉ st2.Wt := fun hh => hi (hwt i hh)
          obtain ⟨u, hu, hr⟩ := h.E.get hy
          rcases hf.e i this with he | ⟨⟨rs, he1⟩, he2⟩
          · rw [hv] at he
            rw [← he] at hu; cases hu; exact hr
          · rw [he2] at hv; cases hv
            have he1 : st.E.toL[i]? = some (.any rs) := he1
            rw [hy] at he1; cases he1
            exact rv_undef rs
    · -- boxes
      show LR (j.wr.foldl (fun (st : TSt) r => st.forget j.rs r) { st with E := forgetM j.D j.rs st.E }).all (allV s')
      refine ⟨?_, fun l sl => ?_, h2.M.nd⟩
      · rw [forgets_len]
        have := hf.len
        have := h.M.len
        simp [TSt.all, allV] at this ⊢
        omega
      · rw [lookM_forgets]
        have hall : ({ st with E := forgetM j.D j.rs st.E } : TSt).all = st.all := rfl
        rw [hall]
        split
        · rename_i hm
          have hbx := look_box (s := s') ⟨l, sl⟩
          simp only at hbx
          have key2 := h2.M.rel l sl
          have hnl : ∀ c, lookV (allV s') l sl = some c → isLp c = false := fun c hc => by
            cases hk : lookM st2.all l sl with
            | none => rw [hk] at key2; simp only [RB] at key2; rw [key2] at hc; cases hc
            | some o =>
              rw [hk] at key2
              cases o with
              | none => exact key2 c hc
              | some d => obtain ⟨d', hd', hr⟩ := key2; rw [hd'] at hc; cases hc; exact rvl_notLp hr
          cases hk : lookM st.all l sl with
          | none => exact hnl
          | some o =>
            cases o with
            | none => exact hnl
            | some cs =>
              have hb : st.box ⟨l, sl⟩ = some cs := by rw [tlook_box]; simp only; rw [hk]
              have hli := hlike _ hm.1
              rw [hb] at hli
              simp only at hli
              split at hli
              · rename_i cs2 hb2
                simp only [decide_eq_true_eq] at hli
                obtain ⟨c', hc', hr⟩ := h2.box hb2
                rw [hbx] at hc'
                refine ⟨c', hc', ?_⟩
                refine rvl_of_get (by simp [hr.length, hli]) fun i y v hy hv => ?_
                rw [List.getElem?_map] at hy
                obtain ⟨z, hz, rfl⟩ := Option.map_eq_some_iff.1 hy
                have hi : i < cs2.length := by have := (List.getElem?_eq_some_iff.1 hz).1; omega
                have hw := hW _ hm.1
                rw [hb2] at hw
                simp only [List.all_eq_true] at hw
                have hw' := hw i (by simpa using hi)
                simp only [Bool.or_eq_true] at hw'
                simp only [RV]
                rcases hw' with hw' | hw'
                · obtain ⟨w, hww⟩ := isIn_some hlen (isIn_mem hw')
                  obtain ⟨_, hp, hlp⟩ := hcol _ w hww v (by unfold vget; simp only; rw [hbx, hc']; exact hv)
                  exact ⟨by rw [hp]; simp, hlp⟩
                · have hg := hr.getD i
                  rw [List.getD_eq_getElem?_getD (l := c'), hv] at hg
                  exact ⟨fun r hrr => subset_mem hw' r (RV.ptrs _ _ hg r hrr), rvl_notLp (rvl_cons.2 ⟨hg, rvl_nil⟩)⟩
              · cases hli
        · rename_i hm
          have key := h.M.rel l sl
          by_cases hlt : l < st.all.length
          · have hnr : (⟨l, sl⟩ : Root) ∉ st2.Wb := fun hh => by
              have := hwb _ hh
              simp only [Bool.or_eq_true, decide_eq_true_eq] at this
              rcases this with h3 | h3
              · exact hm ⟨by simpa using h3, hlt⟩
              · have h4 := h2.len
                have h5 := hf.len
                have h6 := h.len
                simp [TSt.all] at hlt
                omega
            rcases hf.b _ hnr with hb | ⟨_, hb0, hb1, hb2⟩
            · rw [look_box, look_box] at hb
              simp only at hb
              rw [hb]; exact key
            · rw [look_box, look_box] at hb1
              rw [look_box] at hb2
              simp only at hb1 hb2
              have hb0 : st.box ⟨l, sl⟩ = none := hb0
              rw [tlook_box] at hb0
              simp only at hb0
              cases hk : lookM st.all l sl with
              | none =>
                rw [hk] at key
                simp only [RB] at key ⊢
                rw [key] at hb1
                simpa using hb1
              | some o =>
                cases o with
                | none => exact hb2
                | some c => rw [hk] at hb0; cases hb0
          · have h1 : lookM st.all l sl = none := by
              unfold lookM
              rw [List.getElem?_eq_none (by omega)]
            have h3 : lookV (allV s') l sl = none := by
              unfold lookV
              have hl := hf.len
              have hl2 := h.len
              rw [List.getElem?_eq_none]
              simp [TSt.all, allV] at hlt ⊢
              omega
            rw [h1, h3]; rfl
  · cases ho

/-! ### clearing -/
theorem lookT_clear (D : List Tmp) (b : TLevel) (s : Nat) : lookT (clearTB D b) s = if D.contains s then none else lookT b s := by
  induction b with
  | nil => simp [clearTB, lookT]
  | cons p b ih =>
    obtain ⟨k, c⟩ := p
    simp only [clearTB]
    by_cases h : D.contains k = true
    · rw [if_pos h, ih]
      by_cases e : k = s
      · subst e; rw [if_pos h, if_pos h]
      · simp only [lookT, if_neg e]
    · rw [if_neg h]
      by_cases e : k = s
      · subst e; simp only [lookT, if_true]; rw [if_neg h]
      · simp only [lookT, if_neg e, ih]
theorem lookB_clear (D : List Tmp) (b : Level) (s : Nat) : lookB (clearB D b) s = if D.contains s then none else lookB b s := by
  induction b with
  | nil => simp [clearB, lookB]
  | cons p b ih =>
    obtain ⟨k, c⟩ := p
    simp only [clearB]
    by_cases h : D.contains k = true
    · rw [if_pos h, ih]
      by_cases e : k = s
      · subst e; rw [if_pos h, if_pos h]
      · simp only [lookB, if_neg e]
    · rw [if_neg h]
      by_cases e : k = s
      · subst e; simp only [lookB, if_true]; rw [if_neg h]
      · simp only [lookB, if_neg e, ih]
theorem lookB_mem {b : Level} (hn : (b.map (·.1)).Nodup) {k : Nat} {c : List V} (h : (k, c) ∈ b) : lookB b k = some c := by
  induction b with
  | nil => cases h
  | cons p b ih =>
    obtain ⟨k', c'⟩ := p
    simp only [List.map_cons, List.nodup_cons] at hn
    rcases List.mem_cons.1 h with h | h
    · cases h; simp [lookB]
    · have : k' ≠ k := fun e => hn.1 (List.mem_map.2 ⟨_, h, e.symm⟩)
      simp only [lookB, if_neg this]
      exact ih hn.2 h
theorem lookT_mem {b : TLevel} {k : Nat} {c : Option (List TV)} (h : lookT b k = some c) : (k, c) ∈ b := by
  induction b with
  | nil => cases h
  | cons p b ih =>
    obtain ⟨k', c'⟩ := p
    simp only [lookT] at h
    split at h
    · rename_i e; cases h; subst e; simp
    · exact List.mem_cons.2 (.inr (ih h))
theorem ptrsB_mem {b : Level} {r : Root} (h : r ∈ ptrsB b) : ∃ k c, (k, c) ∈ b ∧ r ∈ ptrsL c := by
  induction b with
  | nil => simp [ptrsB] at h
  | cons p b ih =>
    obtain ⟨k, c⟩ := p
    simp only [ptrsB, List.mem_append] at h
    rcases h with h | h
    · exact ⟨k, c, by simp, h⟩
    · obtain ⟨k', c', h1, h2⟩ := ih h; exact ⟨k', c', by simp [h1], h2⟩
theorem mem_ptrsTB {b : TLevel} {k : Nat} {c : List TV} (h : (k, some c) ∈ b) {r : Root} (hr : r ∈ ptrsTL c) : r ∈ ptrsTB b := by
  induction b with
  | nil => cases h
  | cons p b ih =>
    obtain ⟨k', c'⟩ := p
    rcases List.mem_cons.1 h with h | h'
    · cases h; simp [ptrsTB, hr]
    · cases c' with
      | none => simp only [ptrsTB]; exact ih h'
      | some d => simp only [ptrsTB, List.mem_append]; exact .inr (ih h')
theorem full_mem {b : TLevel} (hf : fullB b = true) {k : Nat} {c : Option (List TV)} (h : (k, c) ∈ b) : ∃ d, c = some d := by
  induction b with
  | nil => cases h
  | cons p b ih =>
    obtain ⟨k', c'⟩ := p
    simp only [fullB, Bool.and_eq_true] at hf
    rcases List.mem_cons.1 h with h | h
    · cases h; exact Option.isSome_iff_exists.1 hf.1
    · exact ih hf.2 h
theorem clearTB_len {D : List Tmp} {b : TLevel} (h : (clearTB D b).length = b.length) : ∀ k c, (k, c) ∈ b → D.contains k = false := by
  induction b with
  | nil => simp
  | cons p b ih =>
    obtain ⟨k', c'⟩ := p
    have hle : ∀ b : TLevel, (clearTB D b).length ≤ b.length := fun b => by
      induction b with
      | nil => simp [clearTB]
      | cons p b ih => obtain ⟨k, c⟩ := p; simp only [clearTB]; split <;> simp <;> omega
    simp only [clearTB] at h
    intro k c hk
    split at h
    · have := hle b; simp at h; omega
    · rename_i hn
      rcases List.mem_cons.1 hk with hk | hk
      · cases hk; simpa using hn
      · exact ih (by simpa using h) k c hk
theorem clearB_same {D : List Tmp} {b : Level} (h : ∀ k c, (k, c) ∈ b → D.contains k = false) : clearB D b = b := by
  induction b with
  | nil => rfl
  | cons p b ih =>
    obtain ⟨k, c⟩ := p
    simp only [clearB]
    rw [if_neg (by rw [h k c (by simp)]; simp), ih fun k c hk => h k c (by simp [hk])]
theorem clearE_get (D : List Tmp) (E : List V) (i : Nat) : (clearE D E)[i]? = if i ∈ D then (E[i]?).map (fun _ => .undef) else E[i]? := foldl_set_get _ D E i
theorem clearTE_get (D : List Tmp) (E : Env) (i : Nat) : (clearTE D E).toL[i]? = if i ∈ D then (E.toL[i]?).map (fun _ => .any []) else E.toL[i]? := by
  unfold clearTE
  rw [forgetM_get]
  by_cases h : i ∈ D
  · rw [if_pos h, if_pos (Mask.mem_ofList.2 h)]
  · rw [if_neg h, if_neg (fun hh => h (Mask.mem_ofList.1 hh))]
theorem clearE_rvl (D : List Tmp) {E : Env} {E' : List V} (h : RVL E.toL E') : RVL (clearTE D E).toL (clearE D E') := by
  refine rvl_of_get ?_ fun i x v hx hv => ?_
  · unfold clearTE clearE
    rw [forgetM_len, foldl_set_length, h.length]
  · rw [clearTE_get] at hx
    rw [clearE_get] at hv
    by_cases hm : i ∈ D
    · rw [if_pos hm] at hx hv
      obtain ⟨_, _, rfl⟩ := Option.map_eq_some_iff.1 hx
      obtain ⟨_, _, rfl⟩ := Option.map_eq_some_iff.1 hv
      exact rv_undef []
    · rw [if_neg hm] at hx hv
      obtain ⟨u, hu, hr⟩ := h.get hx
      rw [hv] at hu; cases hu; exact hr
theorem ptrsL_at : ∀ {l : List V} {r : Root}, r ∈ ptrsL l → ∃ (i : Nat) (v : V), l[i]? = some v ∧ r ∈ v.ptrs
  | [], r, h => by simp [ptrsL] at h
  | v :: l, r, h => by
    simp only [ptrsL, List.mem_append] at h
    rcases h with h | h
    · exact ⟨0, v, rfl, h⟩
    · obtain ⟨i, u, hu, hr⟩ := ptrsL_at h
      exact ⟨i + 1, u, by simpa using hu, hr⟩
theorem gone_mem {D : List Tmp} {n : Nat} {b : TLevel} {k : Nat} {c : Option (List TV)} (h : (k, c) ∈ b) (hk : D.contains k = true) : (⟨n, k⟩ : Root) ∈ goneB D n b := by
  induction b with
  | nil => cases h
  | cons p b ih =>
    obtain ⟨k', c'⟩ := p
    simp only [goneB]
    rcases List.mem_cons.1 h with h | h
    · cases h; rw [if_pos hk]; simp
    · split
      · exact List.mem_cons.2 (.inr (ih h))
      · exact ih h
theorem clearB_sub (D : List Tmp) (b : Level) : (clearB D b).Sublist b := by
  induction b with
  | nil => exact .slnil
  | cons p b ih =>
    obtain ⟨k, c⟩ := p
    simp only [clearB]
    split
    · exact ih.cons _
    · exact ih.cons_cons _

theorem clear_ok {D : List Tmp} {st st1 : TSt} {s : St} (h : Rst st s) (hc : st.clear D = some st1) : ∃ s1, s.clear D = some s1 ∧ Rst st1 s1 ∧ Fr2 st st1 s s1 := by
  have hlen := h.len
  have hE := clearE_rvl D h.E
  have hlastM : st.all[st.L.length]? = some st.B := by simp [TSt.all]
  have hlastV : (allV s)[st.L.length]? = some s.B := by rw [← hlen]; simp [allV]
  have hB : ∀ k, RB (lookT st.B k) (lookB s.B k) := fun k => by
    have := h.M.rel st.L.length k
    unfold lookM lookV at this
    rw [hlastM, hlastV] at this
    exact this
  have hnd : (s.B.map (·.1)).Nodup := h.M.nd s.B (by simp [allV])
  unfold TSt.clear at hc
  simp only at hc
  split at hc
  · rename_i hcond
    cases hc
    have hv : s.clear D = some { s with E := clearE D s.E, B := clearB D s.B } := by
      unfold St.clear
      simp only
      rw [if_pos]
      simp only [Bool.or_eq_true, decide_eq_true_eq, Bool.and_eq_true] at hcond
      rcases hcond with hl | ⟨⟨h1, h2⟩, h3⟩
      · left
        rw [clearB_same]
        intro k c hk
        have hlk := lookB_mem hnd hk
        have hb := hB k
        cases ht : lookT st.B k with
        | none => rw [ht] at hb; simp only [RB] at hb; rw [hb] at hlk; cases hlk
        | some o => exact clearTB_len hl k o (lookT_mem ht)
      · right
        unfold okPtrs at h2 ⊢
        rw [List.all_eq_true] at h2
        simp only [Bool.and_eq_true, List.all_eq_true]
        refine ⟨fun r hr => ?_, fun r hr => ?_⟩
        · rw [hlen]
          obtain ⟨i, v, hv, hrv⟩ := ptrsL_at hr
          obtain ⟨x, hx⟩ : ∃ x, (clearTE D st.E).toL[i]? = some x := by
            have hlt := (List.getElem?_eq_some_iff.1 hv).1
            have := hE.length
            exact ⟨_, List.getElem?_eq_getElem (by omega)⟩
          obtain ⟨v2, hv2, hrx⟩ := hE.get hx
          rw [hv] at hv2; cases hv2
          have h3 := all_get h1 (fun i => by simp [TV.ptrs, okPtrs]) hx
          unfold okPtrs at h3
          rw [List.all_eq_true] at h3
          exact h3 r (RV.ptrs _ _ hrx r hrv)
        · rw [hlen]
          obtain ⟨k, c, hk, hrc⟩ := ptrsB_mem hr
          have hlk := lookB_mem (by exact List.Sublist.nodup ((clearB_sub D s.B).map _) hnd) hk
          rw [lookB_clear] at hlk
          split at hlk
          · cases hlk
          · rename_i hkD
            have hb := hB k
            cases ht : lookT st.B k with
            | none => rw [ht] at hb; simp only [RB] at hb; rw [hb] at hlk; cases hlk
            | some o =>
              have ht2 : lookT (clearTB D st.B) k = some o := by rw [lookT_clear, if_neg hkD]; exact ht
              obtain ⟨d, rfl⟩ := full_mem h3 (lookT_mem ht2)
              rw [ht] at hb
              obtain ⟨d', hd', hr'⟩ := hb
              rw [hd'] at hlk; cases hlk
              exact h2 r (mem_ptrsTB (lookT_mem ht2) (RVL.ptrs _ _ hr' r hrc))
    refine ⟨_, hv, ⟨hE, ?_⟩, ?_⟩
    · refine ⟨by have := h.M.len; simpa [TSt.all, allV] using this, fun l k => ?_, fun b hb => ?_⟩
      · have key := h.M.rel l k
        unfold lookM lookV at key ⊢
        by_cases e : l = st.L.length
        · subst e
          have e1 : ({ st with E := clearTE D st.E, B := clearTB D st.B, Wt := Mask.ofList D ++ st.Wt, Wb := goneB D st.L.length st.B ++ st.Wb } : TSt).all[st.L.length]? = some (clearTB D st.B) := by simp [TSt.all]
          have e2 : (allV { s with E := clearE D s.E, B := clearB D s.B })[st.L.length]? = some (clearB D s.B) := by rw [← hlen]; simp [allV]
          rw [e1, e2]
          simp only
          rw [lookT_clear, lookB_clear]
          split
          · rfl
          · exact hB k
        · have e1 : ({ st with E := clearTE D st.E, B := clearTB D st.B, Wt := Mask.ofList D ++ st.Wt, Wb := goneB D st.L.length st.B ++ st.Wb } : TSt).all[l]? = st.all[l]? := by
            simp only [TSt.all]
            by_cases hlt : l < st.L.length
            · rw [List.getElem?_append_left hlt, List.getElem?_append_left hlt]
            · rw [List.getElem?_eq_none (by simp; omega), List.getElem?_eq_none (by simp; omega)]
          have e2 : (allV { s with E := clearE D s.E, B := clearB D s.B })[l]? = (allV s)[l]? := by
            simp only [allV]
            by_cases hlt : l < s.L.length
            · rw [List.getElem?_append_left hlt, List.getElem?_append_left hlt]
            · rw [List.getElem?_eq_none (by simp; omega), List.getElem?_eq_none (by simp; omega)]
          rw [e1, e2]; exact key
      · simp only [allV, List.mem_append, List.mem_singleton] at hb
        rcases hb with hb | rfl
        · exact h.M.nd b (by simp [allV, hb])
        · exact List.Sublist.nodup ((clearB_sub D s.B).map _) hnd
    · refine ⟨fun t ht => by simp [ht], fun r hr => by simp [hr], fun t ht => .inl ?_, fun t ht rs hE => ⟨rs, ?_⟩, fun r hr => .inl ?_, fun r hr hsm => ?_, rfl, ?_⟩
      · simp only [Mask.mem_append, Mask.mem_ofList, not_or] at ht
        simp only
        rw [clearE_get, if_neg ht.1]
      · simp only [Mask.mem_append, Mask.mem_ofList, not_or] at ht
        rw [clearTE_get, if_neg ht.1] at hE
        exact hE
      · simp only [List.mem_append, not_or] at hr
        obtain ⟨l, k⟩ := r
        rw [look_box, look_box]
        simp only
        unfold lookV
        by_cases e : l = st.L.length
        · subst e
          have e2 : (allV { s with E := clearE D s.E, B := clearB D s.B })[st.L.length]? = some (clearB D s.B) := by rw [← hlen]; simp [allV]
          rw [e2, hlastV]
          simp only
          rw [lookB_clear]
          split
          · rename_i hk
            have hb := hB k
            cases ht : lookT st.B k with
            | none => rw [ht] at hb; simp only [RB] at hb; exact hb.symm
            | some o => exact absurd (gone_mem (lookT_mem ht) hk) hr.1
          · rfl
        · have e2 : (allV { s with E := clearE D s.E, B := clearB D s.B })[l]? = (allV s)[l]? := by
            simp only [allV]
            by_cases hlt : l < s.L.length
            · rw [List.getElem?_append_left hlt, List.getElem?_append_left hlt]
            · rw [List.getElem?_eq_none (by simp; omega), List.getElem?_eq_none (by simp; omega)]
          rw [e2]
      · simp only [List.mem_append, not_or] at hr
        obtain ⟨l, k⟩ := r
        obtain ⟨c, hc⟩ := Option.isSome_iff_exists.1 hsm
        have hlk := box_some hc
        simp only at hlk
        have : lookM ({ st with E := clearTE D st.E, B := clearTB D st.B, Wt := Mask.ofList D ++ st.Wt, Wb := goneB D st.L.length st.B ++ st.Wb } : TSt).all l k = some (some c) := by
          unfold lookM at hlk ⊢
          by_cases e : l = st.L.length
          · subst e
            rw [hlastM] at hlk
            simp only at hlk
            have e1 : ({ st with E := clearTE D st.E, B := clearTB D st.B, Wt := Mask.ofList D ++ st.Wt, Wb := goneB D st.L.length st.B ++ st.Wb } : TSt).all[st.L.length]? = some (clearTB D st.B) := by simp [TSt.all]
            rw [e1]
            simp only
            rw [lookT_clear]
            split
            · rename_i hk; exact absurd (gone_mem (lookT_mem hlk) hk) hr.1
            · exact hlk
          · have e1 : ({ st with E := clearTE D st.E, B := clearTB D st.B, Wt := Mask.ofList D ++ st.Wt, Wb := goneB D st.L.length st.B ++ st.Wb } : TSt).all[l]? = st.all[l]? := by
              simp only [TSt.all]
              by_cases hlt : l < st.L.length
              · rw [List.getElem?_append_left hlt, List.getElem?_append_left hlt]
              · rw [List.getElem?_eq_none (by simp; omega), List.getElem?_eq_none (by simp; omega)]
            rw [e1]; exact hlk
        rw [tlook_box]
        simp only
        rw [this]; rfl
      · exact foldl_set_length _ D s.E
  · cases hc
end Go.Tx
