/-
  ONE LAW OF A CHAPTER: its program side is run by an interpreter that is proved sound; what it computes is shown to be what the law says. No conditions. Part 5 of 6.
-/
import Derived.Test.YtbcdgfgacigaoaaMLd
import Derived.Deep.Slices
import Derived.Carry
import Derived.ChangeBears2
import Derived.ChangeSame
import Derived.JoinedCond
import Derived.OpenShut
import Derived.ProofKit
import Derived.Test.YtbcdgfgacigaoaaProg
import Derived.KernelRfl
import Derived.Test.YtbcdgfgacigaoaaRows
import Derived.WalkKit
set_option linter.unusedSimpArgs false
set_option linter.unusedVariables false
set_option linter.unnecessarySimpa false
section
set_option linter.unusedVariables false
namespace Go.Tx
open Go Go.Ab
variable {P : Program} {H : Hints} {f : FuncId}
def lookM (M : List TLevel) (l s : Nat) : Option (Option (List TV)) := match M[l]? with
  | some b => lookT b s
  | none => none
def lookV (M : List Level) (l s : Nat) : Option (List V) := match M[l]? with
  | some b => lookB b s
  | none => none
def RB : Option (Option (List TV)) → Option (List V) → Prop
  | none, b => b = none
  | some none, b => ∀ c, b = some c → isLp c = false
  | some (some c), b => ∃ c', b = some c' ∧ RVL c c'
structure LR (M : List TLevel) (M' : List Level) : Prop where
  len : M'.length = M.length
  rel : ∀ l s, RB (lookM M l s) (lookV M' l s)
  nd : ∀ b ∈ M', (b.map (·.1)).Nodup
def TSt.all (st : TSt) : List TLevel := st.L ++ [st.B]
def allV (s : St) : List Level := s.L ++ [s.B]
structure Rst (st : TSt) (s : St) : Prop where
  E : RVL st.E.toL s.E
  M : LR st.all (allV s)
theorem Rst.len {st : TSt} {s : St} (h : Rst st s) : s.L.length = st.L.length := by
  have := h.M.len; simp [TSt.all, allV] at this; exact this
theorem look_box {s : St} (r : Root) : s.box r = lookV (allV s) r.lvl r.slot := by
  obtain ⟨l, sl⟩ := r
  unfold St.box lookV allV
  by_cases h : l = s.L.length
  · subst h; simp
  · rw [if_neg h]
    by_cases hlt : l < s.L.length
    · simp only [List.getElem?_append_left hlt] <;> rfl
    · have h1 : s.L[l]? = none := by simp <;> omega
      have h2 : (s.L ++ [s.B])[l]? = none := by simp <;> omega
      simp only [h1, h2]
theorem tlook_box {st : TSt} (r : Root) : st.box r = match lookM st.all r.lvl r.slot with
    | some (some c) => some c
    | _ => none := by
  obtain ⟨l, sl⟩ := r
  unfold TSt.box lookM TSt.all
  by_cases h : l = st.L.length
  · subst h; simp <;> rfl
  · rw [if_neg h]
    by_cases hlt : l < st.L.length
    · simp only [List.getElem?_append_left hlt] <;> rfl
    · have h1 : st.L[l]? = none := by simp <;> omega
      have h2 : (st.L ++ [st.B])[l]? = none := by simp <;> omega
      simp only [h1, h2]
theorem box_some {st : TSt} {r : Root} {c : List TV} (h : st.box r = some c) : lookM st.all r.lvl r.slot = some (some c) := by
  rw [tlook_box] at h
  split at h
  · rename_i c' hc; cases h; exact hc
  · cases h
theorem Rst.box {st : TSt} {s : St} (h : Rst st s) {r : Root} {c : List TV} (hc : st.box r = some c) : ∃ c', s.box r = some c' ∧ RVL c c' := by
  have := h.M.rel r.lvl r.slot
  rw [box_some hc] at this
  rw [look_box]; exact this
theorem Rst.bx {st : TSt} {s : St} (h : Rst st s) (r : Root) : BxR (st.box r) (s.box r) := by
  cases hc : st.box r with
  | none => trivial
  | some c => exact h.box hc
theorem lookT_setT (b : TLevel) (s s' : Nat) (c : Option (List TV)) : lookT (setT b s c) s' = if s' = s then (lookT b s).map (fun _ => c) else lookT b s' := by
  induction b with
  | nil => simp [setT, lookT]
  | cons p b ih =>
    obtain ⟨k, d⟩ := p
    by_cases h : k = s
    · subst h
      by_cases h2 : k = s'
      · subst h2; simp [setT, lookT]
      · simp [setT, lookT, h2, Ne.symm h2]
    · by_cases h2 : k = s'
      · subst h2; simp [setT, lookT, h]
      · simp [setT, lookT, h, h2, ih]
theorem lookB_setB (b : Level) (s s' : Nat) (c : List V) : lookB (setB b s c) s' = if s' = s then (lookB b s).map (fun _ => c) else lookB b s' := by
  induction b with
  | nil => simp [setB, lookB]
  | cons p b ih =>
    obtain ⟨k, d⟩ := p
    by_cases h : k = s
    · subst h
      by_cases h2 : k = s'
      · subst h2; simp [setB, lookB]
      · simp [setB, lookB, h2, Ne.symm h2]
    · by_cases h2 : k = s'
      · subst h2; simp [setB, lookB, h]
      · simp [setB, lookB, h, h2, ih]
theorem keys_setB (b : Level) (s : Nat) (c : List V) : (setB b s c).map (·.1) = b.map (·.1) := by
  induction b with
  | nil => rfl
  | cons p b ih =>
    obtain ⟨k, d⟩ := p
    by_cases h : k = s <;> simp [setB, h, ih]
theorem lookM_modify (M : List TLevel) (l : Nat) (g : TLevel → TLevel) (l' s : Nat) : lookM (M.modify l g) l' s = if l' = l then (match M[l]? with | some b => lookT (g b) s | none => none) else lookM M l' s := by
  unfold lookM
  rw [List.getElem?_modify]
  by_cases h : l' = l
  · subst h
    rw [if_pos rfl]
    cases M[l']? with
    | none => rfl
    | some b => simp
  · rw [if_neg h]
    cases M[l']? with
    | none => rfl
    | some b => simp [Ne.symm h]
theorem lookV_modify (M : List Level) (l : Nat) (g : Level → Level) (l' s : Nat) : lookV (M.modify l g) l' s = if l' = l then (match M[l]? with | some b => lookB (g b) s | none => none) else lookV M l' s := by
  unfold lookV
  rw [List.getElem?_modify]
  by_cases h : l' = l
  · subst h
    rw [if_pos rfl]
    cases M[l']? with
    | none => rfl
    | some b => simp
  · rw [if_neg h]
    cases M[l']? with
    | none => rfl
    | some b => simp [Ne.symm h]
theorem modify_last {α : Type} (g : α → α) (b : α) : ∀ L : List α, (L ++ [b]).modify L.length g = L ++ [g b]
  | [] => rfl
  | x :: L => by simp [modify_last g b L]
theorem modify_left {α : Type} (g : α → α) (b : α) : ∀ (L : List α) {l : Nat}, l ≠ L.length → (L ++ [b]).modify l g = L.modify l g ++ [b]
  | [], l, h => by
    cases l with
    | zero => simp at h
    | succ n => simp
  | x :: L, l, h => by
    cases l with
    | zero => simp
    | succ n =>
      have := modify_left g b L (l := n) (by simpa using h)
      simp [this]
theorem setBox_all (s : St) (r : Root) (c : List V) : allV (s.setBox r c) = (allV s).modify r.lvl (fun b => setB b r.slot c) := by
  unfold St.setBox allV
  by_cases h : r.lvl = s.L.length
  · rw [if_pos h, h, modify_last]
  · rw [if_neg h, modify_left _ _ _ h]
theorem tsetBox_all (st : TSt) (r : Root) (c : List TV) : (st.setBox r c).all = st.all.modify r.lvl (fun b => setT b r.slot (some c)) := by
  unfold TSt.setBox TSt.all
  by_cases h : r.lvl = st.L.length
  · rw [if_pos h, h, modify_last]
  · rw [if_neg h, modify_left _ _ _ h]
theorem forget_all (st : TSt) (rs : List Root) (r : Root) : (st.forget rs r).all = st.all.modify r.lvl (fun b => anyB rs b r.slot) := by
  unfold TSt.forget TSt.all
  by_cases h : r.lvl = st.L.length
  · rw [if_pos h, h, modify_last]
  · rw [if_neg h, modify_left _ _ _ h]
theorem mem_modify {α : Type} {g : α → α} {b : α} : ∀ {M : List α} {l : Nat}, b ∈ M.modify l g → b ∈ M ∨ ∃ b' ∈ M, b = g b'
  | [], l, h => by cases l <;> simp at h
  | x :: M, 0, h => by
    simp only [List.modify_zero_cons, List.mem_cons] at h
    rcases h with rfl | h
    · exact .inr ⟨x, by simp, rfl⟩
    · exact .inl (by simp [h])
  | x :: M, l + 1, h => by
    simp only [List.modify_succ_cons, List.mem_cons] at h
    rcases h with rfl | h
    · exact .inl (by simp)
    · rcases mem_modify h with h | ⟨b', h1, h2⟩
      · exact .inl (by simp [h])
      · exact .inr ⟨b', by simp [h1], h2⟩
theorem LR.setBox {M : List TLevel} {M' : List Level} (h : LR M M') (l s : Nat) {c : List TV} {c' : List V} (hd : lookM M l s ≠ some none) (hc : RVL c c') :
    LR (M.modify l fun b => setT b s (some c)) (M'.modify l fun b => setB b s c') where
  len := by simp [h.len]
  rel := fun l2 s2 => by
    rw [lookM_modify, lookV_modify]
    by_cases e : l2 = l
    · subst e
      rw [if_pos rfl, if_pos rfl]
      have key := h.rel l2 s2
      have key2 := h.rel l2 s
      unfold lookM lookV at key key2
      cases h1 : M[l2]? with
      | none =>
        have h2 : M'[l2]? = none := by rw [List.getElem?_eq_none_iff] at h1 ⊢; rw [h.len]; exact h1
        rw [h2]; rfl
      | some b =>
        have h2 : ∃ b', M'[l2]? = some b' := by
          have := (List.getElem?_eq_some_iff.1 h1).1
          exact ⟨_, List.getElem?_eq_getElem (by rw [h.len]; exact this)⟩
        obtain ⟨b', h2⟩ := h2
        rw [h1, h2] at key key2
        rw [h2]
        simp only at key key2 ⊢
        rw [lookT_setT, lookB_setB]
        by_cases e2 : s2 = s
        · subst e2
          rw [if_pos rfl, if_pos rfl]
          cases hl : lookT b s2 with
          | none => rw [hl] at key; simp only [RB] at key; rw [key] <;> rfl
          | some o =>
            rw [hl] at key
            cases o with
            | none =>
              exact absurd (by unfold lookM; rw [h1]; exact hl) hd
            | some d =>
              obtain ⟨d', hd', _⟩ := key
              rw [hd']
              exact ⟨c', rfl, hc⟩
        · rw [if_neg e2, if_neg e2]; exact key
    · rw [if_neg e, if_neg e]; exact h.rel l2 s2
  nd := fun b hb => by
    rcases mem_modify hb with hb | ⟨b', hb', rfl⟩
    · exact h.nd b hb
    · rw [keys_setB]; exact h.nd b' hb'
structure Fr2 (st st' : TSt) (s s' : St) : Prop where
  wt : ∀ t ∈ st.Wt, t ∈ st'.Wt
  wb : ∀ r ∈ st.Wb, r ∈ st'.Wb
  e : ∀ t, t ∉ st'.Wt → s'.E[t]? = s.E[t]? ∨ ((∃ rs, st.E.toL[t]? = some (.any rs)) ∧ s'.E[t]? = some .undef)
  an : ∀ t, t ∉ st'.Wt → ∀ rs, st'.E.toL[t]? = some (.any rs) → ∃ rs', st.E.toL[t]? = some (.any rs')
  b : ∀ r, r ∉ st'.Wb → s'.box r = s.box r ∨ (s.L.length = 0 ∧ st.box r = none ∧ (s'.box r).isSome = (s.box r).isSome ∧ ∀ c, s'.box r = some c → isLp c = false)
  bn : ∀ r, r ∉ st'.Wb → (st.box r).isSome = true → (st'.box r).isSome = true
  len : s'.L.length = s.L.length
  elen : s'.E.length = s.E.length
theorem Fr2.refl (st : TSt) (s : St) : Fr2 st st s s := ⟨fun _ h => h, fun _ h => h, fun _ _ => .inl rfl, fun _ _ rs h => ⟨rs, h⟩, fun _ _ => .inl rfl, fun _ _ h => h, rfl, rfl⟩
theorem Fr2.trans {a b c : TSt} {s t u : St} (h : Fr2 a b s t) (h' : Fr2 b c t u) : Fr2 a c s u where
  wt := fun x hx => h'.wt x (h.wt x hx)
  wb := fun x hx => h'.wb x (h.wb x hx)
  e := fun x hx => by
    have hx1 : x ∉ b.Wt := fun hh => hx (h'.wt x hh)
    rcases h'.e x hx with h1 | ⟨⟨rs, h1⟩, h2⟩
    · rw [h1]; exact h.e x hx1
    · exact .inr ⟨h.an x hx1 rs h1, h2⟩
  an := fun x hx rs hr => by
    obtain ⟨rs', h1⟩ := h'.an x hx rs hr
    exact h.an x (fun hh => hx (h'.wt x hh)) rs' h1
  b := fun x hx => by
    have hx1 : x ∉ b.Wb := fun hh => hx (h'.wb x hh)
    rcases h'.b x hx with h1 | ⟨h0, h1, h2, h3⟩
    · rw [h1]; exact h.b x hx1
    · right
      have hn : a.box x = none := by
        cases hb : a.box x with
        | none => rfl
        | some c => have := h.bn x hx1 (by rw [hb]; rfl); rw [h1] at this; cases this
      refine ⟨by rw [← h.len]; exact h0, hn, ?_, h3⟩
      rcases h.b x hx1 with h4 | ⟨_, _, h4, _⟩
      · rw [h2, h4]
      · rw [h2, h4]
  bn := fun x hx hs => h'.bn x hx (h.bn x (fun hh => hx (h'.wb x hh)) hs)
  len := by rw [h'.len, h.len]
  elen := by rw [h'.elen, h.elen]
theorem rvl_of_get : ∀ {l : List TV} {l' : List V}, l'.length = l.length → (∀ (i : Nat) x v, l[i]? = some x → l'[i]? = some v → RV x v) → RVL l l'
  | [], l', hl, _ => by simp at hl; simp [hl, RVL]
  | x :: l, [], hl, _ => by simp at hl
  | x :: l, v :: m, hl, h => rvl_cons.2 ⟨h 0 x v rfl rfl, rvl_of_get (by simpa using hl) fun i y u h1 h2 => h (i + 1) y u (by simpa using h1) (by simpa using h2)⟩
theorem set_get {α : Type} (E : List α) (t i : Nat) (a : α) : (E.set t a)[i]? = if t = i then (E[i]?).map (fun _ => a) else E[i]? := by
  rw [List.getElem?_set]
  by_cases e : t = i
  · subst e
    rw [if_pos rfl, if_pos rfl]
    by_cases hlt : t < E.length
    · simp [hlt]
    · simp [hlt]
  · rw [if_neg e, if_neg e]
theorem foldl_set_get {α : Type} (a : α) : ∀ (D : List Tmp) (E : List α) (i : Nat), (D.foldl (fun E t => E.set t a) E)[i]? = if i ∈ D then (E[i]?).map (fun _ => a) else E[i]?
  | [], E, i => by simp
  | t :: D, E, i => by
    simp only [List.foldl_cons]
    rw [foldl_set_get a D, set_get]
    by_cases h : i ∈ D
    · rw [if_pos h, if_pos (List.mem_cons_of_mem _ h)]
      split
      · cases E[i]? <;> rfl
      · rfl
    · rw [if_neg h]
      by_cases e : t = i
      · subst e
        rw [if_pos rfl, if_pos List.mem_cons_self]
      · rw [if_neg e, if_neg (by simp [h, Ne.symm e])]
theorem foldl_set_length {α : Type} (a : α) : ∀ (D : List Tmp) (E : List α), (D.foldl (fun E t => E.set t a) E).length = E.length
  | [], E => rfl
  | t :: D, E => by simp only [List.foldl_cons]; rw [foldl_set_length a D]; simp
def gone (rs : List Root) : Option (Option (List TV)) → Option (Option (List TV))
  | some (some cs) => some (some (cs.map fun _ => .any rs))
  | _ => some none
theorem gone_gone (rs : List Root) (o : Option (Option (List TV))) : gone rs (gone rs o) = gone rs o := by
  cases o with
  | none => rfl
  | some o => cases o with
    | none => rfl
    | some cs => simp [gone]
theorem lookT_anyB (rs : List Root) (b : TLevel) (s s' : Nat) : lookT (anyB rs b s) s' = if s' = s then gone rs (lookT b s) else lookT b s' := by
  unfold anyB
  split
  · rename_i h
    by_cases e : s' = s
    · subst e; simp [lookT, h, gone]
    · simp [lookT, e, Ne.symm e]
  · rename_i h
    by_cases e : s' = s
    · subst e; simp [h, gone]
    · simp [e]
  · rename_i cs h
    rw [lookT_setT]
    by_cases e : s' = s
    · subst e; simp [h, gone]
    · simp [e]
theorem lookM_forget (st : TSt) (rs : List Root) (r : Root) (l s : Nat) : lookM (st.forget rs r).all l s = if l = r.lvl ∧ s = r.slot ∧ l < st.all.length then gone rs (lookM st.all l s) else lookM st.all l s := by
  rw [forget_all, lookM_modify]
  by_cases e : l = r.lvl
  · subst e
    rw [if_pos rfl]
    unfold lookM
    cases h : st.all[r.lvl]? with
    | none =>
      have : ¬ r.lvl < st.all.length := by rw [List.getElem?_eq_none_iff] at h; omega
      rw [if_neg (fun hh => this hh.2.2)]
    | some b =>
      have hlt := (List.getElem?_eq_some_iff.1 h).1
      simp only
      rw [lookT_anyB]
      by_cases e2 : s = r.slot
      · subst e2; simp [hlt]
      · simp [e2]
  · rw [if_neg e, if_neg (by simp [e])]
theorem forget_len (st : TSt) (rs : List Root) (r : Root) : (st.forget rs r).all.length = st.all.length := by rw [forget_all]; simp
theorem forget_E (st : TSt) (rs : List Root) (r : Root) : (st.forget rs r).E = st.E := by unfold TSt.forget; split <;> rfl
theorem lookM_forgets (rs : List Root) (l s : Nat) : ∀ (wr : List Root) (st : TSt), lookM (wr.foldl (fun st r => st.forget rs r) st).all l s = if (⟨l, s⟩ : Root) ∈ wr ∧ l < st.all.length then gone rs (lookM st.all l s) else lookM st.all l s
  | [], st => by simp
  | r :: wr, st => by
    simp only [List.foldl_cons]
    rw [lookM_forgets rs l s wr, forget_len, lookM_forget]
    by_cases h1 : l = r.lvl ∧ s = r.slot ∧ l < st.all.length
    · rw [if_pos h1]
      have hr : (⟨l, s⟩ : Root) = r := by obtain ⟨e1, e2, _⟩ := h1; cases r; simp_all
      rw [gone_gone, if_pos (⟨by simp [hr], h1.2.2⟩ : (⟨l, s⟩ : Root) ∈ r :: wr ∧ l < st.all.length)]
      split <;> rfl
    · rw [if_neg h1]
      by_cases h2 : (⟨l, s⟩ : Root) ∈ wr ∧ l < st.all.length
      · rw [if_pos h2, if_pos ⟨by simp [h2.1], h2.2⟩]
      · rw [if_neg h2, if_neg]
        rintro ⟨h3, h4⟩
        rcases List.mem_cons.1 h3 with h3 | h3
        · exact h1 ⟨by rw [← h3], by rw [← h3], h4⟩
        · exact h2 ⟨h3, h4⟩
theorem forgets_E (rs : List Root) : ∀ (wr : List Root) (st : TSt), (wr.foldl (fun st r => st.forget rs r) st).E = st.E
  | [], st => rfl
  | r :: wr, st => by simp only [List.foldl_cons]; rw [forgets_E rs wr, forget_E]
theorem forgets_len (rs : List Root) : ∀ (wr : List Root) (st : TSt), (wr.foldl (fun st r => st.forget rs r) st).all.length = st.all.length
  | [], st => rfl
  | r :: wr, st => by simp only [List.foldl_cons]; rw [forgets_len rs wr, forget_len]
def vget (s : St) (p : Place) : Option V := match p.lvl with
  | none => s.E[p.slot]?
  | some l => (s.box ⟨l, p.slot⟩).bind (·[p.cell]?)
theorem rvl_set_same {l : List TV} {l' : List V} (h : RVL l l') (i : Nat) {x : TV} (hx : ∀ u, l'[i]? = some u → RV x u) : RVL (l.set i x) l' := by
  refine rvl_of_get (by simp [h.length]) fun k y v hy hv => ?_
  rw [List.getElem?_set] at hy
  split at hy
  · rename_i e; subst e
    split at hy
    · cases hy; exact hx v hv
    · cases hy
  · obtain ⟨u, hu, hr⟩ := h.get hy
    rw [hv] at hu; cases hu; exact hr
theorem Rst.setPlace {st : TSt} {s : St} (h : Rst st s) {p : Place} {v : TV} (hv : ∀ u, vget s p = some u → RV v u) : Rst (st.setPlace p v) s := by
  unfold TSt.setPlace
  cases hl : p.lvl with
  | none => exact ⟨by rw [toL_set]; exact rvl_set_same h.E _ fun u hu => hv u (by unfold vget; rw [hl]; exact hu), h.M⟩
  | some l =>
    simp only
    cases hb : st.box ⟨l, p.slot⟩ with
    | none => exact h
    | some cs =>
      simp only
      obtain ⟨c', hc', hr⟩ := h.box hb
      have hset : RVL (cs.set p.cell v) c' := rvl_set_same hr _ fun u hu => hv u (by unfold vget; rw [hl]; simp only; rw [hc']; exact hu)
      refine ⟨?_, ?_⟩
      · have : ({ st.setBox ⟨l, p.slot⟩ (cs.set p.cell v) with Wb := st.Wb } : TSt).E = st.E := by simp only [TSt.setBox]; split <;> rfl
        rw [this]; exact h.E
      · have e1 : ({ st.setBox ⟨l, p.slot⟩ (cs.set p.cell v) with Wb := st.Wb } : TSt).all = (st.setBox ⟨l, p.slot⟩ (cs.set p.cell v)).all := rfl
        rw [e1, tsetBox_all]
        refine ⟨by rw [h.M.len]; simp, fun l2 s2 => ?_, h.M.nd⟩
        rw [lookM_modify]
        have hlook := box_some hb
        simp only at hlook ⊢
        by_cases e : l2 = l
        · subst e
          rw [if_pos rfl]
          have key := h.M.rel l2 s2
          unfold lookM at key hlook
          cases h1 : st.all[l2]? with
          | none => rw [h1] at hlook; cases hlook
          | some b =>
            rw [h1] at key hlook
            simp only at key hlook ⊢
            rw [lookT_setT]
            by_cases e2 : s2 = p.slot
            · subst e2
              rw [if_pos rfl, hlook]
              rw [look_box] at hc'
              exact ⟨c', hc', hset⟩
            · rw [if_neg e2]; exact key
        · rw [if_neg e]; exact h.M.rel l2 s2
theorem setPlaces_ok {s : St} : ∀ (ps : List Place) (vs : List TV) (st : TSt), Rst st s → (∀ p v, (p, v) ∈ ps.zip vs → ∀ u, vget s p = some u → RV v u) → Rst (setPlaces st ps vs) s
  | [], vs, st, h, _ => by cases vs <;> exact h
  | p :: ps, [], st, h, _ => h
  | p :: ps, v :: vs, st, h, hv => setPlaces_ok ps vs _ (h.setPlace (hv p v (by simp))) fun q w hq => hv q w (by simp [hq])
theorem asTy_any : ∀ (τ : Ty) (o : Nat) (rs : List Root), asTy τ o (.any rs) = none
  | .int _, _, _ | .bool, _, _ | .str, _, _ | .sl _, _, _ | .unit, _, _ | .pair .., _, _ => rfl
theorem Rst.get {st : TSt} {s : St} (h : Rst st s) {p : Place} (hp : ∀ rs, st.get p ≠ .any rs) {u : V} (hu : vget s p = some u) : RV (st.get p) u := by
  unfold TSt.get at hp ⊢
  unfold vget at hu
  cases hl : p.lvl with
  | none =>
    rw [hl] at hu hp
    simp only at hu hp ⊢
    have := h.E.getD p.slot
    rw [← get_getD, List.getD_eq_getElem?_getD, hu] at this
    exact this
  | some l =>
    rw [hl] at hu hp
    simp only at hu hp ⊢
    cases hb : st.box ⟨l, p.slot⟩ with
    | none => rw [hb] at hp; exact absurd rfl (hp [])
    | some cs =>
      obtain ⟨c', hc', hr⟩ := h.box hb
      rw [hc'] at hu
      simp only [Option.bind_some] at hu
      have := hr.getD p.cell
      rw [List.getD_eq_getElem?_getD, List.getD_eq_getElem?_getD, hu] at this
      simp only
      rw [List.getD_eq_getElem?_getD]
      exact this
theorem collect_ok {st : TSt} {s : St} (h : Rst st s) : ∀ (ps : List (Ty × Nat)) (lv : List Place) (x : denL (ps.map (·.1))), asL ps (lv.map st.get) = some x →
    ∀ p v, (p, v) ∈ lv.zip (ofL ps x) → ∀ u, vget s p = some u → RV v u ∧ u.ptrs = [] ∧ isLp [u] = false
  | [], lv, x, hx, p, v, hm, u, hu => by simp [ofL] at hm
  | [(τ, o)], lv, x, hx, p, v, hm, u, hu => by
    match lv, hx, hm with
    | [q], hx, hm =>
      simp only [List.map_cons, List.map_nil, asL] at hx
      simp only [ofL, List.zip_cons_cons, List.zip_nil_right, List.mem_singleton, Prod.mk.injEq] at hm
      obtain ⟨rfl, rfl⟩ := hm
      have hg := h.get (p := p) (fun rs e => by rw [e, asTy_any] at hx; cases hx) hu
      have hr := asTy_ok _ _ _ _ _ hx hg
      have hrv := rv_ofTy _ _ _ _ hr
      exact ⟨hrv, rty_ptrs _ _ _ _ hr, rvl_notLp (rvl_cons.2 ⟨hrv, rvl_nil⟩)⟩
    | [], hx, hm => simp [asL] at hx
    | _ :: _ :: _, hx, hm => simp [asL] at hx
  | (τ, o) :: q' :: ps, lv, x, hx, p, v, hm, u, hu => by
    match lv, hx, hm with
    | [], hx, hm => simp [asL] at hx
    | q :: lv, hx, hm =>
      simp only [List.map_cons, asL] at hx
      obtain ⟨y, hy, hx⟩ := Option.bind_eq_some_iff.1 hx
      obtain ⟨z, hz, hx⟩ := Option.bind_eq_some_iff.1 hx
      simp only [Option.some.injEq] at hx
      subst hx
      simp only [ofL, List.zip_cons_cons, List.mem_cons, Prod.mk.injEq] at hm
      rcases hm with ⟨rfl, rfl⟩ | hm
      · have hg := h.get (p := p) (fun rs e => by rw [e, asTy_any] at hy; cases hy) hu
        have hr := asTy_ok _ _ _ _ _ hy hg
        have hrv := rv_ofTy _ _ _ _ hr
        exact ⟨hrv, rty_ptrs _ _ _ _ hr, rvl_notLp (rvl_cons.2 ⟨hrv, rvl_nil⟩)⟩
      · exact collect_ok h (q' :: ps) lv z (by simpa using hz) p v hm u hu
theorem asL_length : ∀ (ps : List (Ty × Nat)) (l : List TV) (x : denL (ps.map (·.1))), asL ps l = some x → (ofL ps x).length = l.length
  | [], l, x, h => by cases l with
    | nil => rfl
    | cons => simp [asL] at h
  | [(τ, o)], l, x, h => by
    match l, h with
    | [v], h => rfl
    | [], h => simp [asL] at h
    | _ :: _ :: _, h => simp [asL] at h
  | (τ, o) :: q :: ps, l, x, h => by
    match l, h with
    | [], h => simp [asL] at h
    | v :: l, h =>
      simp only [asL] at h
      obtain ⟨y, hy, h⟩ := Option.bind_eq_some_iff.1 h
      obtain ⟨z, hz, h⟩ := Option.bind_eq_some_iff.1 h
      simp only [Option.some.injEq] at h
      subst h
      simp [ofL, asL_length (q :: ps) l z hz]
theorem isIn_mem {lv : List Place} {l : Option Nat} {s c : Nat} (h : Place.isIn lv l s c = true) : (⟨l, s, c⟩ : Place) ∈ lv := by
  unfold Place.isIn at h
  rw [List.any_eq_true] at h
  obtain ⟨p, hp, h⟩ := h
  simp only [Bool.and_eq_true, decide_eq_true_eq] at h
  obtain ⟨⟨rfl, rfl⟩, rfl⟩ := h
  exact hp
theorem isIn_some {lv : List Place} {vs : List TV} (hl : vs.length = lv.length) {p : Place} (h : p ∈ lv) : ∃ v, (p, v) ∈ lv.zip vs := by
  obtain ⟨i, hi⟩ := List.mem_iff_getElem?.1 h
  have hlt := (List.getElem?_eq_some_iff.1 hi).1
  refine ⟨vs[i]'(by omega), List.mem_iff_getElem?.2 ⟨i, ?_⟩⟩
  rw [List.getElem?_zip_eq_some]
  exact ⟨hi, List.getElem?_eq_getElem _⟩
theorem subset_mem {l m : List Root} (h : Go.Tx.subset l m = true) : ∀ r ∈ l, r ∈ m := fun r hr => by
  unfold Go.Tx.subset at h
  rw [List.all_eq_true] at h
  simpa using h r hr
theorem rebuild_ok {st st2 : TSt} {s s' : St} {j : Join} {x : denL (j.ps.map (·.1))} (h : Rst st s) (h2 : Rst st2 s') (hf : Fr2 st.fresh st2 s s') (ho : st2.outs st j = some x) : Rst (st.rebuild j (ofL j.ps x)) s' := by
  unfold TSt.outs at ho
  split at ho
  · rename_i hc
    simp only [Bool.and_eq_true] at hc
    obtain ⟨⟨hfor, hwr⟩, hlike⟩ := hc
    have hcol := collect_ok h2 j.ps j.lv x ho
    have hlen : (ofL j.ps x).length = j.lv.length := by rw [asL_length _ _ _ ho]; simp
    unfold TSt.forgets at hfor
    simp only [Bool.and_eq_true, List.all_eq_true] at hfor
    obtain ⟨hD0, hW⟩ := hfor
    have hD : ∀ t ∈ j.D, ∀ x, st2.E.toL[t]? = some x → (Place.isIn j.lv none t 0 || Go.Tx.subset x.ptrs (j.rsAt t)) = true := fun t ht x hx => by
      have := all_get hD0 (fun i => by cases j.D.has i <;> simp [TV.ptrs, Go.Tx.subset]) hx
      rw [Mask.mem_iff] at ht
      rw [ht] at this
      exact this
    unfold TSt.wrote at hwr
    simp only [Bool.and_eq_true, List.all_eq_true] at hwr
    obtain ⟨hwt0, hwb⟩ := hwr
    have hwt : ∀ t ∈ st2.Wt, t ∈ j.D := fun t ht => Mask.sub_mem hwt0 ht
    unfold TSt.like at hlike
    rw [List.all_eq_true] at hlike
    unfold TSt.rebuild
    refine setPlaces_ok _ _ _ ⟨?_, ?_⟩ fun p v hm u hu => (hcol p v hm u hu).1
    · -- temporaries
      show RVL (j.wr.foldl (fun (st : TSt) r => st.forget j.rb r) { st with E := forgetM j.D j.rsAt st.E }).E.toL s'.E
      rw [forgets_E]
      refine rvl_of_get ?_ fun i y v hy hv => ?_
      · simp only; rw [forgetM_len, hf.elen, h.E.length]
      · simp only at hy
        rw [forgetM_get] at hy
        split at hy
        · rename_i hi
          obtain ⟨z, hz, rfl⟩ := Option.map_eq_some_iff.1 hy
          obtain ⟨x2, hx2⟩ : ∃ x2, st2.E.toL[i]? = some x2 := by
            have hlt := (List.getElem?_eq_some_iff.1 hv).1
            have := h2.E.length
            exact ⟨_, List.getElem?_eq_getElem (by omega)⟩
          have hi' := hD i hi x2 hx2
          simp only [Bool.or_eq_true] at hi'
          simp only [RV]
          rcases hi' with hi' | hi'
          · obtain ⟨w, hw⟩ := isIn_some hlen (isIn_mem hi')
            obtain ⟨_, hp, hlp⟩ := hcol _ w hw v (by unfold vget; exact hv)
            exact ⟨by rw [hp]; simp, hlp⟩
          · obtain ⟨v2, hv2, hg⟩ := h2.E.get hx2
            rw [hv] at hv2; cases hv2
            refine ⟨fun r hr => subset_mem hi' r (RV.ptrs _ _ hg r hr), rvl_notLp (rvl_cons.2 ⟨hg, rvl_nil⟩)⟩
        · rename_i hi
          have : i ∉ st2.Wt := fun hh => hi (hwt i hh)
          obtain ⟨u, hu, hr⟩ := h.E.get hy
          rcases hf.e i this with he | ⟨⟨rs, he1⟩, he2⟩
          · rw [hv] at he
            rw [← he] at hu; cases hu; exact hr
          · rw [he2] at hv; cases hv
            have he1 : st.E.toL[i]? = some (.any rs) := he1
            rw [hy] at he1; cases he1
            exact rv_undef rs
    · -- boxes
      show LR (j.wr.foldl (fun (st : TSt) r => st.forget j.rb r) { st with E := forgetM j.D j.rsAt st.E }).all (allV s')
      refine ⟨?_, fun l sl => ?_, h2.M.nd⟩
      · rw [forgets_len]
        have := hf.len
        have := h.M.len
        simp [TSt.all, allV] at this ⊢
        omega
      · rw [lookM_forgets]
        have hall : ({ st with E := forgetM j.D j.rsAt st.E } : TSt).all = st.all := rfl
        rw [hall]
        split
        · rename_i hm
          have hbx := look_box (s := s') ⟨l, sl⟩
          simp only at hbx
          have key2 := h2.M.rel l sl
          have hnl : ∀ c, lookV (allV s') l sl = some c → isLp c = false := fun c hc => by
            cases hk : lookM st2.all l sl with
            | none => rw [hk] at key2; simp only [RB] at key2; rw [key2] at hc; cases hc
            | some o =>
              rw [hk] at key2
              cases o with
              | none => exact key2 c hc
              | some d => obtain ⟨d', hd', hr⟩ := key2; rw [hd'] at hc; cases hc; exact rvl_notLp hr
          cases hk : lookM st.all l sl with
          | none => exact hnl
          | some o =>
            cases o with
            | none => exact hnl
            | some cs =>
              have hb : st.box ⟨l, sl⟩ = some cs := by rw [tlook_box]; simp only; rw [hk]
              have hli := hlike _ hm.1
              rw [hb] at hli
              simp only at hli
              split at hli
              · rename_i cs2 hb2
                simp only [decide_eq_true_eq] at hli
                obtain ⟨c', hc', hr⟩ := h2.box hb2
                rw [hbx] at hc'
                refine ⟨c', hc', ?_⟩
                refine rvl_of_get (by simp [hr.length, hli]) fun i y v hy hv => ?_
                rw [List.getElem?_map] at hy
                obtain ⟨z, hz, rfl⟩ := Option.map_eq_some_iff.1 hy
                have hi : i < cs2.length := by have := (List.getElem?_eq_some_iff.1 hz).1; omega
                have hw := hW _ hm.1
                rw [hb2] at hw
                simp only [List.all_eq_true] at hw
                have hw' := hw i (by simpa using hi)
                simp only [Bool.or_eq_true] at hw'
                simp only [RV]
                rcases hw' with hw' | hw'
                · obtain ⟨w, hww⟩ := isIn_some hlen (isIn_mem hw')
                  obtain ⟨_, hp, hlp⟩ := hcol _ w hww v (by unfold vget; simp only; rw [hbx, hc']; exact hv)
                  exact ⟨by rw [hp]; simp, hlp⟩
                · have hg := hr.getD i
                  rw [List.getD_eq_getElem?_getD (l := c'), hv] at hg
                  exact ⟨fun r hrr => subset_mem hw' r (RV.ptrs _ _ hg r hrr), rvl_notLp (rvl_cons.2 ⟨hg, rvl_nil⟩)⟩
              · cases hli
        · rename_i hm
          have key := h.M.rel l sl
          by_cases hlt : l < st.all.length
          · have hnr : (⟨l, sl⟩ : Root) ∉ st2.Wb := fun hh => by
              have := hwb _ hh
              simp only [Bool.or_eq_true, decide_eq_true_eq] at this
              rcases this with h3 | h3
              · exact hm ⟨by simpa using h3, hlt⟩
              · have h4 := h2.len
                have h5 := hf.len
                have h6 := h.len
                simp [TSt.all] at hlt
                omega
            rcases hf.b _ hnr with hb | ⟨_, hb0, hb1, hb2⟩
            · rw [look_box, look_box] at hb
              simp only at hb
              rw [hb]; exact key
            · rw [look_box, look_box] at hb1
              rw [look_box] at hb2
              simp only at hb1 hb2
              have hb0 : st.box ⟨l, sl⟩ = none := hb0
              rw [tlook_box] at hb0
              simp only at hb0
              cases hk : lookM st.all l sl with
              | none =>
                rw [hk] at key
                simp only [RB] at key ⊢
                rw [key] at hb1
                simpa using hb1
              | some o =>
                cases o with
                | none => exact hb2
                | some c => rw [hk] at hb0; cases hb0
          · have h1 : lookM st.all l sl = none := by
              unfold lookM
              rw [List.getElem?_eq_none (by omega)]
            have h3 : lookV (allV s') l sl = none := by
              unfold lookV
              have hl := hf.len
              have hl2 := h.len
              rw [List.getElem?_eq_none]
              simp [TSt.all, allV] at hlt ⊢
              omega
            rw [h1, h3]; rfl
  · cases ho
theorem lookT_clear (D : List Tmp) (b : TLevel) (s : Nat) : lookT (clearTB D b) s = if D.contains s then none else lookT b s := by
  induction b with
  | nil => simp [clearTB, lookT]
  | cons p b ih =>
    obtain ⟨k, c⟩ := p
    simp only [clearTB]
    by_cases h : D.contains k = true
    · rw [if_pos h, ih]
      by_cases e : k = s
      · subst e; rw [if_pos h, if_pos h]
      · simp only [lookT, if_neg e]
    · rw [if_neg h]
      by_cases e : k = s
      · subst e; simp only [lookT, if_true]; rw [if_neg h]
      · simp only [lookT, if_neg e, ih]
theorem lookB_clear (D : List Tmp) (b : Level) (s : Nat) : lookB (clearB D b) s = if D.contains s then none else lookB b s := by
  induction b with
  | nil => simp [clearB, lookB]
  | cons p b ih =>
    obtain ⟨k, c⟩ := p
    simp only [clearB]
    by_cases h : D.contains k = true
    · rw [if_pos h, ih]
      by_cases e : k = s
      · subst e; rw [if_pos h, if_pos h]
      · simp only [lookB, if_neg e]
    · rw [if_neg h]
      by_cases e : k = s
      · subst e; simp only [lookB, if_true]; rw [if_neg h]
      · simp only [lookB, if_neg e, ih]
theorem lookB_mem {b : Level} (hn : (b.map (·.1)).Nodup) {k : Nat} {c : List V} (h : (k, c) ∈ b) : lookB b k = some c := by
  induction b with
  | nil => cases h
  | cons p b ih =>
    obtain ⟨k', c'⟩ := p
    simp only [List.map_cons, List.nodup_cons] at hn
    rcases List.mem_cons.1 h with h | h
    · cases h; simp [lookB]
    · have : k' ≠ k := fun e => hn.1 (List.mem_map.2 ⟨_, h, e.symm⟩)
      simp only [lookB, if_neg this]
      exact ih hn.2 h
theorem lookT_mem {b : TLevel} {k : Nat} {c : Option (List TV)} (h : lookT b k = some c) : (k, c) ∈ b := by
  induction b with
  | nil => cases h
  | cons p b ih =>
    obtain ⟨k', c'⟩ := p
    simp only [lookT] at h
    split at h
    · rename_i e; cases h; subst e; simp
    · exact List.mem_cons.2 (.inr (ih h))
theorem ptrsB_mem {b : Level} {r : Root} (h : r ∈ ptrsB b) : ∃ k c, (k, c) ∈ b ∧ r ∈ ptrsL c := by
  induction b with
  | nil => simp [ptrsB] at h
  | cons p b ih =>
    obtain ⟨k, c⟩ := p
    simp only [ptrsB, List.mem_append] at h
    rcases h with h | h
    · exact ⟨k, c, by simp, h⟩
    · obtain ⟨k', c', h1, h2⟩ := ih h; exact ⟨k', c', by simp [h1], h2⟩
theorem mem_ptrsTB {b : TLevel} {k : Nat} {c : List TV} (h : (k, some c) ∈ b) {r : Root} (hr : r ∈ ptrsTL c) : r ∈ ptrsTB b := by
  induction b with
  | nil => cases h
  | cons p b ih =>
    obtain ⟨k', c'⟩ := p
    rcases List.mem_cons.1 h with h | h'
    · cases h; simp [ptrsTB, hr]
    · cases c' with
      | none => simp only [ptrsTB]; exact ih h'
      | some d => simp only [ptrsTB, List.mem_append]; exact .inr (ih h')
theorem full_mem {b : TLevel} (hf : fullB b = true) {k : Nat} {c : Option (List TV)} (h : (k, c) ∈ b) : ∃ d, c = some d := by
  induction b with
  | nil => cases h
  | cons p b ih =>
    obtain ⟨k', c'⟩ := p
    simp only [fullB, Bool.and_eq_true] at hf
    rcases List.mem_cons.1 h with h | h
    · cases h; exact Option.isSome_iff_exists.1 hf.1
    · exact ih hf.2 h
theorem clearTB_len {D : List Tmp} {b : TLevel} (h : (clearTB D b).length = b.length) : ∀ k c, (k, c) ∈ b → D.contains k = false := by
  induction b with
  | nil => simp
  | cons p b ih =>
    obtain ⟨k', c'⟩ := p
    have hle : ∀ b : TLevel, (clearTB D b).length ≤ b.length := fun b => by
      induction b with
      | nil => simp [clearTB]
      | cons p b ih => obtain ⟨k, c⟩ := p; simp only [clearTB]; split <;> simp <;> omega
    simp only [clearTB] at h
    intro k c hk
    split at h
    · have := hle b; simp at h; omega
    · rename_i hn
      rcases List.mem_cons.1 hk with hk | hk
      · cases hk; simpa using hn
      · exact ih (by simpa using h) k c hk
theorem clearB_same {D : List Tmp} {b : Level} (h : ∀ k c, (k, c) ∈ b → D.contains k = false) : clearB D b = b := by
  induction b with
  | nil => rfl
  | cons p b ih =>
    obtain ⟨k, c⟩ := p
    simp only [clearB]
    rw [if_neg (by rw [h k c (by simp)]; simp), ih fun k c hk => h k c (by simp [hk])]
theorem clearE_get (D : List Tmp) (E : List V) (i : Nat) : (clearE D E)[i]? = if i ∈ D then (E[i]?).map (fun _ => .undef) else E[i]? := foldl_set_get _ D E i
theorem clearTE_get (D : List Tmp) (E : Env) (i : Nat) : (clearTE D E).toL[i]? = if i ∈ D then (E.toL[i]?).map (fun _ => .any []) else E.toL[i]? := by
  unfold clearTE
  rw [forgetM_get]
  by_cases h : i ∈ D
  · rw [if_pos h, if_pos (Mask.mem_ofList.2 h)]
  · rw [if_neg h, if_neg (fun hh => h (Mask.mem_ofList.1 hh))]
theorem clearE_rvl (D : List Tmp) {E : Env} {E' : List V} (h : RVL E.toL E') : RVL (clearTE D E).toL (clearE D E') := by
  refine rvl_of_get ?_ fun i x v hx hv => ?_
  · unfold clearTE clearE
    rw [forgetM_len, foldl_set_length, h.length]
  · rw [clearTE_get] at hx
    rw [clearE_get] at hv
    by_cases hm : i ∈ D
    · rw [if_pos hm] at hx hv
      obtain ⟨_, _, rfl⟩ := Option.map_eq_some_iff.1 hx
      obtain ⟨_, _, rfl⟩ := Option.map_eq_some_iff.1 hv
      exact rv_undef []
    · rw [if_neg hm] at hx hv
      obtain ⟨u, hu, hr⟩ := h.get hx
      rw [hv] at hu; cases hu; exact hr
theorem ptrsL_at : ∀ {l : List V} {r : Root}, r ∈ ptrsL l → ∃ (i : Nat) (v : V), l[i]? = some v ∧ r ∈ v.ptrs
  | [], r, h => by simp [ptrsL] at h
  | v :: l, r, h => by
    simp only [ptrsL, List.mem_append] at h
    rcases h with h | h
    · exact ⟨0, v, rfl, h⟩
    · obtain ⟨i, u, hu, hr⟩ := ptrsL_at h
      exact ⟨i + 1, u, by simpa using hu, hr⟩
theorem gone_mem {D : List Tmp} {n : Nat} {b : TLevel} {k : Nat} {c : Option (List TV)} (h : (k, c) ∈ b) (hk : D.contains k = true) : (⟨n, k⟩ : Root) ∈ goneB D n b := by
  induction b with
  | nil => cases h
  | cons p b ih =>
    obtain ⟨k', c'⟩ := p
    simp only [goneB]
    rcases List.mem_cons.1 h with h | h
    · cases h; rw [if_pos hk]; simp
    · split
      · exact List.mem_cons.2 (.inr (ih h))
      · exact ih h
theorem clearB_sub (D : List Tmp) (b : Level) : (clearB D b).Sublist b := by
  induction b with
  | nil => exact .slnil
  | cons p b ih =>
    obtain ⟨k, c⟩ := p
    simp only [clearB]
    split
    · exact ih.cons _
    · exact ih.cons_cons _
theorem clear_ok {D : List Tmp} {st st1 : TSt} {s : St} (h : Rst st s) (hc : st.clear D = some st1) : ∃ s1, s.clear D = some s1 ∧ Rst st1 s1 ∧ Fr2 st st1 s s1 := by
  have hlen := h.len
  have hE := clearE_rvl D h.E
  have hlastM : st.all[st.L.length]? = some st.B := by simp [TSt.all]
  have hlastV : (allV s)[st.L.length]? = some s.B := by rw [← hlen]; simp [allV]
  have hB : ∀ k, RB (lookT st.B k) (lookB s.B k) := fun k => by
    have := h.M.rel st.L.length k
    unfold lookM lookV at this
    rw [hlastM, hlastV] at this
    exact this
  have hnd : (s.B.map (·.1)).Nodup := h.M.nd s.B (by simp [allV])
  unfold TSt.clear at hc
  simp only at hc
  split at hc
  · rename_i hcond
    cases hc
    have hv : s.clear D = some { s with E := clearE D s.E, B := clearB D s.B } := by
      unfold St.clear
      simp only
      rw [if_pos]
      simp only [Bool.or_eq_true, decide_eq_true_eq, Bool.and_eq_true] at hcond
      rcases hcond with hl | ⟨⟨h1, h2⟩, h3⟩
      · left
        rw [clearB_same]
        intro k c hk
        have hlk := lookB_mem hnd hk
        have hb := hB k
        cases ht : lookT st.B k with
        | none => rw [ht] at hb; simp only [RB] at hb; rw [hb] at hlk; cases hlk
        | some o => exact clearTB_len hl k o (lookT_mem ht)
      · right
        unfold okPtrs at h2 ⊢
        rw [List.all_eq_true] at h2
        simp only [Bool.and_eq_true, List.all_eq_true]
        refine ⟨fun r hr => ?_, fun r hr => ?_⟩
        · rw [hlen]
          obtain ⟨i, v, hv, hrv⟩ := ptrsL_at hr
          obtain ⟨x, hx⟩ : ∃ x, (clearTE D st.E).toL[i]? = some x := by
            have hlt := (List.getElem?_eq_some_iff.1 hv).1
            have := hE.length
            exact ⟨_, List.getElem?_eq_getElem (by omega)⟩
          obtain ⟨v2, hv2, hrx⟩ := hE.get hx
          rw [hv] at hv2; cases hv2
          have h3 := all_get h1 (fun i => by simp [TV.ptrs, okPtrs]) hx
          unfold okPtrs at h3
          rw [List.all_eq_true] at h3
          exact h3 r (RV.ptrs _ _ hrx r hrv)
        · rw [hlen]
          obtain ⟨k, c, hk, hrc⟩ := ptrsB_mem hr
          have hlk := lookB_mem (by exact List.Sublist.nodup ((clearB_sub D s.B).map _) hnd) hk
          rw [lookB_clear] at hlk
          split at hlk
          · cases hlk
          · rename_i hkD
            have hb := hB k
            cases ht : lookT st.B k with
            | none => rw [ht] at hb; simp only [RB] at hb; rw [hb] at hlk; cases hlk
            | some o =>
              have ht2 : lookT (clearTB D st.B) k = some o := by rw [lookT_clear, if_neg hkD]; exact ht
              obtain ⟨d, rfl⟩ := full_mem h3 (lookT_mem ht2)
              rw [ht] at hb
              obtain ⟨d', hd', hr'⟩ := hb
              rw [hd'] at hlk; cases hlk
              exact h2 r (mem_ptrsTB (lookT_mem ht2) (RVL.ptrs _ _ hr' r hrc))
    refine ⟨_, hv, ⟨hE, ?_⟩, ?_⟩
    · refine ⟨by have := h.M.len; simpa [TSt.all, allV] using this, fun l k => ?_, fun b hb => ?_⟩
      · have key := h.M.rel l k
        unfold lookM lookV at key ⊢
        by_cases e : l = st.L.length
        · subst e
          have e1 : ({ st with E := clearTE D st.E, B := clearTB D st.B, Wt := Mask.ofList D ++ st.Wt, Wb := goneB D st.L.length st.B ++ st.Wb } : TSt).all[st.L.length]? = some (clearTB D st.B) := by simp [TSt.all]
          have e2 : (allV { s with E := clearE D s.E, B := clearB D s.B })[st.L.length]? = some (clearB D s.B) := by rw [← hlen]; simp [allV]
          rw [e1, e2]
          simp only
          rw [lookT_clear, lookB_clear]
          split
          · rfl
          · exact hB k
        · have e1 : ({ st with E := clearTE D st.E, B := clearTB D st.B, Wt := Mask.ofList D ++ st.Wt, Wb := goneB D st.L.length st.B ++ st.Wb } : TSt).all[l]? = st.all[l]? := by
            simp only [TSt.all]
            by_cases hlt : l < st.L.length
            · rw [List.getElem?_append_left hlt, List.getElem?_append_left hlt]
            · rw [List.getElem?_eq_none (by simp; omega), List.getElem?_eq_none (by simp; omega)]
          have e2 : (allV { s with E := clearE D s.E, B := clearB D s.B })[l]? = (allV s)[l]? := by
            simp only [allV]
            by_cases hlt : l < s.L.length
            · rw [List.getElem?_append_left hlt, List.getElem?_append_left hlt]
            · rw [List.getElem?_eq_none (by simp; omega), List.getElem?_eq_none (by simp; omega)]
          rw [e1, e2]; exact key
      · simp only [allV, List.mem_append, List.mem_singleton] at hb
        rcases hb with hb | rfl
        · exact h.M.nd b (by simp [allV, hb])
        · exact List.Sublist.nodup ((clearB_sub D s.B).map _) hnd
    · refine ⟨fun t ht => by simp [ht], fun r hr => by simp [hr], fun t ht => .inl ?_, fun t ht rs hE => ⟨rs, ?_⟩, fun r hr => .inl ?_, fun r hr hsm => ?_, rfl, ?_⟩
      · simp only [Mask.mem_append, Mask.mem_ofList, not_or] at ht
        simp only
        rw [clearE_get, if_neg ht.1]
      · simp only [Mask.mem_append, Mask.mem_ofList, not_or] at ht
        rw [clearTE_get, if_neg ht.1] at hE
        exact hE
      · simp only [List.mem_append, not_or] at hr
        obtain ⟨l, k⟩ := r
        rw [look_box, look_box]
        simp only
        unfold lookV
        by_cases e : l = st.L.length
        · subst e
          have e2 : (allV { s with E := clearE D s.E, B := clearB D s.B })[st.L.length]? = some (clearB D s.B) := by rw [← hlen]; simp [allV]
          rw [e2, hlastV]
          simp only
          rw [lookB_clear]
          split
          · rename_i hk
            have hb := hB k
            cases ht : lookT st.B k with
            | none => rw [ht] at hb; simp only [RB] at hb; exact hb.symm
            | some o => exact absurd (gone_mem (lookT_mem ht) hk) hr.1
          · rfl
        · have e2 : (allV { s with E := clearE D s.E, B := clearB D s.B })[l]? = (allV s)[l]? := by
            simp only [allV]
            by_cases hlt : l < s.L.length
            · rw [List.getElem?_append_left hlt, List.getElem?_append_left hlt]
            · rw [List.getElem?_eq_none (by simp; omega), List.getElem?_eq_none (by simp; omega)]
          rw [e2]
      · simp only [List.mem_append, not_or] at hr
        obtain ⟨l, k⟩ := r
        obtain ⟨c, hc⟩ := Option.isSome_iff_exists.1 hsm
        have hlk := box_some hc
        simp only at hlk
        have : lookM ({ st with E := clearTE D st.E, B := clearTB D st.B, Wt := Mask.ofList D ++ st.Wt, Wb := goneB D st.L.length st.B ++ st.Wb } : TSt).all l k = some (some c) := by
          unfold lookM at hlk ⊢
          by_cases e : l = st.L.length
          · subst e
            rw [hlastM] at hlk
            simp only at hlk
            have e1 : ({ st with E := clearTE D st.E, B := clearTB D st.B, Wt := Mask.ofList D ++ st.Wt, Wb := goneB D st.L.length st.B ++ st.Wb } : TSt).all[st.L.length]? = some (clearTB D st.B) := by simp [TSt.all]
            rw [e1]
            simp only
            rw [lookT_clear]
            split
            · rename_i hk; exact absurd (gone_mem (lookT_mem hlk) hk) hr.1
            · exact hlk
          · have e1 : ({ st with E := clearTE D st.E, B := clearTB D st.B, Wt := Mask.ofList D ++ st.Wt, Wb := goneB D st.L.length st.B ++ st.Wb } : TSt).all[l]? = st.all[l]? := by
              simp only [TSt.all]
              by_cases hlt : l < st.L.length
              · rw [List.getElem?_append_left hlt, List.getElem?_append_left hlt]
              · rw [List.getElem?_eq_none (by simp; omega), List.getElem?_eq_none (by simp; omega)]
            rw [e1]; exact hlk
        rw [tlook_box]
        simp only
        rw [this]; rfl
      · exact foldl_set_length _ D s.E
  · cases hc
end Go.Tx
end
section
set_option linter.unusedVariables false
namespace Go.Tx
open Go Go.Ab
variable {P : Program} {H : Hints} {J : TH} {T : CallT} {O : TOrc} {lib : FuncId → Option (List V → Option V)} {f : FuncId} {ctx : List Tmp}
def Ev (p : Orc → Prop) (P : Program) (H : Hints) (lib : FuncId → Option (List V → Option V)) : Prop := ∃ n, ∀ m, n ≤ m → p (orcN P H lib m)
theorem Ev.and {p q : Orc → Prop} (h : Ev p P H lib) (h' : Ev q P H lib) : Ev (fun C => p C ∧ q C) P H lib := by
  obtain ⟨n, h⟩ := h; obtain ⟨n', h'⟩ := h'
  exact ⟨max n n', fun m hm => ⟨h m (by omega), h' m (by omega)⟩⟩
theorem Ev.imp {p q : Orc → Prop} (h : Ev p P H lib) (hi : ∀ C, p C → q C) : Ev q P H lib := by
  obtain ⟨n, h⟩ := h; exact ⟨n, fun m hm => hi _ (h m hm)⟩
theorem Ev.peek : Ev (fun C => C.peek = H.peek) P H lib := ⟨1, fun m hm => by
  cases m with
  | zero => omega
  | succ m => rfl⟩
theorem Ev.of {p : Orc → Prop} (h : ∀ C, p C) : Ev p P H lib := ⟨0, fun m _ => h _⟩
def ExEv (P : Program) (H : Hints) (lib : FuncId → Option (List V → Option V)) (f : FuncId) (bid : Nat) (c : Code) (s : St) (e : Ex) (s' : St) : Prop := Ev (fun C => ex P H C f bid c s = some (e, s')) P H lib
def CallEv (P : Program) (H : Hints) (lib : FuncId → Option (List V → Option V)) (g : FuncId) (args : List V) (M : List Level) (r : V) (M' : List Level) : Prop := Ev (fun C => C.call g args M = some (r, M')) P H lib
def Snd (run : TSt → (R : Type) → (Ex → TSt → Option R) → Option R) (rel : St → Ex → St → Prop) : Prop :=
  ∀ (st : TSt) (R : Type) (k : Ex → TSt → Option R) (r : R) (s : St), run st R k = some r → Rst st s → ∃ e st' s', rel s e s' ∧ Rst st' s' ∧ Fr2 st st' s s' ∧ k e st' = some r
theorem setPlace_logs (st : TSt) (p : Place) (v : TV) : (st.setPlace p v).Wt = st.Wt ∧ (st.setPlace p v).Wb = st.Wb := by
  unfold TSt.setPlace
  cases p.lvl with
  | none => exact ⟨rfl, rfl⟩
  | some l =>
    simp only
    cases st.box ⟨l, p.slot⟩ with
    | none => exact ⟨rfl, rfl⟩
    | some cs => exact ⟨by simp only [TSt.setBox]; split <;> rfl, rfl⟩
theorem setPlaces_logs : ∀ (ps : List Place) (vs : List TV) (st : TSt), (setPlaces st ps vs).Wt = st.Wt ∧ (setPlaces st ps vs).Wb = st.Wb
  | [], vs, st => by cases vs <;> exact ⟨rfl, rfl⟩
  | p :: ps, [], st => ⟨rfl, rfl⟩
  | p :: ps, v :: vs, st => by
    have h1 := setPlaces_logs ps vs (st.setPlace p v)
    have h2 := setPlace_logs st p v
    exact ⟨h1.1.trans h2.1, h1.2.trans h2.2⟩
theorem tsetBox_some (st : TSt) (r : Root) (c : List TV) (q : Root) (h : (st.box q).isSome = true) : ((st.setBox r c).box q).isSome = true := by
  obtain ⟨l, s⟩ := r
  obtain ⟨l', s'⟩ := q
  have key : ∀ b : TLevel, (match lookT b s' with | some (some c) => some c | _ => none : Option (List TV)).isSome = true → (match lookT (setT b s (some c)) s' with | some (some c) => some c | _ => none : Option (List TV)).isSome = true := fun b hb => by
    rw [lookT_setT]
    by_cases e : s' = s
    · rw [if_pos e]
      subst e
      cases hl : lookT b s' with
      | none => rw [hl] at hb; cases hb
      | some o => rfl
    · rw [if_neg e]; exact hb
  unfold TSt.setBox TSt.box at *
  simp only at h ⊢
  by_cases h1 : l = st.L.length
  · rw [if_pos h1]
    simp only
    by_cases h2 : l' = st.L.length
    · rw [if_pos h2] at h ⊢; exact key _ h
    · rw [if_neg h2] at h ⊢; exact h
  · rw [if_neg h1]
    simp only [List.length_modify]
    by_cases h2 : l' = st.L.length
    · rw [if_pos h2] at h ⊢; exact h
    · rw [if_neg h2] at h ⊢
      rw [List.getElem?_modify]
      cases hb : st.L[l']? with
      | none => rw [hb] at h; cases h
      | some b =>
        rw [hb] at h
        simp only [Option.map_eq_map, Option.map_some]
        by_cases e : l = l'
        · rw [if_pos e]; exact key _ h
        · rw [if_neg e]; exact h
theorem setPlaces_E : ∀ (ps : List Place) (vs : List TV) (st : TSt) (t : Nat), (setPlaces st ps vs).E.toL[t]? = st.E.toL[t]? ∨ ∃ v ∈ vs, (setPlaces st ps vs).E.toL[t]? = some v
  | [], vs, st, t => by cases vs <;> exact .inl rfl
  | p :: ps, [], st, t => .inl rfl
  | p :: ps, v :: vs, st, t => by
    rcases setPlaces_E ps vs (st.setPlace p v) t with h | ⟨u, hu, h⟩
    · show (setPlaces (st.setPlace p v) ps vs).E.toL[t]? = _ ∨ ∃ u ∈ v :: vs, (setPlaces (st.setPlace p v) ps vs).E.toL[t]? = some u
      rw [h]
      unfold TSt.setPlace
      cases p.lvl with
      | none =>
        simp only [toL_set, List.getElem?_set]
        split
        · split
          · exact .inr ⟨v, by simp, rfl⟩
          · rename_i h1 h2; left; rw [List.getElem?_eq_none (by omega)]
        · exact .inl rfl
      | some l =>
        simp only
        cases st.box ⟨l, p.slot⟩ with
        | none => exact .inl rfl
        | some cs => left; simp only [TSt.setBox]; split <;> rfl
    · exact .inr ⟨u, by simp [hu], h⟩
theorem setPlace_box (st : TSt) (p : Place) (v : TV) (r : Root) (h : (st.box r).isSome = true) : ((st.setPlace p v).box r).isSome = true := by
  unfold TSt.setPlace
  cases p.lvl with
  | none => exact h
  | some l =>
    simp only
    cases hb : st.box ⟨l, p.slot⟩ with
    | none => exact h
    | some cs =>
      simp only
      have hbx : ({ st.setBox ⟨l, p.slot⟩ (cs.set p.cell v) with Wb := st.Wb } : TSt).box r = (st.setBox ⟨l, p.slot⟩ (cs.set p.cell v)).box r := rfl
      rw [hbx]
      exact tsetBox_some st ⟨l, p.slot⟩ _ r h
theorem setPlaces_box : ∀ (ps : List Place) (vs : List TV) (st : TSt) (r : Root), (st.box r).isSome = true → ((setPlaces st ps vs).box r).isSome = true
  | [], vs, st, r, h => by cases vs <;> exact h
  | p :: ps, [], st, r, h => h
  | p :: ps, v :: vs, st, r, h => setPlaces_box ps vs _ r (setPlace_box st p v r h)
theorem ofTy_any (τ : Ty) (o : Nat) (x : τ.den) : ∀ rs, ofTy τ o x ≠ .any rs := fun rs => by cases τ <;> simp [ofTy]
theorem ofL_any : ∀ (ps : List (Ty × Nat)) (x : denL (ps.map (·.1))), ∀ v ∈ ofL ps x, ∀ rs, v ≠ .any rs
  | [], x, v, hv => by simp [ofL] at hv
  | [(τ, o)], x, v, hv => by simp only [ofL, List.mem_singleton] at hv; subst hv; exact ofTy_any τ o x
  | (τ, o) :: q :: ps, x, v, hv => by
    simp only [ofL, List.mem_cons] at hv
    rcases hv with rfl | hv
    · exact ofTy_any τ o x.1
    · exact ofL_any (q :: ps) x.2 v hv
theorem rebuild_fr {st st2 : TSt} {s s' : St} {j : Join} {x : denL (j.ps.map (·.1))} (h2 : Rst st2 s') (hf : Fr2 st.fresh st2 s s') (ho : st2.outs st j = some x) : Fr2 st (st.rebuild j (ofL j.ps x)) s s' := by
  generalize hvs : ofL j.ps x = vs
  have hany : ∀ v ∈ vs, ∀ rs, v ≠ .any rs := by rw [← hvs]; exact ofL_any j.ps x
  unfold TSt.outs at ho
  split at ho
  · rename_i hc
    simp only [Bool.and_eq_true] at hc
    obtain ⟨⟨_, hwr⟩, _⟩ := hc
    unfold TSt.wrote at hwr
    simp only [Bool.and_eq_true, List.all_eq_true] at hwr
    obtain ⟨hwt0, hwb⟩ := hwr
    have hwt : ∀ t ∈ st2.Wt, t ∈ j.D := fun t ht => Mask.sub_mem hwt0 ht
    have hl := setPlaces_logs j.lv vs { j.wr.foldl (fun (st : TSt) r => st.forget j.rb r) { st with E := forgetM j.D j.rsAt st.E } with Wt := j.D ++ st.Wt, Wb := j.wr ++ st.Wb }
    have e1 : (st.rebuild j vs).Wt = j.D ++ st.Wt := hl.1
    have e2 : (st.rebuild j vs).Wb = j.wr ++ st.Wb := hl.2
    refine ⟨fun t ht => by rw [e1]; simp [ht], fun r hr => by rw [e2]; simp [hr], fun t ht => ?_, fun t ht rs hE => ?_, fun r hr => ?_, fun r hr hsm => ?_, hf.len, hf.elen⟩
    · rw [e1] at ht
      exact hf.e t fun hh => ht (by simp [hwt t hh])
    · rw [e1] at ht
      simp only [Mask.mem_append, not_or] at ht
      unfold TSt.rebuild at hE
      rcases setPlaces_E j.lv vs _ t with h3 | ⟨v, hv, h3⟩
      · rw [h3] at hE
        have h4 : (j.wr.foldl (fun (st : TSt) r => st.forget j.rb r) { st with E := forgetM j.D j.rsAt st.E }).E.toL[t]? = some (.any rs) := hE
        rw [forgets_E] at h4
        simp only at h4
        rw [forgetM_get, if_neg ht.1] at h4
        exact ⟨rs, h4⟩
      · rw [h3] at hE
        exact absurd (Option.some.inj hE) (hany v hv rs)
    · rw [e2] at hr
      by_cases hm : r ∈ st2.Wb
      · have := hwb r hm
        simp only [Bool.or_eq_true, decide_eq_true_eq] at this
        rcases this with h3 | h3
        · exact absurd (by simp at h3; simp [h3]) hr
        · rw [look_box, look_box]
          unfold lookV
          have h4 := h2.len
          have h5 := hf.len
          rw [List.getElem?_eq_none (by simp [allV]; omega), List.getElem?_eq_none (by simp [allV]; omega)]
          exact .inl rfl
      · exact hf.b r hm
    · rw [e2] at hr
      simp only [List.mem_append, not_or] at hr
      unfold TSt.rebuild
      refine setPlaces_box j.lv vs _ r ?_
      obtain ⟨c, hc⟩ := Option.isSome_iff_exists.1 hsm
      have hlk := box_some hc
      have h3 : lookM (j.wr.foldl (fun (st : TSt) r => st.forget j.rb r) { st with E := forgetM j.D j.rsAt st.E }).all r.lvl r.slot = some (some c) := by
        rw [lookM_forgets, if_neg (fun hh => hr.1 hh.1)]
        exact hlk
      have h4 : ({ j.wr.foldl (fun (st : TSt) r => st.forget j.rb r) { st with E := forgetM j.D j.rsAt st.E } with Wt := j.D ++ st.Wt, Wb := j.wr ++ st.Wb } : TSt).box r = some c := by
        rw [tlook_box]
        show (match lookM (j.wr.foldl (fun (st : TSt) r => st.forget j.rb r) { st with E := forgetM j.D j.rsAt st.E }).all r.lvl r.slot with
          | some (some c) => some c
          | _ => none) = some c
        rw [h3]
      rw [h4]; rfl
  · cases ho
theorem merge_fr {st st2 : TSt} {s s' : St} (hf : Fr2 st.fresh st2 s s') : Fr2 st (st2.merge st) s s' :=
  ⟨fun t ht => by simp [TSt.merge, ht], fun r hr => by simp [TSt.merge, hr], fun t ht => hf.e t fun hh => ht (by simp [TSt.merge, hh]), fun t ht rs hE => hf.an t (fun hh => ht (by simp [TSt.merge, hh])) rs hE, fun r hr => hf.b r fun hh => hr (by simp [TSt.merge, hh]), fun r hr hsm => hf.bn r (fun hh => hr (by simp [TSt.merge, hh])) hsm, hf.len, hf.elen⟩
theorem Rst.fresh {st : TSt} {s : St} (h : Rst st s) : Rst st.fresh s := ⟨h.E, h.M⟩
theorem Rst.merge {st st0 : TSt} {s : St} (h : Rst st s) : Rst (st.merge st0) s := ⟨h.E, h.M⟩
theorem joinT_ok {run : TSt → (R : Type) → (Ex → TSt → Option R) → Option R} {rel : St → Ex → St → Prop} (h : Snd run rel) (j : Option Join) : Snd (fun st R k => joinT j st run R k) rel := by
  intro st R k r s hr hs
  simp only [joinT] at hr
  cases j with
  | none => exact h st R k r s hr hs
  | some j =>
    simp only at hr
    split at hr
    · obtain ⟨x, hx, hk⟩ := Option.bind_eq_some_iff.1 hr
      obtain ⟨e, st2, s', hrel, hR, hF, hkk⟩ := h _ _ _ _ s hx hs.fresh
      have habn : ∀ e, (k e (st2.merge st)).map Sum.inr = some x → rel s e s' → ∃ e st' s', rel s e s' ∧ Rst st' s' ∧ Fr2 st st' s s' ∧ k e st' = some r := fun e hkk hrel => by
        obtain ⟨y, hy, rfl⟩ := Option.map_eq_some_iff.1 hkk
        simp only [Sum.elim_inr, Option.some.injEq] at hk
        subst hk
        exact ⟨e, _, s', hrel, hR.merge, merge_fr hF, hy⟩
      cases e with
      | normal =>
        obtain ⟨y, hy, rfl⟩ := Option.map_eq_some_iff.1 hkk
        simp only [Sum.elim_inl] at hk
        exact ⟨.normal, _, s', hrel, rebuild_ok hs hR hF hy, rebuild_fr hR hF hy, hk⟩
      | exit id => exact habn _ hkk hrel
      | ret => exact habn _ hkk hrel
    · obtain ⟨x, hx, hk⟩ := Option.bind_eq_some_iff.1 hr
      obtain ⟨e, st2, s', hrel, hR, hF, hkk⟩ := h _ _ _ _ s hx hs.fresh
      cases e with
      | normal => exact ⟨.normal, _, s', hrel, rebuild_ok hs hR hF hkk, rebuild_fr hR hF hkk, hk⟩
      | exit id => cases hkk
      | ret => cases hkk
def TOk (P : Program) (H : Hints) (lib : FuncId → Option (List V → Option V)) (T : CallT) : Prop :=
  ∀ g args (R : Type) (k : TV → Option R) r vs, T g args R k = some r → RVL args vs → ∃ x v, k x = some r ∧ RV x v ∧ CallEv P H lib g vs [] v []
structure OOk (P : Program) (H : Hints) (lib : FuncId → Option (List V → Option V)) (O : TOrc) : Prop where
  call : ∀ ctx g args M (R : Type) (k : TV → List TLevel → List Root → Option R) r vs M', O.call ctx g args M R k = some r → RVL args vs → LR M M' →
    ∃ x N wb v N', k x N wb = some r ∧ RV x v ∧ LR N N' ∧ N.length = M.length ∧ (∀ l sl, (⟨l, sl⟩ : Root) ∉ wb → lookV N' l sl = lookV M' l sl ∧ ∀ c, lookM M l sl = some (some c) → ∃ c', lookM N l sl = some (some c')) ∧ CallEv P H lib g vs M' v N'
  code : ∀ ctx f bid c, Snd (fun st R k => O.code ctx f bid c st R k) fun s e s' => Ev (fun C => C.code f bid c s = some (e, s')) P H lib
theorem flHand_own (f : Fl) : flHand f ≠ .own := by cases f <;> simp [flHand]
theorem flLoosen_own (f : Fl) : flLoosen f = .own ↔ f = .own := by cases f <;> simp [flLoosen]
theorem flSettle_own (f : Fl) : flSettle f = .own ↔ f = .own := by cases f <;> simp [flSettle]
theorem lastSplitT_eq : ∀ {M : List TLevel} {L : List TLevel} {B : TLevel}, lastSplitT M = some (L, B) → M = L ++ [B]
  | [], _, _, h => by cases h
  | [b], _, _, h => by simp only [lastSplitT, Option.some.injEq, Prod.mk.injEq] at h; simp [← h.1, ← h.2]
  | b :: c :: l, L, B, h => by
    simp only [lastSplitT] at h
    obtain ⟨⟨x, y⟩, hxy, h2⟩ := Option.map_eq_some_iff.1 h
    simp only [Prod.mk.injEq] at h2
    obtain ⟨rfl, rfl⟩ := h2
    simp [lastSplitT_eq hxy]
theorem lastSplit_app : ∀ (L : List Level) (B : Level), lastSplit (L ++ [B]) = some (L, B)
  | [], B => rfl
  | [a], B => rfl
  | a :: b :: L, B => by
    have := lastSplit_app (b :: L) B
    simp only [List.cons_append] at this ⊢
    simp only [lastSplit, this, Option.map_some]
theorem split_last {α : Type} : ∀ {M : List α} {n : Nat}, M.length = n + 1 → ∃ L B, M = L ++ [B]
  | [], n, h => by simp at h
  | [b], n, h => ⟨[], b, rfl⟩
  | b :: c :: l, n, h => by
    obtain ⟨L, B, e⟩ := split_last (M := c :: l) (n := l.length) (by simp)
    exact ⟨b :: L, B, by rw [e]; rfl⟩
theorem callVT_ok (hT : TOk P H lib T) (hO : OOk P H lib O) {d : Tmp} {fv : TV} {fv' : V} {args : List TV} {args' : List V} {st : TSt} {s : St} {R : Type} {k : TV → TSt → Option R} {r : R}
    (hf : RV fv fv') (ha : RVL args args') (hs : Rst st s) (h : callVT H J T O ctx f d fv args st R k = some r) :
    ∃ v st' u s', k v st' = some r ∧ Ev (fun C => vcallV C fv' args' s = some (u, s') ∧ looksCall C fv' = looksCallT H fv) P H lib ∧ RV v u ∧ Rst st' s' ∧ Fr2 st st' s s' ∧ st'.E = st.E ∧ s'.E = s.E ∧ pureCall fv' args' = pureCallT fv args := by
  unfold callVT at h
  split at h
  · rename_i g first cap
    simp only [RV] at hf
    obtain ⟨first', cap', rfl, hf1, hc1⟩ := hf
    have hall : RVL (first ++ args ++ cap) (first' ++ args' ++ cap') := (hf1.append ha).append hc1
    split at h
    · rename_i hk
      have hpt := RVL.ptrs_eq _ _ hk hall
      have hpure : pureCall (.fn g first' cap') args' = pureCallT (.fn g first cap) args := by
        simp only [pureCall, pureCallT, hpt]
      split at h
      · rename_i hp
        have hp' : (ptrsL (first' ++ args' ++ cap')).isEmpty = true := by rw [hpt]; exact hp
        have hshare : RVL (shareL (first ++ args ++ cap)) ((first' ++ args' ++ cap').map V.share) := by
          have := RVL.share _ _ hall
          rw [reflagL_map] at this; exact this
        have fin : ∀ {x : TV} {v : V}, k (if tightL (first ++ args ++ cap) then x else x.loosen) st = some r → RV x v → CallEv P H lib g ((first' ++ args' ++ cap').map V.share) [] v [] →
            ∃ v st' u s', k v st' = some r ∧ Ev (fun C => vcallV C (.fn g first' cap') args' s = some (u, s') ∧ looksCall C (.fn g first' cap') = looksCallT H (.fn g first cap)) P H lib ∧ RV v u ∧ Rst st' s' ∧ Fr2 st st' s s' ∧ st'.E = st.E ∧ s'.E = s.E ∧ pureCall (.fn g first' cap') args' = pureCallT (.fn g first cap) args := by
          intro x v hkx hr hev
          refine ⟨if tightL (first ++ args ++ cap) then x else x.loosen, st, if looseL (first' ++ args' ++ cap') = true then v.loosen else v, s, hkx, (hev.and Ev.peek).imp fun C ⟨hC, hCp⟩ => ?_, ?_, hs, Fr2.refl _ _, rfl, rfl, hpure⟩
          · refine ⟨?_, by simp only [looksCall, looksCallT, hCp]⟩
            show vcall C g (first' ++ args' ++ cap') s = _
            unfold vcall
            rw [if_pos hp', hC]
          · cases htg : tightL (first ++ args ++ cap) with
            | true =>
              rw [RVL.tight _ _ htg hall]
              simpa using hr
            | false =>
              simp only [Bool.false_eq_true, if_false]
              split
              · exact RV.lo flLoosen_own _ _ hr
              · exact hr.lo0
        split at h
        · obtain ⟨x, N, wb, v, N', hkx, hr, hN, hlen, _, hev⟩ := hO.call _ _ _ _ _ _ _ _ [] h hshare ⟨rfl, fun l s => by simp [lookM, lookV, RB], by simp⟩
          have hN0 : N = [] := List.eq_nil_of_length_eq_zero (by rw [hlen]; rfl)
          subst hN0
          have hN0' : N' = [] := List.eq_nil_of_length_eq_zero (by rw [hN.len]; rfl)
          subst hN0'
          exact fin hkx hr hev
        · obtain ⟨x, v, hkx, hr, hev⟩ := hT _ _ _ _ _ _ h hshare
          exact fin hkx hr hev
      · rename_i hp
        have hp' : ¬ (ptrsL (first' ++ args' ++ cap')).isEmpty = true := by rw [hpt]; exact hp
        split at h
        · rename_i hpk
          split at h
          · rename_i xs hxs
            split at h
            · rename_i hxp
              obtain ⟨us, hus, hru⟩ := peekTL_ok (bt := st.box) (bx := s.box) (fun r c hc => hs.box hc) _ _ _ hxs hall
              obtain ⟨x, v, hkx, hr, hev⟩ := hT _ _ _ _ _ _ h hru
              split at hkx
              · rename_i hmine
                refine ⟨x, st, v, s, hkx, (hev.and Ev.peek).imp fun C ⟨hC, hCp⟩ => ⟨?_, by simp only [looksCall, looksCallT, hCp]⟩, hr, hs, Fr2.refl _ _, rfl, rfl, hpure⟩
                show vcall C g (first' ++ args' ++ cap') s = _
                have hup : (ptrsL us).isEmpty = true := by
                  rw [List.isEmpty_iff, List.eq_nil_iff_forall_not_mem]
                  intro q hq
                  have := RVL.ptrs _ _ hru q hq
                  rw [List.isEmpty_iff] at hxp
                  rw [hxp] at this; cases this
                unfold vcall
                rw [if_neg hp', hCp, if_pos hpk, hus]
                simp only [hup, if_true, hC, RV.mine x v hmine hr]
              · cases hkx
            · cases h
          · cases h
        rename_i hpk
        have hdull : RVL (dullL (first ++ args ++ cap)) ((first' ++ args' ++ cap').map V.hand) := hall.map_dull flHand_own rfl
        obtain ⟨x, N, wb, v, N', hkx, hr, hN, hlen, hfr, hev⟩ := hO.call _ _ _ _ _ _ _ _ (s.L ++ [s.B]) h hdull hs.M
        split at hkx
        · rename_i L B hsp
          have hNe := lastSplitT_eq hsp
          subst hNe
          split at hkx
          · rename_i hL
            obtain ⟨L', B', rfl⟩ := split_last (M := N') (n := L.length) (by rw [hN.len]; simp)
            have hL' : L'.length = s.L.length := by have := hN.len; have := hs.len; simp at *; omega
            refine ⟨x, _, v, { s with L := L', B := B' }, hkx, (hev.and Ev.peek).imp fun C ⟨hC, hCp⟩ => ?_, hr, ⟨hs.E, hN⟩, ⟨fun t ht => ht, fun q hq => by simp [hq], fun t ht => .inl rfl, fun t ht rs hE => ⟨rs, hE⟩, fun q hq => .inl ?_, fun q hq hsm => ?_, hL', rfl⟩, rfl, rfl, hpure⟩
            · refine ⟨?_, by simp only [looksCall, looksCallT, hCp]⟩
              show vcall C g (first' ++ args' ++ cap') s = _
              unfold vcall
              rw [if_neg hp', hCp, if_neg hpk, hC]
              simp only [lastSplit_app, hL', if_true]
            · rw [look_box, look_box]
              simp only [List.mem_append, not_or] at hq
              exact (hfr q.lvl q.slot hq.1).1
            · simp only [List.mem_append, not_or] at hq
              obtain ⟨c, hc⟩ := Option.isSome_iff_exists.1 hsm
              obtain ⟨c', hc'⟩ := (hfr q.lvl q.slot hq.1).2 c (box_some hc)
              rw [tlook_box]
              show (match lookM (L ++ [B]) q.lvl q.slot with
                | some (some c) => some c
                | _ => none).isSome = true
              rw [hc']; rfl
          · cases hkx
        · cases hkx
    · cases h
  · cases h
def dfltMT (P : Program) (H : Hints) (f : FuncId) (o : Oper) (xs : List TV) (st : TSt) (R : Type) (k : TV → TSt → Fp → Option R) : Option R :=
  match rootOfT o.op xs with
    | none => topSem P H f (takes H f o) o.op xs none R fun v c => match c with
      | none => k v st .none
      | some _ => none
    | some r => topSem P H f (takes H f o) o.op xs (st.box r) R fun v c => match c with
      | none => k v st (.root r (rangeOfT P o.op xs).1 (rangeOfT P o.op xs).2 false)
      | some c => if (wptrsT o.op xs).all (fun p => decide (p.lvl ≤ r.lvl)) && decide ((rangeOfT P o.op xs).1 + (rangeOfT P o.op xs).2 ≤ c.length) then k v (st.setBox r c) (.root r (rangeOfT P o.op xs).1 (rangeOfT P o.op xs).2 true) else none
theorem stepMT_dflt {o : Oper} (h : isDflt o.op = true) (xs : List TV) (st : TSt) (R : Type) (k : TV → TSt → Fp → Option R) : stepMT P H J T O ctx f o xs st R k = dfltMT P H f o xs st R k := by
  unfold stepMT
  split
  · rename_i hop; rw [hop] at h; simp [isDflt] at h
  · rename_i hop; rw [hop] at h; simp [isDflt] at h
  · rename_i hop; rw [hop] at h; simp [isDflt] at h
  · rfl
theorem stepMT_call {o : Oper} {c : Call} {fo : Operand} (hop : o.op = .call c) (hc : c.callee = .value fo) (xs : List TV) (st : TSt) (R : Type) (k : TV → TSt → Fp → Option R) :
    stepMT P H J T O ctx f o xs st R k = match xs with
      | fv :: args => callVT H J T O ctx f (o.dst.getD 0) fv args st R fun v s => k v s (if pureCallT fv args then .none else if looksCallT H fv then .looks else .all)
      | [] => none := by
  unfold stepMT
  obtain ⟨cal, a1, a2⟩ := c
  simp only at hc
  subst hc
  simp only [hop]
  cases xs <;> rfl
theorem LR.push {M : List TLevel} {M' : List Level} {b : TLevel} {b' : Level} {d : Nat} {c : List TV} {c' : List V} (h : LR (M ++ [b]) (M' ++ [b'])) (hl : M'.length = M.length) (hd : lookT b d = none) (hc : RVL c c') : LR (M ++ [(d, some c) :: b]) (M' ++ [insB d c' b']) := by
  have hkey : ∀ k, RB (lookT b k) (lookB b' k) := fun k => by
    have := h.rel M.length k
    unfold lookM lookV at this
    rw [List.getElem?_append_right (Nat.le_refl _), ← hl, List.getElem?_append_right (Nat.le_refl _)] at this
    simpa using this
  have hnone : lookB b' d = none := by
    have h2 := hkey d
    rw [hd] at h2
    exact h2
  refine ⟨by simp [hl], fun l k => ?_, fun q hq => ?_⟩
  · have key := h.rel l k
    unfold lookM lookV at key ⊢
    by_cases e : l < M.length
    · rw [List.getElem?_append_left e, List.getElem?_append_left (by omega)] at key ⊢
      exact key
    · rw [List.getElem?_append_right (by omega), List.getElem?_append_right (by omega), hl] at key ⊢
      cases hm : l - M.length with
      | zero =>
        simp only [List.getElem?_cons_zero]
        by_cases e2 : d = k
        · subst e2; simp only [lookT, lookB_insB hnone, if_true]; exact ⟨c', rfl, hc⟩
        · simp only [lookT, lookB_insB_ne e2, if_neg e2]; exact hkey k
      | succ n => simp [RB]
  · simp only [List.mem_append, List.mem_singleton] at hq
    rcases hq with hq | rfl
    · exact h.nd q (by simp [hq])
    · exact insB_nodup hnone (h.nd b' (by simp))
theorem lookT_none {st : TSt} {s : St} (hs : Rst st s) {d : Nat} (h : lookT st.B d = none) : lookB s.B d = none := by
  have := hs.M.rel st.L.length d
  unfold lookM lookV at this
  have e1 : st.all[st.L.length]? = some st.B := by simp [TSt.all]
  have e2 : (allV s)[st.L.length]? = some s.B := by rw [← hs.len]; simp [allV]
  rw [e1, e2] at this
  simp only at this
  rw [h] at this
  exact this
theorem push_ok {st : TSt} {s : St} (hs : Rst st s) {d : Nat} {c : List TV} {c' : List V} (hd : lookT st.B d = none) (hc : RVL c c') :
    Rst { st with B := (d, some c) :: st.B, Wb := ⟨st.L.length, d⟩ :: st.Wb } { s with B := insB d c' s.B } ∧ Fr2 st { st with B := (d, some c) :: st.B, Wb := ⟨st.L.length, d⟩ :: st.Wb } s { s with B := insB d c' s.B } := by
  refine ⟨⟨hs.E, LR.push hs.M hs.len hd hc⟩, ⟨fun t ht => ht, fun r hr => by simp [hr], fun t ht => .inl rfl, fun t ht rs hE => ⟨rs, hE⟩, fun r hr => .inl ?_, fun r hr hsm => ?_, rfl, rfl⟩⟩
  case refine_2 =>
    simp only [List.mem_cons, not_or] at hr
    obtain ⟨l, sl⟩ := r
    unfold TSt.box at hsm ⊢
    simp only at hsm ⊢
    by_cases e : l = st.L.length
    · rw [if_pos e] at hsm ⊢
      have : d ≠ sl := fun e2 => hr.1 (by rw [e2, e])
      simp only [lookT, if_neg this]
      exact hsm
    · rw [if_neg e] at hsm ⊢
      exact hsm
  simp only [List.mem_cons, not_or] at hr
  obtain ⟨l, sl⟩ := r
  rw [look_box, look_box]
  unfold lookV allV
  simp only
  have hlen := hs.len
  by_cases e : l < s.L.length
  · rw [List.getElem?_append_left e, List.getElem?_append_left e]
  · rw [List.getElem?_append_right (by omega), List.getElem?_append_right (by omega)]
    cases hm : l - s.L.length with
    | zero =>
      simp only [List.getElem?_cons_zero]
      have : d ≠ sl := fun e2 => hr.1 (by rw [e2]; congr 1; omega)
      rw [lookB_insB_ne this]
    | succ n => simp
theorem rvl_one {x : TV} {ys : List V} (h : RVL [x] ys) : ∃ v, ys = [v] ∧ RV x v := by
  simp only [RVL] at h; obtain ⟨v, m, rfl, h1, rfl⟩ := h; exact ⟨v, rfl, h1⟩
theorem tsetBox_E (st : TSt) (r : Root) (c : List TV) : (st.setBox r c).E = st.E ∧ (st.setBox r c).Wt = st.Wt ∧ (st.setBox r c).Wb = r :: st.Wb ∧ (st.setBox r c).L.length = st.L.length := by
  unfold TSt.setBox; split <;> simp
theorem setBox_E (s : St) (r : Root) (c : List V) : (s.setBox r c).E = s.E ∧ (s.setBox r c).L.length = s.L.length := by
  unfold St.setBox; split <;> simp
theorem setBox_ok {st : TSt} {s : St} (hs : Rst st s) {r : Root} {c0 c : List TV} {c' : List V} (hb : st.box r = some c0) (hc : RVL c c') : Rst (st.setBox r c) (s.setBox r c') ∧ Fr2 st (st.setBox r c) s (s.setBox r c') := by
  obtain ⟨e1, e2, e3, e4⟩ := tsetBox_E st r c
  obtain ⟨e5, e6⟩ := setBox_E s r c'
  refine ⟨⟨by rw [e1, e5]; exact hs.E, ?_⟩, ⟨fun t ht => by rw [e2]; exact ht, fun q hq => by rw [e3]; simp [hq], fun t ht => .inl (by rw [e5]), fun t ht rs hE => ⟨rs, by rw [← e1]; exact hE⟩, fun q hq => .inl ?_, fun q hq hsm => tsetBox_some st r c q hsm, e6, by rw [e5]⟩⟩
  · rw [tsetBox_all, setBox_all]
    exact LR.setBox hs.M _ _ (by rw [box_some hb]; simp) hc
  · rw [e3] at hq
    simp only [List.mem_cons, not_or] at hq
    rw [box_setBox, if_neg hq.1]
theorem dfltMT_ok {o : Oper} {xs : List TV} {ys : List V} {st : TSt} {s : St} {R : Type} {k : TV → TSt → Fp → Option R} {r : R} (hx : RVL xs ys) (hs : Rst st s) (h : dfltMT P H f o xs st R k = some r) :
    ∃ v st' fp u s', k v st' fp = some r ∧ dfltM P H f o ys s = some (u, s', fp) ∧ RV v u ∧ Rst st' s' ∧ Fr2 st st' s s' ∧ st'.E = st.E ∧ s'.E = s.E := by
  unfold dfltMT at h
  split at h
  · rename_i hr
    obtain ⟨z, c, u, c', hk, hsem, hrv, hbo⟩ := topSem_ok (ty := o.type) (bx := none) (bx' := none) hx True.intro h
    split at hk
    · have hc' : c' = none := hbo
      subst hc'
      have hr' : rootOf o.op ys = none := by
        cases ho : o.op <;> try rfl
        case load t a =>
          rw [ho] at h hr
          match xs, hx, h, hr with
          | [], hx, h, hr => simp [topSem] at h
          | [x], hx, h, hr =>
            obtain ⟨v, rfl, hv⟩ := rvl_one hx
            cases x <;> simp only [topSem] at h <;> try (cases h; done)
            simp only [RV] at hv; obtain ⟨_, l', rfl, _⟩ := hv; rfl
          | x :: y :: xs, hx, h, hr =>
            cases x <;> simp [topSem] at h
        case store t a b =>
          rw [ho] at h hr
          match xs, hx, h, hr with
          | [], hx, h, hr => simp [topSem] at h
          | [x], hx, h, hr => cases x <;> simp [topSem] at h
          | [x, y], hx, h, hr =>
            cases x <;> simp only [topSem] at h <;> try (cases h; done)
          | x :: y :: z :: xs, hx, h, hr => cases x <;> simp [topSem] at h
      refine ⟨z, st, .none, u, s, hk, ?_, hrv, hs, Fr2.refl _ _, rfl, rfl⟩
      unfold dfltM
      rw [hr']
      simp only [hsem]
    · cases hk
  · rename_i q hr
    obtain ⟨z, c, u, c', hk, hsem, hrv, hbo⟩ := topSem_ok (ty := o.type) hx (hs.bx q) h
    have hshape : rootOf o.op ys = some q ∧ rangeOf P o.op ys = rangeOfT P o.op xs ∧ (∀ p ∈ wptrs o.op ys, p ∈ wptrsT o.op xs) ∧ (∀ d, c = some d → ∃ c0, st.box q = some c0) := by
      cases ho : o.op <;> rw [ho] at hr <;> try (simp [rootOfT] at hr; done)
      case load t a =>
        rw [ho] at h
        match xs, hx, h, hr with
        | [], hx, h, hr => simp [topSem] at h
        | [x], hx, h, hr =>
          obtain ⟨v, rfl, hv⟩ := rvl_one hx
          cases x <;> simp only [rootOfT] at hr <;> try (cases hr; done)
          cases hr
          simp only [RV] at hv; subst hv
          refine ⟨rfl, rfl, fun p hp => by simp [wptrs] at hp, fun d _ => ?_⟩
          simp only [topSem] at h
          split at h
          · rename_i cs hcs; exact ⟨cs, hcs⟩
          · cases h
        | x :: y :: xs, hx, h, hr => cases x <;> simp [topSem] at h
      case store t a b =>
        rw [ho] at h
        match xs, hx, h, hr with
        | [], hx, h, hr => simp [topSem] at h
        | [x], hx, h, hr => cases x <;> simp [topSem] at h
        | [x, y], hx, h, hr =>
          cases x <;> simp only [rootOfT] at hr <;> try (cases hr; done)
          cases hr
          simp only [RVL] at hx
          obtain ⟨v, m, rfl, hv, v2, m2, rfl, hv2, rfl⟩ := hx
          simp only [RV] at hv; subst hv
          simp only [topSem] at h
          split at h
          · rename_i cs hcs
            split at h
            · rename_i hcond
              obtain ⟨hcells, _⟩ := RV.cells hcond.2.2.2 hv2
              refine ⟨rfl, ?_, fun p hp => ?_, fun d _ => ⟨cs, hcs⟩⟩
              · simp only [rangeOf, rangeOfT, hcells.length]
              · simp only [wptrs] at hp
                simp only [wptrsT]
                exact RV.ptrs _ _ hv2 p hp
            · cases h
          · cases h
        | x :: y :: z :: xs, hx, h, hr => cases x <;> simp [topSem] at h
    obtain ⟨hroot, hrange, hwp, hbx⟩ := hshape
    split at hk
    · have hc' : c' = none := hbo
      subst hc'
      refine ⟨z, st, _, u, s, hk, ?_, hrv, hs, Fr2.refl _ _, rfl, rfl⟩
      unfold dfltM
      rw [hroot]
      simp only [hsem, hrange]
    · rename_i d
      obtain ⟨d', rfl, hd⟩ := hbo
      split at hk
      · rename_i hcond
        obtain ⟨c0, hc0⟩ := hbx d rfl
        obtain ⟨hR, hF⟩ := setBox_ok hs hc0 hd
        refine ⟨z, _, _, u, s.setBox q d', hk, ?_, hrv, hR, hF, (tsetBox_E st q d).1, (setBox_E s q d').1⟩
        unfold dfltM
        rw [hroot]
        simp only [hsem, hrange]
        rw [if_pos]
        simp only [Bool.and_eq_true, List.all_eq_true, decide_eq_true_eq] at hcond ⊢
        exact ⟨fun p hp => hcond.1 p (hwp p hp), by rw [hd.length]; exact hcond.2⟩
      · cases hk
end Go.Tx
end
section
set_option linter.unusedVariables false
namespace Go.Tx
open Go Go.Ab
variable {P : Program} {H : Hints} {J : TH} {T : CallT} {O : TOrc} {lib : FuncId → Option (List V → Option V)} {f : FuncId} {ctx : List Tmp}
theorem stepMT_ok (hT : TOk P H lib T) (hO : OOk P H lib O) {o : Oper} {xs : List TV} {ys : List V} {st : TSt} {s : St} {R : Type} {k : TV → TSt → Fp → Option R} {r : R} (hx : RVL xs ys) (hs : Rst st s)
    (h : stepMT P H J T O ctx f o xs st R k = some r) :
    ∃ v st' fp u s', k v st' fp = some r ∧ Ev (fun C => stepM P H C f o ys s = some (u, s', fp)) P H lib ∧ RV v u ∧ Rst st' s' ∧ Fr2 st st' s s' ∧ st'.E = st.E ∧ s'.E = s.E := by
  rcases op_cases o.op with ⟨t, hop⟩ | ⟨t, a, hop⟩ | ⟨c, fo, hop, hc⟩ | hd
  · unfold stepMT at h
    simp only [hop] at h
    split at h
    · rename_i d z hd hz
      split at h
      · rename_i hn
        have hn' : lookT st.B d = none := by simpa using hn
        obtain ⟨z', hz', _, hcz⟩ := zeroT_ok hz
        obtain ⟨hR, hF⟩ := push_ok hs hn' hcz
        refine ⟨_, _, _, .ptr ⟨s.L.length, d⟩ 0, _, h, .of fun C => ?_, by simp [RV, hs.len], hR, hF, rfl, rfl⟩
        unfold stepM
        simp only [hop, hd, hz']
        rw [if_pos (by rw [lookT_none hs hn']; rfl), hs.len]
      · cases h
    · cases h
  · unfold stepMT at h
    simp only [hop] at h
    split at h
    · rename_i d x hd
      split at h
      · rename_i hn
        have hn' : lookT st.B d = none := by simpa using hn.1
        obtain ⟨v, rfl, hv⟩ := rvl_one hx
        obtain ⟨hcells, hok⟩ := RV.cells hn.2.2 hv
        obtain ⟨hR, hF⟩ := push_ok hs hn' hcells
        refine ⟨_, _, _, .ptr ⟨s.L.length, d⟩ 0, _, h, .of fun C => ?_, by simp [RV, hs.len], hR, hF, rfl, rfl⟩
        unfold stepM
        simp only [hop, hd]
        rw [if_pos ⟨by rw [lookT_none hs hn']; rfl, by rw [hcells.length]; exact hn.2.1, hok⟩, hs.len]
      · cases h
    · cases h
  · rw [stepMT_call hop hc] at h
    cases xs with
    | nil => cases h
    | cons fv args =>
      simp only [RVL] at hx
      obtain ⟨fv', args', rfl, hfv, ha⟩ := hx
      obtain ⟨v, st', u, s', hk, hev, hr, hR, hF, e1, e2, hp⟩ := callVT_ok hT hO hfv ha hs h
      refine ⟨v, st', _, u, s', hk, hev.imp fun C hC => ?_, hr, hR, hF, e1, e2⟩
      rw [stepM_call hop hc]
      obtain ⟨hC, hlk⟩ := hC
      simp only [hC, Option.map_some]
      rw [← hp, hlk]
  · rw [stepMT_dflt hd] at h
    obtain ⟨v, st', fp, u, s', hk, hm, hr, hR, hF, e1, e2⟩ := dfltMT_ok hx hs h
    exact ⟨v, st', fp, u, s', hk, .of fun C => by rw [stepM_dflt hd]; exact hm, hr, hR, hF, e1, e2⟩
theorem getE {E : Env} {E' : List V} (h : RVL E.toL E') (t : Nat) : RV (E.get t) (E'.getD t .undef) := by rw [get_getD]; exact h.getD t
theorem rd_ok {o : Oper} {E : Env} {E' : List V} (h : RVL E.toL E') (x : Operand) : RV (rdT H f o E x) (rd H f o E' x) := by
  cases x with
  | tmp t =>
    simp only [rdT, rd]
    split
    · exact getE h t
    · exact (getE h t).dull
  | const v => exact rv_const _ _
  | global g => exact rv_undef []
  | func g => simp [rdT, rd, RV, RVL]
theorem rds_ok {o : Oper} {E : Env} {E' : List V} (h : RVL E.toL E') : ∀ l : List Operand, RVL (l.map (rdT H f o E)) (l.map (rd H f o E'))
  | [] => rvl_nil
  | x :: l => rvl_cons.2 ⟨rd_ok h x, rds_ok h l⟩
theorem dullAt_ok : ∀ (ts : List Tmp) {E : Env} {E' : List V}, RVL E.toL E' → RVL (dullAtT E ts).toL (dullAt E' ts)
  | [], E, E', h => h
  | t :: ts, E, E', h => by
    have h1 : RVL (E.set t (E.get t).dull).toL (E'.modify t V.dull) := by
      rw [toL_modify]
      refine rvl_of_get (by simp [h.length]) fun i x v hx hv => ?_
      rw [List.getElem?_modify] at hx hv
      obtain ⟨y, hy, rfl⟩ := Option.map_eq_some_iff.1 hx
      obtain ⟨u, hu, rfl⟩ := Option.map_eq_some_iff.1 hv
      obtain ⟨u2, hu2, hr⟩ := h.get hy
      rw [hu] at hu2; cases hu2
      by_cases e : t = i
      · simp only [e, if_true]; exact hr.dull
      · simp only [if_neg e]; exact hr
    exact dullAt_ok ts h1
theorem dullAt_other {ts : List Tmp} {t : Nat} (h : t ∉ ts) : ∀ E : List V, (dullAt E ts)[t]? = E[t]? := by
  induction ts with
  | nil => intro E; rfl
  | cons u ts ih =>
    intro E
    simp only [List.mem_cons, not_or] at h
    have e : dullAt E (u :: ts) = dullAt (E.modify u V.dull) ts := rfl
    rw [e, ih h.2, List.getElem?_modify]
    simp [Ne.symm h.1]
theorem dullAt_len' (ts : List Tmp) (E : List V) : (dullAt E ts).length = E.length := dullAt_length ts E
theorem put_ok {st : TSt} {s : St} (hs : Rst st s) (d : Option Tmp) {v : TV} {u : V} (hv : RV v u) : Rst (st.put d v) (s.put d u) ∧ Fr2 st (st.put d v) s (s.put d u) := by
  cases d with
  | none => exact ⟨hs, Fr2.refl _ _⟩
  | some t =>
    refine ⟨⟨by show RVL (st.E.set t v).toL _; rw [toL_set]; exact hs.E.set t hv, hs.M⟩, ⟨fun x hx => by simp [TSt.put, hx], fun r hr => hr, fun x hx => .inl ?_, fun x hx rs hE => ⟨rs, ?_⟩, fun r hr => .inl rfl, fun r hr h => h, rfl, by simp [St.put]⟩⟩
    case refine_2 =>
      simp only [TSt.put, Mask.mem_ins, not_or] at hx
      simp only [TSt.put, toL_set] at hE
      rwa [List.getElem?_set_ne (Ne.symm hx.1)] at hE
    simp only [TSt.put, Mask.mem_ins, not_or] at hx
    simp only [St.put]
    rw [List.getElem?_set_ne (Ne.symm hx.1)]
theorem dullAt_same {E : Env} {E' : List V} (h : RVL E.toL E') {ts : List Tmp} {t : Nat} (ht : t ∉ ts.filter (fun t => (E.get t).owns)) : (dullAt E' ts)[t]? = E'[t]? := by
  rw [dullAt_at]
  split
  · rename_i hm
    have hno : (E.get t).owns = false := by
      cases hh : (E.get t).owns with
      | false => rfl
      | true => exact absurd (List.mem_filter.2 ⟨hm, hh⟩) ht
    cases hv : E'[t]? with
    | none => rfl
    | some v =>
      have hr := getE h t
      rw [List.getD_eq_getElem?_getD (l := E'), hv] at hr
      simp only [Option.map_some, Option.some.injEq]
      refine dull_of_owns v ?_
      cases ho : v.owns with
      | false => rfl
      | true => have := RV.owns _ _ hr ho; rw [hno] at this; cases this
  · rfl
theorem dull_any {x : TV} {rs : List Root} (h : x.dull = .any rs) : x = .any rs := by
  cases x with
  | room a s => rcases a with _ | a <;> simp [TV.dull] at h
  | _ => simp_all [TV.dull]
theorem dullAtT_any : ∀ (T : List Tmp) (E : Env) (t : Nat) (rs : List Root), (dullAtT E T).toL[t]? = some (.any rs) → ∃ rs', E.toL[t]? = some (.any rs')
  | [], E, t, rs, h => ⟨rs, h⟩
  | s :: T, E, t, rs, h => by
    have h' : (dullAtT (E.set s (E.get s).dull) T).toL[t]? = some (.any rs) := h
    obtain ⟨rs', h1⟩ := dullAtT_any T _ t rs h'
    rw [toL_modify, List.getElem?_modify] at h1
    cases hE : E.toL[t]? with
    | none => rw [hE] at h1; cases h1
    | some x =>
      rw [hE] at h1
      simp only [Option.map_eq_map, Option.map_some, Option.some.injEq] at h1
      split at h1
      · exact ⟨rs', by rw [dull_any h1]⟩
      · exact ⟨rs', by rw [h1]⟩
theorem stepFpT_ok (hT : TOk P H lib T) (hO : OOk P H lib O) {o : Oper} {st : TSt} {s : St} {R : Type} {k : TSt → Fp → Option R} {r : R} (hs : Rst st s) (h : stepFpT P H J T O ctx f o st R k = some r) :
    ∃ st' fp s', k st' fp = some r ∧ Ev (fun C => stepFp P H C f o s = some (s', fp)) P H lib ∧ Rst st' s' ∧ Fr2 st st' s s' ∧ ∀ t : Nat, t ∉ tmpsOf o → o.dst ≠ some t → s'.E[t]? = s.E[t]? := by
  unfold stepFpT at h
  split at h
  · cases h
  · rename_i hn
    have hs1 : Rst (if takes H f o = true then { st with E := dullAtT st.E (tmpsOf o), Wt := Mask.ofList ((tmpsOf o).filter (fun t => (st.E.get t).owns)) ++ st.Wt } else st) (if takes H f o = true then { s with E := dullAt s.E (tmpsOf o) } else s) ∧
        Fr2 st (if takes H f o = true then { st with E := dullAtT st.E (tmpsOf o), Wt := Mask.ofList ((tmpsOf o).filter (fun t => (st.E.get t).owns)) ++ st.Wt } else st) s (if takes H f o = true then { s with E := dullAt s.E (tmpsOf o) } else s) := by
      split
      · refine ⟨⟨dullAt_ok _ hs.E, hs.M⟩, ⟨fun t ht => by simp [ht], fun r hr => hr, fun t ht => .inl ?_, fun t ht rs hE => ?_, fun r hr => .inl rfl, fun r hr h => h, rfl, dullAt_len' _ _⟩⟩
        · simp only [Mask.mem_append, Mask.mem_ofList, not_or] at ht
          exact dullAt_same hs.E ht.1
        · exact dullAtT_any _ _ _ _ hE
      · exact ⟨hs, Fr2.refl _ _⟩
    obtain ⟨v, st', fp, u, s', hk, hev, hr, hR, hF, e1, e2⟩ := stepMT_ok hT hO (rds_ok hs.E _) hs1.1 h
    obtain ⟨hR2, hF2⟩ := put_ok hR o.dst hr
    refine ⟨_, fp, _, hk, hev.imp fun C hC => ?_, hR2, (hs1.2.trans hF).trans hF2, fun t h1 h2 => ?_⟩
    · unfold stepFp
      rw [if_neg hn, hC]
      rfl
    · have h3 : (s'.put o.dst u).E[t]? = s'.E[t]? := by
        unfold St.put
        cases hd : o.dst with
        | none => rfl
        | some d =>
          simp only
          rw [List.getElem?_set_ne]
          rintro rfl; exact h2 hd
      rw [h3, e2]
      split
      · exact dullAt_other h1 s.E
      · rfl
theorem gate_ok {ops : Array Oper} {o : Oper} {st : TSt} {s : St} {R : Type} {yes no : TSt → Option R} {r : R} (hs : Rst st s) (h : gateT ops o st R yes no = some r) :
    ∃ st1 b, wantedA ops s.E o = some b ∧ Rst st1 s ∧ Fr2 st st1 s s ∧ (if b then yes st1 else no st1) = some r := by
  unfold gateT at h
  unfold wantedA
  split at h
  · rename_i hg
    rw [hg]
    exact ⟨st, true, rfl, hs, Fr2.refl _ _, h⟩
  · rename_i j want hg
    rw [hg]
    simp only
    split at h
    · rename_i t ht
      rw [ht]
      simp only
      split at h
      · rename_i o' b hb
        obtain ⟨v, hv, hr⟩ := hs.E.get (some_get hb (by simp))
        simp only [RV, RTy] at hr
        subst hr
        rw [hv]
        have hset : ∀ c, b = c → Rst ({ st with E := st.E.set t (.t .bool 0 c) } : TSt) s := fun c hc => ⟨by
          rw [toL_set]
          refine rvl_set_same hs.E t fun u hu => ?_
          rw [hv] at hu; cases hu; simp [RV, RTy, hc], hs.M⟩
        have hfr : ∀ c, Fr2 st ({ st with E := st.E.set t (.t .bool 0 c) } : TSt) s s := fun c => ⟨fun x hx => hx, fun x hx => hx, fun x hx => .inl rfl, fun x hx rs hE => ⟨rs, by
          simp only [toL_set, List.getElem?_set] at hE
          split at hE
          · split at hE <;> cases hE
          · exact hE⟩, fun x hx => .inl rfl, fun x hx h => h, rfl, rfl⟩
        cases b with
        | true =>
          simp only [cond_true] at h
          refine ⟨_, (true == want), rfl, hset true rfl, hfr true, ?_⟩
          cases want <;> exact h
        | false =>
          simp only [cond_false] at h
          refine ⟨_, (false == want), rfl, hset false rfl, hfr false, ?_⟩
          cases want <;> exact h
      · rename_i vs hb
        obtain ⟨v, hv, hr⟩ := hs.E.get (some_get hb (by simp))
        simp only [RV] at hr
        subst hr
        rw [hv]
        split at h
        · rename_i h0
          exact ⟨st, false, by simp only [h0, if_true], hs, Fr2.refl _ _, h⟩
        · cases h
      · cases h
    · cases h
def pathV (p : List (Int × Nat × Nat)) : Path := p.map fun e => (e.1.toNat, e.2.1, e.2.2)
theorem idxOfT_ok {E : Env} {E' : List V} (h : RVL E.toL E') {i : Operand} {n : Int} (hi : idxOfT E i = some n) (h0 : 0 ≤ n) : idxOf E' i = some n.toNat := by
  cases i with
  | tmp t =>
    simp only [idxOfT] at hi
    obtain ⟨k, hk⟩ := tint_ok hi (getE h t)
    simp only [idxOf, hk]
    exact natOf_int h0
  | const v =>
    simp only [idxOfT] at hi
    split at hi
    · cases hi; simp only [idxOf]; exact natOf_int h0
    · cases hi
  | _ => simp [idxOfT] at hi
theorem lkPathT_ok {ops : Array Oper} {E : Env} {E' : List V} (h : RVL E.toL E') : ∀ (n k : Nat) (d : Tmp) (rt : Rt) (p : List (Int × Nat × Nat)) (ptr : Bool), lkPathT P H f ops E n k d = some (rt, p, ptr) → (∀ e ∈ p, 0 ≤ e.1) → lkPath P H f ops E' n k d = some (rt, pathV p, ptr) := by
  intro n
  induction n with
  | zero => intro k d rt p ptr hx; simp [lkPathT] at hx
  | succ n ih =>
    intro k d rt p ptr hx h0
    simp only [lkPathT] at hx
    simp only [lkPath]
    split at hx
    · rename_i hl
      rw [if_pos hl]
      simp only [Option.some.injEq, Prod.mk.injEq] at hx
      obtain ⟨rfl, rfl, rfl⟩ := hx
      rfl
    · rename_i hl
      rw [if_neg hl]
      cases hc : defAt ops k d with
      | none => rw [hc] at hx; cases hx
      | some c =>
        rw [hc] at hx
        try simp only at hx ⊢
        cases hop : (ops[c]?).map Oper.op with
        | none => rw [hop] at hx; cases hx
        | some op =>
          rw [hop] at hx
          try simp only at hx ⊢
          split at hx
          · rename_i a heq
            cases heq
            exact ih _ _ _ _ _ hx h0
          · rename_i t a i heq
            cases heq
            try simp only
            split at hx
            · rename_i r q j elem hq hj hu
              simp only [Option.some.injEq, Prod.mk.injEq] at hx
              obtain ⟨rfl, rfl, rfl⟩ := hx
              rw [ih _ _ _ _ _ hq (fun e he => h0 e (by simp [he])), idxOfT_ok h hj (h0 (j, 0, P.cellsOf elem) (by simp)), hu]
              rfl
            · cases hx
          · rename_i t a fd heq
            cases heq
            try simp only
            split at hx
            · rename_i r j o s q o' hq ho'
              simp only [Option.some.injEq, Prod.mk.injEq] at hx
              obtain ⟨rfl, rfl, rfl⟩ := hx
              rw [ih _ _ _ _ _ hq (fun e he => by
                rcases List.mem_cons.1 he with rfl | he
                · exact h0 (j, o + o', s) (by simp)
                · exact h0 e (by simp [he])), ho']
              rfl
            · cases hx
          · rename_i t a heq
            cases heq
            try simp only
            split at hx
            · cases hx
            · rename_i hag
              rw [if_neg hag]
              split at hx
              · rename_i hla
                rw [if_pos hla]
                split at hx
                · rename_i r q hq
                  simp only [Option.some.injEq, Prod.mk.injEq] at hx
                  obtain ⟨rfl, rfl, rfl⟩ := hx
                  rw [ih _ _ _ _ _ hq h0]
                · cases hx
              · rename_i hla
                rw [if_neg hla]
                split at hx
                · rename_i r off hE
                  simp only [Option.some.injEq, Prod.mk.injEq] at hx
                  obtain ⟨rfl, rfl, rfl⟩ := hx
                  have := getE h a
                  rw [hE] at this
                  simp only [RV] at this
                  rw [this]
                  rfl
                · cases hx
          · cases hx
theorem recellT_ok {τ : Ty} (he : τ.elemOk = true) {o : Nat} {e : τ.den} {b : V} (hr : RTy τ o e b) {cs : List TV} {cs' : List V} (hc : RVL cs cs') (hlen : cs.length = τ.ncells) (h0 : τ.ncells ≠ 0) : RV (recellT (ofTy τ o e) cs) (recell b cs') := by
  have hd : ∀ (hone : τ.ncells = 1), RV (cs.headD (.any [])) (cs'.headD .undef) := fun _ => by
    cases hc' : cs with
    | nil => rw [hc'] at hlen; simp at hlen; omega
    | cons x l =>
      rw [hc'] at hc
      simp only [RVL] at hc
      obtain ⟨v, m, rfl, h1, _⟩ := hc
      exact h1
  cases τ with
  | int k => simp only [RTy] at hr; subst hr; exact hd rfl
  | bool => simp only [RTy] at hr; subst hr; exact hd rfl
  | str => simp only [RTy] at hr; subst hr; exact hd rfl
  | sl t => simp only [RTy] at hr; obtain ⟨f, c, l', rfl, _⟩ := hr; exact hd rfl
  | unit => exact absurd rfl h0
  | pair a b' =>
    simp only [RTy] at hr; obtain ⟨v1, l, rfl, _⟩ := hr
    simp only [ofTy, recellT, recell, RV]
    exact ⟨cs', rfl, hc⟩
theorem all2_set {α β : Type} {R : α → β → Prop} {l : List α} {l' : List β} (h : All2 R l l') : ∀ (i : Nat) {a : α} {b : β}, R a b → All2 R (l.set i a) (l'.set i b) := by
  induction h with
  | nil => intro i a b _; exact .nil
  | cons h1 h2 ih =>
    intro i a b hab
    cases i with
    | zero => exact .cons hab h2
    | succ i => exact .cons h1 (ih i hab)
theorem updT_ok {ys : List TV} {ys' : List V} (hy : RVL ys ys') : ∀ (p : List (Int × Nat × Nat)) (x : TV) (v : V) {R : Type} {k : TV → Option R} {r : R}, updT ys p x R k = some r → RV x v →
    (∀ e ∈ p, 0 ≤ e.1) ∧ ∃ y u, k y = some r ∧ updF ys' (pathV p) v = some u ∧ RV y u := by
  intro p
  induction p with
  | nil => intro x v R k r h; unfold updT at h; cases h
  | cons q p ih =>
    obtain ⟨i, o, s⟩ := q
    intro x v R k r h hx
    by_cases hxs : ∃ τ lv l, x = .t (.sl τ) lv l
    · obtain ⟨τ, lv, l, rfl⟩ := hxs
      unfold updT at h
      split at h
      · rename_i hc
        obtain ⟨hown, hcl, hs0, hok, hel⟩ := hc
        obtain ⟨e, he, h⟩ := Option.bind_eq_some_iff.1 h
        obtain ⟨h0, hget⟩ := idx_some he
        simp only [RV, RTy] at hx
        obtain ⟨fl, c, l', rfl, hfl, hall⟩ := hx
        have hf : fl = .own := hfl.own hown
        subst hf
        obtain ⟨b, hb, hr⟩ := hall.get hget
        obtain ⟨hbl, hbo⟩ := rty_ncells hel hr
        have hcells := (RV.cells (ofTy_oks hel (nx lv) e) (rv_ofTy τ (nx lv) e b hr)).1
        have hcl2 : (ofTy τ (nx lv) e).cells.length = τ.ncells := by rw [← hcells.length, hbl]
        have hn0 : τ.ncells ≠ 0 := by rw [hcl]; exact hs0
        have hfin : ∀ (cs : List TV) (cs' : List V) (e' : τ.den), RVL cs cs' → cs.length = τ.ncells → asTy τ (nx lv) (recellT (ofTy τ (nx lv) e) cs) = some e' →
            RV (.t (.sl τ) lv (l.set i.toNat e')) (.sl .own c (l'.set i.toNat (recell b cs'))) := fun cs cs' e' hcs hlen has => by
          have := asTy_ok _ _ _ _ _ has (recellT_ok hel hr hcs hlen hn0)
          simp only [RV, RTy]
          exact ⟨.own, c, _, rfl, flr_own hown, all2_set hall _ this⟩
        cases p with
        | nil =>
          simp only at h
          split at h
          · rename_i hle
            split at h
            · rename_i e' has
              have hsp := splice_ok (off := o) hcells hy
              refine ⟨by simp [h0], _, _, h, ?_, hfin _ _ e' hsp ?_ has⟩
              · simp only [pathV, List.map_cons, List.map_nil, updF]
                rw [hb]
                simp only
                rw [if_pos ⟨by rw [hbl, hcl], hbo⟩, if_pos (by rw [hy.length]; exact hle)]
              · rw [← hsp.length, splice_length (by rw [hy.length, hbl, hcl]; exact hle), hbl]
            · cases h
          · cases h
        | cons q2 p2 =>
          simp only at h
          split at h
          · rename_i z hz
            obtain ⟨z', hz', hrz⟩ := hcells.get hz
            obtain ⟨h1, y, u, hk, hupd, hyu⟩ := ih z z' h hrz
            split at hk
            · rename_i e' has
              have hset := hcells.set o hyu
              refine ⟨fun e he => ?_, _, _, hk, ?_, hfin _ _ e' hset (by simp [hcl2]) has⟩
              · rcases List.mem_cons.1 he with rfl | he
                · exact h0
                · exact h1 e he
              · have hpv : pathV ((i, o, s) :: q2 :: p2) = (i.toNat, o, s) :: pathV (q2 :: p2) := rfl
                have hpn : pathV (q2 :: p2) = (q2.1.toNat, q2.2.1, q2.2.2) :: pathV p2 := rfl
                rw [hpv]
                rw [hpn] at hupd ⊢
                unfold updF
                rw [hb]
                simp only
                rw [if_pos ⟨by rw [hbl, hcl], hbo⟩, hz']
                simp only
                rw [hupd]; rfl
            · cases hk
          · cases h
      · cases h
    · exfalso
      cases x with
      | t τ lv l =>
        cases τ with
        | sl τ => exact hxs ⟨τ, lv, l, rfl⟩
        | _ => simp [updT] at h
      | _ => simp [updT] at h
theorem rv_hard {x : TV} {v : V} (h : RV x v) : RV x.hard v.hard := by
  unfold TV.hard V.hard
  cases hf : x.firm with
  | true =>
    rw [RV.firm x v hf h]
    simpa using h
  | false =>
    simp only [Bool.false_eq_true, if_false]
    split
    · exact rv_undef _
    · simp only [RV]; exact ⟨fun r hr => RV.ptrs x v h r hr, rvl_notLp (rvl_cons.2 ⟨h, rvl_nil⟩)⟩
theorem rvl_hard : ∀ {l : List TV} {l' : List V}, RVL l l' → RVL (l.map TV.hard) (l'.map V.hard)
  | [], l', h => by simp only [RVL] at h; subst h; exact rvl_nil
  | x :: l, l', h => by
    simp only [RVL] at h; obtain ⟨v, m, rfl, h1, h2⟩ := h
    exact rvl_cons.2 ⟨rv_hard h1, rvl_hard h2⟩
theorem rvl_firm : ∀ {l : List TV} {l' : List V}, RVL l l' → l.all TV.firm = true → l'.map V.hard = l'
  | [], l', h, _ => by simp only [RVL] at h; subst h; rfl
  | x :: l, l', h, hf => by
    simp only [RVL] at h; obtain ⟨v, m, rfl, h1, h2⟩ := h
    simp only [List.all_cons, Bool.and_eq_true] at hf
    simp only [List.map_cons]
    rw [rvl_firm h2 hf.2]
    have : v.hard = v := by unfold V.hard; rw [RV.firm x v hf.1 h1]; rfl
    rw [this]
theorem softT_mem {E : Env} {i : Nat} {x : TV} (h : E.toL[i]? = some x) (hf : x.firm = false) (ha : x.isAny = false) : i ∈ softT E :=
  mask_get (by simp [TV.isAny]) h (by simp [hf, ha])
theorem softB_mem : ∀ {b : TLevel} {k : Nat} {c : List TV}, lookT b k = some (some c) → c.all TV.firm = false → (⟨0, k⟩ : Root) ∈ softB b
  | [], k, c, h, _ => by simp [lookT] at h
  | (k', none) :: b, k, c, h, hf => by
    simp only [lookT] at h
    split at h
    · cases h
    · simp only [softB]; exact softB_mem h hf
  | (k', some d) :: b, k, c, h, hf => by
    simp only [lookT] at h
    simp only [softB]
    split at h
    · rename_i e
      cases h
      rw [hf]
      simp [e]
    · split
      · exact softB_mem h hf
      · exact List.mem_cons_of_mem _ (softB_mem h hf)
theorem lookT_hard (s : Nat) : ∀ b : TLevel, lookT (hardTB b) s = (lookT b s).map (Option.map (List.map TV.hard))
  | [] => rfl
  | (k, c) :: b => by
    simp only [hardTB, List.map_cons, lookT]
    split
    · rfl
    · exact lookT_hard s b
theorem notAny_firm {x : TV} (h : x.isAny = true) : ∃ rs, x = .any rs := by cases x <;> first | exact ⟨_, rfl⟩ | (simp [TV.isAny] at h)
def softV (s : St) (T : List Tmp) : St := { s with E := (dullAt s.E T).map V.hard, B := hardB s.B }
theorem box_all0 {st : TSt} (hL : st.L = []) (r : Root) : st.box r = if r.lvl = 0 then (match lookT st.B r.slot with | some (some c) => some c | _ => none) else none := by
  unfold TSt.box
  rw [hL]
  simp only [List.length_nil]
  by_cases h : r.lvl = 0
  · rw [if_pos h, if_pos h]
    cases lookT st.B r.slot with
    | none => rfl
    | some o => cases o <;> rfl
  · rw [if_neg h, if_neg h]; simp
theorem soften_ok {st : TSt} {s : St} (h : Rst st s) (hL : st.L = []) (T : List Tmp) : s.L = [] ∧ noLpB s.B = true ∧ Rst (st.soften T) (softV s T) ∧ Fr2 st (st.soften T) s (softV s T) := by
  have hL' : s.L = [] := List.eq_nil_of_length_eq_zero (by rw [h.len, hL]; rfl)
  have hB : ∀ k, RB (lookT st.B k) (lookB s.B k) := fun k => by
    have := h.M.rel 0 k
    unfold lookM lookV at this
    simpa [TSt.all, allV, hL, hL'] using this
  have hnd : (s.B.map (·.1)).Nodup := h.M.nd s.B (by simp [allV])
  have hlp : ∀ k c, lookB s.B k = some c → isLp c = false := fun k c hc => by
    have := hB k
    cases ht : lookT st.B k with
    | none => rw [ht] at this; simp only [RB] at this; rw [this] at hc; cases hc
    | some o =>
      rw [ht] at this
      cases o with
      | none => exact this c hc
      | some d => obtain ⟨d', hd', hr⟩ := this; rw [hc] at hd'; cases hd'; exact rvl_notLp hr
  have hE := dullAt_ok T h.E
  have hlen : (dullAt s.E T).length = s.E.length := dullAt_length T s.E
  have hfirmE : ∀ (t : Nat), t ∉ softT (dullAtT st.E T) → ∀ x v, (dullAtT st.E T).toL[t]? = some x → (dullAt s.E T)[t]? = some v → x.firm = true ∨ ∃ rs, x = .any rs := fun t hts x v hx _ => by
    cases hf : x.firm with
    | true => exact .inl rfl
    | false =>
      cases ha : x.isAny with
      | true => exact .inr (notAny_firm ha)
      | false => exact absurd (softT_mem hx hf ha) hts
  have hmap : ((dullAtT st.E T).mapI fun _ v => v.hard).toL = (dullAtT st.E T).toL.map TV.hard := by
    apply List.ext_getElem?
    intro i
    rw [toL_mapI, List.getElem?_map]
  refine ⟨hL', ?_, ⟨by show RVL ((dullAtT st.E T).mapI fun _ v => v.hard).toL _; rw [hmap]; exact rvl_hard hE, ?_⟩, ?_⟩
  · unfold noLpB
    rw [List.all_eq_true]
    rintro ⟨k, c⟩ hk
    simp only [hlp k c (lookB_mem hnd hk), Bool.not_false]
  · refine ⟨by simp [TSt.all, allV, TSt.soften, softV, hL, hL'], fun l k => ?_, fun b hb => ?_⟩
    · unfold lookM lookV
      simp only [TSt.all, allV, TSt.soften, softV, hL, hL', List.nil_append]
      cases l with
      | zero =>
        simp only [List.getElem?_cons_zero]
        rw [lookT_hard, lookB_hard]
        have := hB k
        cases ht : lookT st.B k with
        | none => rw [ht] at this; simp only [RB] at this; rw [this] <;> rfl
        | some o =>
          rw [ht] at this
          cases o with
          | none =>
            simp only [Option.map_some, Option.map_none]
            intro c hc
            obtain ⟨c0, h1, rfl⟩ := Option.map_eq_some_iff.1 hc
            exact isLp_hard (this c0 h1)
          | some d => obtain ⟨d', hd', hr⟩ := this; rw [hd']; exact ⟨_, rfl, rvl_hard hr⟩
      | succ l => simp [RB]
    · simp only [allV, softV, hL', List.nil_append, List.mem_singleton] at hb
      subst hb
      simpa [hardB, List.map_map, Function.comp_def] using hnd
  · refine ⟨fun t ht => by simp [TSt.soften, ht], fun r hr => by simp [TSt.soften, hr], fun t ht => ?_, fun t ht rs hE' => ?_, fun r hr => ?_, fun r hr hsm => ?_, rfl, by simp [softV, hlen]⟩
    · simp only [TSt.soften, Mask.mem_append, Mask.mem_ofList, not_or] at ht
      simp only [softV, List.getElem?_map]
      have hEt := dullAt_same h.E ht.1
      rw [hEt]
      cases hv : s.E[t]? with
      | none => left; rfl
      | some v =>
        simp only [Option.map_some]
        have hv2 : (dullAt s.E T)[t]? = some v := by rw [hEt]; exact hv
        have hxt : ∃ x, (dullAtT st.E T).toL[t]? = some x := by
          have hlt : t < (dullAtT st.E T).toL.length := by
            have := (List.getElem?_eq_some_iff.1 hv2).1
            rw [← hE.length]; exact this
          exact ⟨_, List.getElem?_eq_getElem hlt⟩
        obtain ⟨x, hx⟩ := hxt
        rcases hfirmE t ht.2.1 x v hx hv2 with hf | ⟨rs, rfl⟩
        · left
          obtain ⟨v', hv', hr⟩ := hE.get hx
          rw [hv2] at hv'; cases hv'
          unfold V.hard; rw [RV.firm x v hf hr]; rfl
        · unfold V.hard
          cases hs : v.soft with
          | false => left; rfl
          | true =>
            right
            exact ⟨dullAtT_any _ _ _ _ hx, rfl⟩
    · simp only [TSt.soften, Mask.mem_append, Mask.mem_ofList, not_or] at ht
      simp only [TSt.soften, hmap, List.getElem?_map] at hE'
      obtain ⟨x, hx, hxa⟩ := Option.map_eq_some_iff.1 hE'
      obtain ⟨v, hv, _⟩ := hE.get hx
      rcases hfirmE t ht.2.1 x v hx hv with hf | ⟨rs', rfl⟩
      · unfold TV.hard at hxa
        rw [hf] at hxa
        simp only [if_true] at hxa
        subst hxa
        simp [TV.firm] at hf
      · exact dullAtT_any _ _ _ _ hx
    · simp only [TSt.soften, List.mem_append, not_or] at hr
      rw [box_L0 (st := softV s T) hL', box_L0 hL']
      by_cases h0 : r.lvl = 0
      · rw [if_pos h0, if_pos h0]
        simp only [softV, lookB_hard]
        have := hB r.slot
        cases ht : lookT st.B r.slot with
        | none => rw [ht] at this; simp only [RB] at this; rw [this]; left; rfl
        | some o =>
          rw [ht] at this
          cases o with
          | none =>
            right
            refine ⟨by rw [hL']; rfl, by rw [box_all0 hL, if_pos h0, ht], by simp, fun c hc => ?_⟩
            obtain ⟨c0, h1, rfl⟩ := Option.map_eq_some_iff.1 hc
            exact isLp_hard (this c0 h1)
          | some d =>
            left
            obtain ⟨d', hd', hrr⟩ := this
            rw [hd']
            cases hf : d.all TV.firm with
            | true => simp only [Option.map_some]; rw [rvl_firm hrr hf]
            | false =>
              exfalso
              refine hr.1 ?_
              have := softB_mem ht hf
              obtain ⟨l, sl⟩ := r
              simp only at h0 this
              rw [h0]; exact this
      · rw [if_neg h0, if_neg h0]; left; rfl
    · rw [box_all0 hL] at hsm
      have hL2 : (st.soften T).L = [] := hL
      rw [box_all0 hL2]
      by_cases h0 : r.lvl = 0
      · rw [if_pos h0] at hsm ⊢
        simp only [TSt.soften, lookT_hard]
        cases ht : lookT st.B r.slot with
        | none => rw [ht] at hsm; cases hsm
        | some o =>
          rw [ht] at hsm
          cases o with
          | none => cases hsm
          | some d => rfl
      · rw [if_neg h0] at hsm; cases hsm
def HoleOk (h : Hole) (s : St) : Prop := ∃ c l' b, s.E[h.r]? = some (.sl .own c (l'.set h.j.toNat b)) ∧ All2 (RTy h.τ (nx h.lv)) h.l l' ∧ b.cells = [b] ∧ b.oks = true ∧ (∀ cs, recell b cs = cs.headD .undef) ∧ 0 ≤ h.j ∧ h.j.toNat < l'.length ∧ isOwn h.lv = true
def HolesOk (h : Option Hole) (s : St) : Prop := ∀ x, h = some x → HoleOk x s
theorem holes_none {s : St} : HolesOk none s := fun x h => by cases h
theorem keepH_ok {o : Oper} {hole : Option Hole} {s s' : St} (h : HolesOk hole s) (hk : ∀ t : Nat, t ∉ tmpsOf o → o.dst ≠ some t → s'.E[t]? = s.E[t]?) : HolesOk (keepH o hole) s' := by
  intro x hx
  unfold keepH at hx
  split at hx
  · rename_i h0
    split at hx
    · cases hx
    · rename_i hc
      cases hx
      simp only [not_or] at hc
      obtain ⟨c, l', b, h1, h2⟩ := h x rfl
      exact ⟨c, l', b, by rw [hk x.r (by simpa using hc.2) hc.1]; exact h1, h2⟩
  · cases hx
theorem keepH_put {o : Oper} {hole : Option Hole} {s : St} (h : HolesOk hole s) (v : V) : HolesOk (keepH o hole) (s.put o.dst v) :=
  keepH_ok h fun t _ h2 => by
    unfold St.put
    cases hd : o.dst with
    | none => rfl
    | some d =>
      simp only
      rw [List.getElem?_set_ne]
      rintro rfl; exact h2 hd
theorem fillH_ok {hole : Option Hole} {r0 : Tmp} {p : List (Int × Nat × Nat)} {x : TV} {v : V} {st : TSt} {s sV : St} {R : Type} {k : TSt → Option R} {r : R} (hh : HolesOk hole sV) (hx : RV x v) (hs : Rst st s) (h : fillH hole r0 p x st R k = some r) :
    (∀ e ∈ p, 0 ≤ e.1) ∧ ∃ st' y, k st' = some r ∧ updF v.cells (pathV p) (sV.E.getD r0 .undef) = some y ∧ y.soft = false ∧ Rst st' (s.put (some r0) y) ∧ Fr2 st st' s (s.put (some r0) y) := by
  unfold fillH at h
  split at h
  · rename_i hl i
    split at h
    · rename_i hr0
      subst hr0
      split at h
      · rename_i τ o y
        split at h
        · rename_i e he
          cases hd : decide (i = hl.j) with
          | false => rw [hd] at h; cases h
          | true =>
            rw [hd] at h
            simp only [cond_true] at h
            have hij : i = hl.j := of_decide_eq_true hd
            subst hij
            split at h
            · rename_i hf
              obtain ⟨c, l', b, h1, h2, h3, h4, h5, h6, h7, h8⟩ := hh hl rfl
              have hvc : v.cells = [v] := by
                simp only [RV, RTy] at hx; obtain ⟨f, c, m, rfl, _⟩ := hx; rfl
              have hy := asTy_ok _ _ _ _ _ he hx
              have hnew : RV (.t (.sl hl.τ) hl.lv (hl.l.set hl.j.toNat e)) (.sl .own c (l'.set hl.j.toNat v)) := by
                simp only [RV, RTy]
                exact ⟨.own, c, _, rfl, flr_own h8, all2_set h2 _ hy⟩
              obtain ⟨hR2, hF2⟩ := put_ok hs (some hl.r) hnew
              refine ⟨by simp [h6], _, _, h, ?_, RV.firm _ _ hf hnew, hR2, hF2⟩
              have hE : sV.E.getD hl.r .undef = .sl .own c (l'.set hl.j.toNat b) := by rw [List.getD_eq_getElem?_getD, h1]; rfl
              rw [hE, hvc]
              simp only [pathV, List.map_cons, List.map_nil, updF]
              have hg : (l'.set hl.j.toNat b)[hl.j.toNat]? = some b := by rw [List.getElem?_set_self h7]
              rw [hg]
              simp only
              rw [if_pos ⟨by rw [h3]; rfl, h4⟩, if_pos (by simp), h3, h5, List.set_set]
              simp [splice]
            · cases h
        · cases h
      · cases h
    · cases h
  · cases h
theorem lsT_ok {ops : Array Oper} {i : Nat} {o : Oper} {st : TSt} {s : St} {hole : Option Hole} {R : Type} {k : TSt → Option R} {r : R} (hs : Rst st s) (hh : HolesOk hole s) (h : lsT P H f ops i o st hole R k = some r) :
    ∃ st' s', k st' = some r ∧ lsStep P H f ops i o s = some s' ∧ Rst st' s' ∧ Fr2 st st' s s' := by
  unfold lsT at h
  split at h
  · rename_i t d xo hop
    simp only at h
    split at h
    · rename_i hc
      simp only [Bool.and_eq_true, decide_eq_true_eq, List.isEmpty_iff] at hc
      obtain ⟨⟨⟨⟨⟨⟨⟨hL, hdst⟩, hgd⟩, hnd⟩, hs0⟩, hxl⟩, hxo⟩, hxp⟩ := hc
      obtain ⟨hL', hnl, hsoft, hfr⟩ := soften_ok hs hL (tmpsOf o)
      have hrx := rd_ok (H := H) (f := f) (o := o) hs.E xo
      obtain ⟨hcx, hox⟩ := RV.cells hxo hrx
      have hpx : (rd H f o s.E xo).ptrs = [] := by
        rw [List.eq_nil_iff_forall_not_mem]
        intro q hq
        have := RV.ptrs _ _ hrx q hq
        rw [hxp] at this; cases this
      have hcond : (s.L.isEmpty && noLpB s.B && o.dst.isNone && o.guard.isNone && nodupT (tmpsOf o) && decide (P.cellsOf t ≠ 0) && decide ((rd H f o s.E xo).cells.length = P.cellsOf t) && (rd H f o s.E xo).oks && (rd H f o s.E xo).ptrs.isEmpty) = true := by
        simp only [Bool.and_eq_true, decide_eq_true_eq]
        exact ⟨⟨⟨⟨⟨⟨⟨⟨by rw [hL']; rfl, hnl⟩, hdst⟩, hgd⟩, hnd⟩, hs0⟩, by rw [hcx.length]; exact hxl⟩, hox⟩, by rw [hpx]; rfl⟩
      have hrev : ∀ p : List (Int × Nat × Nat), (pathV p).reverse = pathV p.reverse := fun p => by simp [pathV]
      split at h
      · rename_i r0 p hlk
        split at h
        · cases h
        · rename_i hrT
          split at h
          · obtain ⟨hp0, st', y, hk, hupd, hysoft, hR2, hF2⟩ := fillH_ok hh hrx hsoft h
            have hlk' := lkPathT_ok hs.E _ _ _ _ _ _ hlk hp0
            have hsing : (pathV p).reverse = pathV p := by
              unfold fillH at h
              split at h
              · rfl
              · cases h
            refine ⟨_, _, hk, ?_, hR2, hfr.trans hF2⟩
            unfold lsStep
            rw [hop]
            simp only
            rw [if_pos hcond, hlk']
            simp only
            rw [if_neg hrT, hsing, hupd]
            simp only
            rw [hysoft]
            rfl
          obtain ⟨hp0, y, u, hk, hupd, hyu⟩ := updT_ok hcx _ _ _ h (getE hs.E r0)
          split at hk
          · rename_i hf
            have hlk' := lkPathT_ok hs.E _ _ _ _ _ _ hlk (fun e he => hp0 e (by simpa using he))
            obtain ⟨hR2, hF2⟩ := put_ok hsoft (some r0) hyu
            refine ⟨_, _, hk, ?_, hR2, hfr.trans hF2⟩
            unfold lsStep
            rw [hop]
            simp only
            rw [if_pos hcond, hlk']
            simp only
            rw [if_neg hrT, hrev, hupd]
            simp only
            rw [RV.firm y u hf hyu]
            rfl
          · cases hk
      · rename_i q off p hlk
        split at h
        · rename_i cs hcs
          split at h
          · rename_i z hz
            obtain ⟨c', hc', hrc⟩ := hs.box hcs
            obtain ⟨z', hz', hrz⟩ := hrc.get hz
            obtain ⟨hp0, y, u, hk, hupd, hyu⟩ := updT_ok hcx _ _ _ h hrz
            split at hk
            · rename_i hf
              have hlk' := lkPathT_ok hs.E _ _ _ _ _ _ hlk (fun e he => hp0 e (by simpa using he))
              have hsb : (st.soften (tmpsOf o)).box q = some (cs.map TV.hard) := by
                have hL2 : (st.soften (tmpsOf o)).L = [] := hL
                rw [box_all0 hL] at hcs
                rw [box_all0 hL2]
                by_cases h0 : q.lvl = 0
                · rw [if_pos h0] at hcs ⊢
                  simp only [TSt.soften, lookT_hard]
                  split at hcs
                  · rename_i c hc; cases hcs; rw [hc]; rfl
                  · cases hcs
                · rw [if_neg h0] at hcs; cases hcs
              have hq0 : q.lvl = 0 := by
                rw [box_L0 hL'] at hc'
                split at hc'
                · assumption
                · cases hc'
              obtain ⟨hR2, hF2⟩ := setBox_ok hsoft hsb ((rvl_hard hrc).set off hyu)
              refine ⟨_, _, hk, ?_, hR2, hfr.trans hF2⟩
              unfold lsStep
              rw [hop]
              simp only
              rw [if_pos hcond, hlk']
              simp only
              rw [hc']
              simp only
              rw [hz']
              simp only
              rw [hrev, hupd]
              simp only
              rw [RV.firm y u hf hyu]
              simp only [Bool.false_eq_true, if_false, Option.some.injEq]
              unfold St.setBox softV
              rw [if_pos (by rw [hq0, hL']; rfl)]
            · cases hk
          · cases h
        · cases h
      · cases h
    · cases h
  · cases h
theorem lkGate_ok {o : Oper} {E : Env} {E' : List V} (h : RVL E.toL E') (hg : lkGateT H f o E = true) : lkGate H f o E' = true := by
  unfold lkGateT at hg
  unfold lkGate
  simp only [Bool.or_eq_true, Bool.and_eq_true] at hg ⊢
  refine hg.imp id fun ⟨h1, h2⟩ => ⟨?_, ?_⟩
  · rw [h.length, toL_len]; exact h1
  · split
    · rename_i t a hop
      rw [hop] at h2
      simp only [Bool.or_eq_true] at h2 ⊢
      refine h2.imp id fun h3 => ?_
      have := getE h a
      cases hx : E.get a with
      | cptr l => rw [hx] at this; simp only [RV] at this; obtain ⟨f', l', hl', _⟩ := this; rw [hl'] <;> rfl
      | _ => rw [hx] at h3; cases h3
    · rfl
theorem execT_ok (hT : TOk P H lib T) (hO : OOk P H lib O) {ops : Array Oper} {R : Type} {k : TSt → Option R} {r : R} : ∀ (is : List Nat) (st : TSt) (s : St), Rst st s → execT P H J T O ctx f ops is st R k = some r →
    ∃ st' s', k st' = some r ∧ Ev (fun C => execOps P H C f ops is s = some s') P H lib ∧ Rst st' s' ∧ Fr2 st st' s s'
  | [], st, s, hs, h => ⟨st, s, h, .of fun C => rfl, hs, Fr2.refl _ _⟩
  | i :: is, st, s, hs, h => by
    simp only [execT] at h
    split at h
    · cases h
    · rename_i o ho
      obtain ⟨st1, b, hw, hs1, hf1, hb⟩ := gate_ok hs h
      cases b with
      | true =>
        simp only [if_true] at hb
        obtain ⟨st2, fp, s2, hk, hev, hR, hF, hkeep⟩ := stepFpT_ok hT hO hs1 hb
        obtain ⟨st3, s3, hk3, hev3, hR3, hF3⟩ := execT_ok hT hO is st2 s2 hR hk
        refine ⟨st3, s3, hk3, (hev.and hev3).imp fun C hC => ?_, hR3, (hf1.trans hF).trans hF3⟩
        simp only [execOps, ho, hw, stepOp, hC.1, Option.map_some, hC.2]
      | false =>
        simp only [Bool.false_eq_true, if_false] at hb
        obtain ⟨hR, hF⟩ := put_ok hs1 o.dst (v := .val undef) (u := .val undef) (by simp [RV])
        obtain ⟨st3, s3, hk3, hev3, hR3, hF3⟩ := execT_ok hT hO is _ _ hR hb
        refine ⟨st3, s3, hk3, hev3.imp fun C hC => ?_, hR3, (hf1.trans hF).trans hF3⟩
        simp only [execOps, ho, hw, hC]
def Cov (l : List (Nat × Foot)) (e : Nat × Foot) : Prop := ∃ e' ∈ l, e'.1 = e.1 ∧ e'.2.fp = e.2.fp ∧ e'.2.looks = e.2.looks ∧ ∀ t ∈ e.2.took, t ∈ e'.2.took
theorem took_ok {o : Oper} {E : Env} {E' : List V} (h : RVL E.toL E') : ∀ t ∈ tookAt H f o E', t ∈ tookAtT H f o E := fun t ht => by
  unfold tookAt at ht
  unfold tookAtT
  split at ht
  · rename_i htk
    rw [if_pos htk]
    simp only [List.mem_filter] at ht ⊢
    exact ⟨ht.1, RV.owns _ _ (getE h t) ht.2⟩
  · cases ht
theorem execRT_ok (hT : TOk P H lib T) (hO : OOk P H lib O) {ops : Array Oper} {R : Type} {k : TSt → List (Nat × Foot) → Option R} {r : R} : ∀ (is : List Nat) (st : TSt) (s : St) (acc : List (Nat × Foot)), Rst st s → execRT P H J T O ctx f ops is st acc R k = some r →
    ∃ st' s' fps fpv, k st' fps = some r ∧ Ev (fun C => execR P H C f ops is s = some (s', fpv)) P H lib ∧ Rst st' s' ∧ Fr2 st st' s s' ∧ (∀ e ∈ acc, e ∈ fps) ∧ (∀ e ∈ fpv, Cov fps e)
  | [], st, s, acc, hs, h => ⟨st, s, acc, [], h, .of fun C => rfl, hs, Fr2.refl _ _, fun e he => he, by simp⟩
  | i :: is, st, s, acc, hs, h => by
    simp only [execRT] at h
    split at h
    · cases h
    · rename_i o ho
      obtain ⟨st1, b, hw, hs1, hf1, hb⟩ := gate_ok hs h
      cases b with
      | true =>
        simp only [if_true] at hb
        obtain ⟨st2, fp, s2, hk, hev, hR, hF, hkeep⟩ := stepFpT_ok hT hO hs1 hb
        obtain ⟨st3, s3, fps, fpv, hk3, hev3, hR3, hF3, hacc, hcov⟩ := execRT_ok hT hO is st2 s2 _ hR hk
        refine ⟨st3, s3, fps, (i, ⟨fp, tookAt H f o s.E, looksAt ops o⟩) :: fpv, hk3, (hev.and hev3).imp fun C hC => ?_, hR3, (hf1.trans hF).trans hF3, fun e he => hacc e (by simp [he]), fun e he => ?_⟩
        · simp only [execR, oneR, ho, hw, hC.1, Option.map_some, hC.2]
        · rcases List.mem_cons.1 he with rfl | he
          · exact ⟨_, hacc _ (List.mem_cons_self ..), rfl, rfl, rfl, fun t ht => took_ok hs1.E t ht⟩
          · exact hcov e he
      | false =>
        simp only [Bool.false_eq_true, if_false] at hb
        obtain ⟨hR, hF⟩ := put_ok hs1 o.dst (v := .val undef) (u := .val undef) (by simp [RV])
        obtain ⟨st3, s3, fps, fpv, hk3, hev3, hR3, hF3, hacc, hcov⟩ := execRT_ok hT hO is _ _ _ hR hb
        refine ⟨st3, s3, fps, (i, ⟨.none, [], looksAt ops o⟩) :: fpv, hk3, hev3.imp fun C hC => ?_, hR3, (hf1.trans hF).trans hF3, fun e he => hacc e (by simp [he]), fun e he => ?_⟩
        · simp only [execR, oneR, ho, hw, hC, Option.map_some]
        · rcases List.mem_cons.1 he with rfl | he
          · exact ⟨_, hacc _ (List.mem_cons_self ..), rfl, rfl, rfl, fun t ht => by cases ht⟩
          · exact hcov e he
theorem apT_ok {ops : Array Oper} {i : Nat} {o : Oper} {st : TSt} {s : St} {R : Type} {k : TSt → Hole → Option R} {r : R} (hs : Rst st s) (h : apT P H f ops i o st R k = some r) :
    ∃ st' s' hole, k st' hole = some r ∧ apTake P H f ops i o s = some s' ∧ Rst st' s' ∧ Fr2 st st' s s' ∧ HoleOk hole s' := by
  unfold apT at h
  split at h
  · rename_i argTypes args _ hop
    split at h
    · rename_i d hd
      split at h
      · rename_i r0 j hlk
        split at h
        · cases h
        · rename_i hrd
          simp only [not_or] at hrd
          split at h
          · rename_i τ lv l hE
            split at h
            · rename_i hown
              simp only [Bool.and_eq_true] at hown
              obtain ⟨e, he, hk⟩ := Option.bind_eq_some_iff.1 h
              obtain ⟨h0, hget⟩ := idx_some he
              have hlk' := lkPathT_ok hs.E _ _ _ _ _ _ hlk (fun e he => by simp only [List.mem_singleton] at he; subst he; exact h0)
              have hr := getE hs.E r0
              rw [hE] at hr
              simp only [RV, RTy] at hr
              obtain ⟨fl, c, l', hv, hfl, hall⟩ := hr
              have hf : fl = .own := hfl.own hown.1
              subst hf
              obtain ⟨b, hb, hrb⟩ := hall.get hget
              have hrb0 : RTy (.sl τ) (nx lv) e b := hrb
              obtain ⟨f2, c2, l2, rfl, hf2, hall2⟩ := hrb
              have hf2' : f2 = .own := hf2.own hown.2
              subst hf2'
              have hlen : s.E.length = st.E.n := by rw [hs.E.length, toL_len]
              have hr0lt : r0 < s.E.length := by
                rcases Nat.lt_or_ge r0 s.E.length with h9 | h9
                · exact h9
                · exfalso
                  rw [List.getD_eq_getElem?_getD, List.getElem?_eq_none h9] at hv
                  cases hv
              have hjl : j.toNat < l'.length := (List.getElem?_eq_some_iff.1 hb).1
              have hdl : (V.sl .own c2 l2).dull = .sl .dull c2 (reflagL flDull l2) := rfl
              let y : V := .sl .own c (l'.set j.toNat (V.dull (.sl .own c2 l2)))
              have hyp : y.ptrs = [] := by simp [y, V.ptrs]
              refine ⟨_, { s with E := (s.E.set r0 y).set d (.sl .own c2 l2) }, _, hk, ?_, ⟨?_, hs.M⟩, ?_, ?_⟩
              · unfold apTake
                rw [hop]
                simp only
                rw [hd]
                simp only
                rw [hlk']
                simp only [pathV, List.map_cons, List.map_nil]
                rw [if_neg (by simp only [not_or]; exact ⟨hrd.1, by omega⟩), hv]
                simp only [takF, hb]
                simp [y]
              · show RVL ((st.E.set r0 (.any [])).set d _).toL _
                rw [toL_set, toL_set]
                refine (hs.E.set r0 ?_).set d ?_
                · simp only [RV]
                  exact ⟨by rw [hyp]; simp, by simp [y, isLp]⟩
                · simp only [RV]; exact hrb0
              · refine ⟨fun t ht => by simp [Mask.mem_ins, ht], fun q hq => hq, fun t ht => .inl ?_, fun t ht rs hE' => ?_, fun q hq => .inl rfl, fun q hq h => h, rfl, by simp⟩
                · simp only [Mask.mem_ins, not_or] at ht
                  simp only
                  rw [List.getElem?_set_ne (Ne.symm ht.2.1), List.getElem?_set_ne (Ne.symm ht.1)]
                · simp only [Mask.mem_ins, not_or] at ht
                  simp only [toL_set] at hE'
                  rw [List.getElem?_set_ne (Ne.symm ht.2.1), List.getElem?_set_ne (Ne.symm ht.1)] at hE'
                  exact ⟨rs, hE'⟩
              · refine ⟨c, l', V.dull (.sl .own c2 l2), ?_, hall, rfl, by simp [hdl, V.oks, V.cells, V.one], fun cs => by rw [hdl]; rfl, h0, hjl, hown.1⟩
                simp only
                rw [List.getElem?_set_ne (Ne.symm hrd.1), List.getElem?_set_self hr0lt]
            · cases h
          · cases h
      · cases h
    · cases h
  · cases h
theorem execLT_ok (hT : TOk P H lib T) (hO : OOk P H lib O) {ops : Array Oper} {R : Type} {k : TSt → List (Nat × Foot) → Option R} {r : R} : ∀ (is : List Nat) (st : TSt) (s : St) (hole : Option Hole) (acc : List (Nat × Foot)), Rst st s → HolesOk hole s → execLT P H J T O ctx f ops is st hole acc R k = some r →
    ∃ st' s' fps fpv, k st' fps = some r ∧ Ev (fun C => execL P H C f ops is s = some (s', fpv)) P H lib ∧ Rst st' s' ∧ Fr2 st st' s s' ∧ (∀ e ∈ acc, e ∈ fps) ∧ (∀ e ∈ fpv, Cov fps e)
  | [], st, s, hole, acc, hs, hh, h => ⟨st, s, acc, [], h, .of fun C => rfl, hs, Fr2.refl _ _, fun e he => he, by simp⟩
  | i :: is, st, s, hole, acc, hs, hh, h => by
    simp only [execLT] at h
    split at h
    · cases h
    · rename_i o ho
      split at h
      · rename_i hls
        obtain ⟨st2, s2, hk, hst, hR, hF⟩ := lsT_ok hs hh h
        obtain ⟨st3, s3, fps, fpv, hk3, hev3, hR3, hF3, hacc, hcov⟩ := execLT_ok hT hO is st2 s2 none _ hR holes_none hk
        refine ⟨st3, s3, fps, (i, ⟨.all, [], looksAt ops o⟩) :: fpv, hk3, hev3.imp fun C hC => ?_, hR3, hF.trans hF3, fun e he => hacc e (by simp [he]), fun e he => ?_⟩
        · simp only [execL, oneL, ho, hls, if_true, hst, Option.map_some, hC]
        · rcases List.mem_cons.1 he with rfl | he
          · exact ⟨_, hacc _ (List.mem_cons_self ..), rfl, rfl, rfl, fun t ht => ht⟩
          · exact hcov e he
      · rename_i hls
        have fin : ∀ (st : TSt) (s0 : St) (hole : Option Hole), Rst st s0 → HolesOk hole s0 →
            (gateT ops o st R
              (fun st => stepFpT P H J T O ctx f o st R fun st' fp => execLT P H J T O ctx f ops is st' (keepH o hole) ((i, ⟨fp, tookAtT H f o st.E, looksAt ops o⟩) :: acc) R k)
              (fun st => execLT P H J T O ctx f ops is (st.put o.dst (.val undef)) (keepH o hole) ((i, ⟨.none, [], looksAt ops o⟩) :: acc) R k)) = some r →
            ∃ st' s' fps fpv, k st' fps = some r ∧ Ev (fun C => ∃ s1 ft rest, oneR P H C f ops i s0 = some (s1, ft) ∧ execL P H C f ops is s1 = some (s', rest) ∧ fpv = (i, ft) :: rest) P H lib ∧ Rst st' s' ∧ Fr2 st st' s0 s' ∧ (∀ e ∈ acc, e ∈ fps) ∧ (∀ e ∈ fpv, Cov fps e) := by
          intro st s0 hole hs hh h
          obtain ⟨st1, b, hw, hs1, hf1, hb⟩ := gate_ok hs h
          cases b with
          | true =>
            simp only [if_true] at hb
            obtain ⟨st2, fp, s2, hk, hev, hR, hF, hkeep⟩ := stepFpT_ok hT hO hs1 hb
            obtain ⟨st3, s3, fps, fpv, hk3, hev3, hR3, hF3, hacc, hcov⟩ := execLT_ok hT hO is st2 s2 _ _ hR (keepH_ok hh hkeep) hk
            refine ⟨st3, s3, fps, (i, ⟨fp, tookAt H f o s0.E, looksAt ops o⟩) :: fpv, hk3, (hev.and hev3).imp fun C hC => ⟨s2, _, fpv, ?_, hC.2, rfl⟩, hR3, (hf1.trans hF).trans hF3, fun e he => hacc e (by simp [he]), fun e he => ?_⟩
            · simp only [oneR, ho, hw, hC.1, Option.map_some]
            · rcases List.mem_cons.1 he with rfl | he
              · exact ⟨_, hacc _ (List.mem_cons_self ..), rfl, rfl, rfl, fun t ht => took_ok hs1.E t ht⟩
              · exact hcov e he
          | false =>
            simp only [Bool.false_eq_true, if_false] at hb
            obtain ⟨hR, hF⟩ := put_ok hs1 o.dst (v := .val undef) (u := .val undef) (by simp [RV])
            obtain ⟨st3, s3, fps, fpv, hk3, hev3, hR3, hF3, hacc, hcov⟩ := execLT_ok hT hO is _ _ _ _ hR (keepH_put hh _) hb
            refine ⟨st3, s3, fps, (i, ⟨.none, [], looksAt ops o⟩) :: fpv, hk3, hev3.imp fun C hC => ⟨_, _, fpv, ?_, hC, rfl⟩, hR3, (hf1.trans hF).trans hF3, fun e he => hacc e (by simp [he]), fun e he => ?_⟩
            · simp only [oneR, ho, hw]
            · rcases List.mem_cons.1 he with rfl | he
              · exact ⟨_, hacc _ (List.mem_cons_self ..), rfl, rfl, rfl, fun t ht => by cases ht⟩
              · exact hcov e he
        split at h
        · rename_i hap
          split at h
          · cases h
          rename_i hilk
          obtain ⟨st1, s1, hl, hk, hta, hR, hF, hhl⟩ := apT_ok hs h
          obtain ⟨st3, s3, fps, fpv, hk3, hev3, hR3, hF3, hacc, hcov⟩ := fin st1 s1 (some hl) hR (fun x hx => by cases hx; exact hhl) hk
          refine ⟨st3, s3, fps, fpv, hk3, hev3.imp fun C ⟨s2, ft, rest, h1, h2, h3⟩ => ?_, hR3, hF.trans hF3, hacc, hcov⟩
          simp only [execL, oneL, ho, hls, hap, hilk, hta, if_true, Bool.false_eq_true, if_false, Option.bind_some, h1, h2, h3, Option.map_some]
        · rename_i hap
          split at h
          · rename_i hgt
            have hg := lkGate_ok hs.E hgt
            obtain ⟨st3, s3, fps, fpv, hk3, hev3, hR3, hF3, hacc, hcov⟩ := fin st s hole hs hh h
            refine ⟨st3, s3, fps, fpv, hk3, hev3.imp fun C ⟨s2, ft, rest, h1, h2, h3⟩ => ?_, hR3, hF3, hacc, hcov⟩
            simp only [execL, oneL, ho, hls, hap, hg, if_true, Bool.false_eq_true, if_false, h1, h2, h3, Option.map_some]
          · cases h
theorem meets_mono {l l' m : List Tmp} (h : ∀ t ∈ l, t ∈ l') (hm : meets l m = true) : meets l' m = true := by
  unfold meets at hm ⊢
  rw [List.any_eq_true] at hm ⊢
  obtain ⟨t, ht, h2⟩ := hm
  exact ⟨t, h t ht, h2⟩
theorem noConf_ok {U : List (Nat × Nat)} {fps fpv : List (Nat × Foot)} (hc : ∀ e ∈ fpv, Cov fps e) (h : noConf U fps = true) : noConf U fpv = true := by
  unfold noConf at h ⊢
  rw [List.all_eq_true] at h ⊢
  rintro ⟨i, j⟩ hu
  have h1 := h (i, j) hu
  simp only [List.all_eq_true] at h1 ⊢
  rintro ⟨a, p⟩ ha
  obtain ⟨⟨a', p'⟩, hp', hpa, hpf, hpl, hpt⟩ := hc (a, p) ha
  simp only at hpa hpf hpl hpt
  subst hpa
  have h2 := h1 (a', p') hp'
  simp only [Bool.or_eq_true, List.all_eq_true] at h2 ⊢
  rcases h2 with h2 | h2
  · exact .inl h2
  · right
    rintro ⟨b, q⟩ hb
    obtain ⟨⟨b', q'⟩, hq', hqa, hqf, hql, hqt⟩ := hc (b, q) hb
    simp only at hqa hqf hql hqt
    subst hqa
    have h3 := h2 (b', q') hq'
    simp only [Bool.not_eq_true'] at h3 ⊢
    rcases h3 with h3 | h3
    · exact .inl h3
    · right
      cases hcl : Foot.clash p q with
      | false => rfl
      | true =>
        have : Foot.clash p' q' = true := by
          unfold Foot.clash at hcl ⊢
          simp only [Bool.or_eq_true] at hcl ⊢
          rw [← hpf, ← hqf, ← hpl, ← hql] at hcl
          rcases hcl with (h4 | h4) | h4
          · exact .inl (.inl h4)
          · exact .inl (.inr (meets_mono hpt h4))
          · exact .inr (meets_mono hqt h4)
        rw [this] at h3; cases h3
theorem loopO_some {σ ρ : Type} {g : σ → Option (σ ⊕ ρ)} {s : σ} {r : ρ} (h : loopO g s = some r) : ∃ n, loopN g n s = some r := by
  unfold loopO at h
  split at h
  · rename_i hex
    cases h
    exact ⟨_, Classical.choose_spec (Classical.choose_spec hex)⟩
  · cases h
theorem loop_ok {j : Join} {bid : Nat} {c : Code} (ih : Snd (tx P H J T O ctx f bid c) (ExEv P H lib f bid c)) {st : TSt} {s0 : St} (hst : Rst st s0) {R : Type} {k : Ex → TSt → Option R} {r : R} :
    ∀ (n : Nat) (x : denL (j.ps.map (·.1))) (s : St), Rst (st.fresh.rebuild j (ofL j.ps x)) s → Fr2 st.fresh (st.fresh.rebuild j (ofL j.ps x)) s0 s →
      loopN (fun x => match (st.fresh.rebuild j (ofL j.ps x)).clear (H.clear f bid) with
            | some st1 => tx P H J T O ctx f bid c st1 (denL (j.ps.map (·.1)) ⊕ R) fun e st2 => match e with
              | .normal => (st2.outs st j).map .inl
              | e => (k e (st2.merge st)).map .inr
            | none => none) n x = some r →
      ∃ e st' s', ExEv P H lib f bid (.loop c) s e s' ∧ Rst st' s' ∧ Fr2 st st' s0 s' ∧ k e st' = some r
  | 0, x, s, hs, hf, h => by simp [loopN] at h
  | n + 1, x, s, hs, hf, h => by
    simp only [loopN] at h
    cases hcl : (st.fresh.rebuild j (ofL j.ps x)).clear (H.clear f bid) with
    | none => rw [hcl] at h; simp at h
    | some st1 =>
      rw [hcl] at h
      simp only at h
      obtain ⟨s1, hv1, hs1, hf1⟩ := clear_ok hs hcl
      have done : ∀ (e : Ex) (st2 : TSt) (s2 : St), e ≠ .normal → ExEv P H lib f bid c s1 e s2 → Rst st2 s2 → Fr2 st1 st2 s1 s2 → k e (st2.merge st) = some r →
          ∃ e st' s', ExEv P H lib f bid (.loop c) s e s' ∧ Rst st' s' ∧ Fr2 st st' s0 s' ∧ k e st' = some r := by
        intro e st2 s2 hne hev hR hF hk
        refine ⟨e, st2.merge st, s2, hev.imp fun C hC => ?_, hR.merge, merge_fr ((hf.trans hf1).trans hF), hk⟩
        simp only [ex, hv1, hC]
        cases e with
        | normal => exact absurd rfl hne
        | _ => rfl
      split at h
      · rename_i x' hx'
        obtain ⟨e, st2, s2, hev, hR, hF, hk⟩ := ih st1 _ _ _ s1 hx' hs1
        cases e with
        | normal =>
          obtain ⟨y, hy, hy2⟩ := Option.map_eq_some_iff.1 hk
          cases hy2
          have hF0 : Fr2 st.fresh st2 s0 s2 := (hf.trans hf1).trans hF
          have hy' : st2.outs st.fresh j = some x' := hy
          obtain ⟨e', st', s', hev', hR', hF', hk'⟩ := loop_ok ih hst n x' s2 (rebuild_ok hst.fresh hR hF0 hy') (rebuild_fr (st := st.fresh) hR hF0 hy') h
          refine ⟨e', st', s', ?_, hR', hF', hk'⟩
          obtain ⟨n1, h1⟩ := hev
          obtain ⟨n2, h2⟩ := hev'
          refine ⟨max n1 (n2 + 1), fun m hm => ?_⟩
          have e1 := h1 m (by omega)
          obtain ⟨m', rfl⟩ : ∃ m', m = m' + 1 := ⟨m - 1, by omega⟩
          have e2 := h2 m' (by omega)
          have hun : ex P H (orcN P H lib (m' + 1)) f bid (.loop c) s = (match s.clear (H.clear f bid) with
            | some st => match ex P H (orcN P H lib (m' + 1)) f bid c st with
              | some (.normal, s) => (orcN P H lib (m' + 1)).code f bid (.loop c) s
              | r => r
            | none => none) := by simp only [ex] <;> rfl
          show ex P H (orcN P H lib (m' + 1)) f bid (.loop c) s = _
          rw [hun, hv1]
          simp only [e1]
          exact e2
        | exit id =>
          obtain ⟨y, hy, hy2⟩ := Option.map_eq_some_iff.1 hk
          cases hy2
        | ret =>
          obtain ⟨y, hy, hy2⟩ := Option.map_eq_some_iff.1 hk
          cases hy2
      · rename_i y hx'
        cases h
        obtain ⟨e, st2, s2, hev, hR, hF, hk⟩ := ih st1 _ _ _ s1 hx' hs1
        cases e with
        | normal =>
          obtain ⟨y, hy, hy2⟩ := Option.map_eq_some_iff.1 hk
          cases hy2
        | exit id =>
          obtain ⟨y', hy, hy2⟩ := Option.map_eq_some_iff.1 hk
          cases hy2
          exact done _ _ _ (by simp) hev hR hF hy
        | ret =>
          obtain ⟨y', hy, hy2⟩ := Option.map_eq_some_iff.1 hk
          cases hy2
          exact done _ _ _ (by simp) hev hR hF hy
      · cases h
theorem start_ok {j : Join} {st : TSt} {s : St} (hs : Rst st s) (hf : st.forgets j = true) {x : denL (j.ps.map (·.1))} (hx : asL j.ps (j.lv.map st.get) = some x) :
    Rst (st.fresh.rebuild j (ofL j.ps x)) s ∧ Fr2 st.fresh (st.fresh.rebuild j (ofL j.ps x)) s s := by
  have ho : st.fresh.outs st.fresh j = some x := by
    unfold TSt.outs
    have h1 : st.fresh.forgets j = true := hf
    have h2 : st.fresh.wrote j = true := by
      have : Mask.empty.sub j.D = true := Mask.sub_of fun t ht => absurd ht Mask.mem_empty
      simp [TSt.wrote, TSt.fresh, this]
    have h3 : st.fresh.like st.fresh j = true := by
      unfold TSt.like
      rw [List.all_eq_true]
      intro r _
      cases st.fresh.box r <;> simp
    rw [h1, h2, h3]
    exact hx
  exact ⟨rebuild_ok hs.fresh hs.fresh (Fr2.refl _ _) ho, rebuild_fr (st := st.fresh) hs.fresh (Fr2.refl _ _) ho⟩
theorem tx_ok (hT : TOk P H lib T) (hO : OOk P H lib O) : ∀ (c : Code) (bid : Nat), Snd (tx P H J T O ctx f bid c) (ExEv P H lib f bid c)
  | .skip, bid => fun st R k r s h hs => ⟨.normal, st, s, .of fun C => rfl, hs, Fr2.refl _ _, h⟩
  | .ret, bid => fun st R k r s h hs => ⟨.ret, st, s, .of fun C => rfl, hs, Fr2.refl _ _, h⟩
  | .exit id, bid => fun st R k r s h hs => ⟨.exit id, st, s, .of fun C => rfl, hs, Fr2.refl _ _, h⟩
  | .seq a b, bid => fun st R k r s h hs => by
    simp only [tx] at h
    obtain ⟨e, st1, s1, hev, hR, hF, hk⟩ := tx_ok hT hO a bid st _ _ r s h hs
    cases e with
    | normal =>
      obtain ⟨e2, st2, s2, hev2, hR2, hF2, hk2⟩ := tx_ok hT hO b bid st1 _ _ r s1 hk hR
      exact ⟨e2, st2, s2, (hev.and hev2).imp fun C hC => by simp only [ex, hC.1, hC.2], hR2, hF.trans hF2, hk2⟩
    | exit id => exact ⟨.exit id, st1, s1, hev.imp fun C hC => by simp only [ex, hC], hR, hF, hk⟩
    | ret => exact ⟨.ret, st1, s1, hev.imp fun C hC => by simp only [ex, hC], hR, hF, hk⟩
  | .cond c a b, bid => fun st R k r s h hs => by
    simp only [tx] at h
    refine joinT_ok (rel := ExEv P H lib f bid (.cond c a b)) ?_ _ st R k r s h hs
    intro st R k r s h hs
    have hr := rd_ok (H := H) (f := f) (o := default) hs.E c
    simp only at h
    split at h
    · rename_i o t ht
      rw [ht] at hr
      simp only [RV, RTy] at hr
      cases t with
      | true =>
        obtain ⟨e2, st2, s2, hev2, hR2, hF2, hk2⟩ := tx_ok hT hO a bid st _ _ r s h hs
        exact ⟨e2, st2, s2, hev2.imp fun C hC => by simp only [ex, hr, if_true, hC], hR2, hF2, hk2⟩
      | false =>
        obtain ⟨e2, st2, s2, hev2, hR2, hF2, hk2⟩ := tx_ok hT hO b bid st _ _ r s h hs
        exact ⟨e2, st2, s2, hev2.imp fun C hC => by simp only [ex, hr, Bool.false_eq_true, if_false, hC], hR2, hF2, hk2⟩
    · cases h
  | .block id c, bid => fun st R k r s h hs => by
    simp only [tx] at h
    refine joinT_ok (rel := ExEv P H lib f bid (.block id c)) ?_ _ st R k r s h hs
    intro st R k r s h hs
    obtain ⟨e, st1, s1, hev, hR, hF, hk⟩ := tx_ok hT hO c id st _ _ r s h hs
    cases e with
    | exit i =>
      simp only at hk
      split at hk
      · rename_i hi
        exact ⟨.normal, st1, s1, hev.imp fun C hC => by simp only [ex, hC, hi, if_true], hR, hF, hk⟩
      · rename_i hi
        exact ⟨.exit i, st1, s1, hev.imp fun C hC => by simp only [ex, hC, hi, if_false], hR, hF, hk⟩
    | normal => exact ⟨.normal, st1, s1, hev.imp fun C hC => by simp only [ex, hC], hR, hF, hk⟩
    | ret => exact ⟨.ret, st1, s1, hev.imp fun C hC => by simp only [ex, hC], hR, hF, hk⟩
  | .region id ops draw, bid => fun st R k r s h hs => by
    simp only [tx] at h
    refine joinT_ok (rel := ExEv P H lib f bid (.region id ops draw)) ?_ _ st R k r s h hs
    intro st R k r s h hs
    simp only [regionOkM_eq, linkOkM_eq] at h
    cases hls : hasLs H f ops with
    | true =>
      rw [hls] at h
      simp only [if_true] at h
      split at h
      · rename_i hok
        obtain ⟨st1, s1, fps, fpv, hk, hev, hR, hF, _, hcov⟩ := execLT_ok hT hO _ st s none [] hs holes_none h
        split at hk
        · rename_i hnc
          refine ⟨.normal, st1, s1, hev.imp fun C hC => ?_, hR, hF, hk⟩
          have hnc' : (!draw || noConf (H.pairs f id) fpv) = true := by
            simp only [Bool.or_eq_true] at hnc ⊢
            exact hnc.imp (fun h => h) fun h => noConf_ok hcov h
          simp only [ex, hls, if_true, hok, hC, hnc']
        · cases hk
      · cases h
    | false =>
    rw [hls] at h
    simp only [Bool.false_eq_true, if_false] at h
    split at h
    · rename_i hd
      split at h
      · rename_i hok
        split at h
        · rename_i hU
          obtain ⟨st1, s1, hk, hev, hR, hF⟩ := execT_ok hT hO _ st s hs h
          rw [hU] at hok
          exact ⟨.normal, st1, s1, hev.imp fun C hC => by simp only [ex, hls, Bool.false_eq_true, if_false, hd, if_true, hU, hok, hC, Option.map_some], hR, hF, hk⟩
        · rename_i U hU
          obtain ⟨st1, s1, fps, fpv, hk, hev, hR, hF, _, hcov⟩ := execRT_ok hT hO _ st s [] hs h
          split at hk
          · rename_i hnc
            have hnc' := noConf_ok hcov hnc
            refine ⟨.normal, st1, s1, hev.imp fun C hC => ?_, hR, hF, hk⟩
            simp only [ex, hls, Bool.false_eq_true, if_false, hd, if_true, hok]
            cases hp : H.pairs f id with
            | nil => exact absurd hp (by simpa using hU)
            | cons u U' =>
              rw [hp] at hnc'
              simp only [hC, hnc', if_true]
          · cases hk
      · cases h
    · rename_i hd
      obtain ⟨st1, s1, hk, hev, hR, hF⟩ := execT_ok hT hO _ st s hs h
      exact ⟨.normal, st1, s1, hev.imp fun C hC => by simp only [ex, hls, Bool.false_eq_true, if_false]; rw [if_neg hd, hC]; rfl, hR, hF, hk⟩
  | .loop c, bid => fun st R k r s h hs => by
    simp only [tx] at h
    split at h
    · rename_i j hj
      split at h
      · rename_i hf
        obtain ⟨x0, hx0, h⟩ := Option.bind_eq_some_iff.1 h
        obtain ⟨n, hn⟩ := loopO_some h
        obtain ⟨h1, h2⟩ := start_ok hs hf hx0
        exact loop_ok (tx_ok hT hO c bid) hs n x0 s h1 h2 hn
      · cases h
    · split at h
      · rename_i st1 hcl
        obtain ⟨s1, hv1, hs1, hf1⟩ := clear_ok hs hcl
        obtain ⟨e, st2, s2, hev, hR, hF, hk⟩ := tx_ok hT hO c bid st1 _ _ r s1 h hs1
        cases e with
        | normal =>
          obtain ⟨e3, st3, s3, hev3, hR3, hF3, hk3⟩ := hO.code ctx f bid (.loop c) st2 _ _ r s2 hk hR
          exact ⟨e3, st3, s3, (hev.and hev3).imp fun C hC => by simp only [ex, hv1, hC.1, hC.2], hR3, (hf1.trans hF).trans hF3, hk3⟩
        | exit id => exact ⟨.exit id, st2, s2, hev.imp fun C hC => by simp only [ex, hv1, hC], hR, hf1.trans hF, hk⟩
        | ret => exact ⟨.ret, st2, s2, hev.imp fun C hC => by simp only [ex, hv1, hC], hR, hf1.trans hF, hk⟩
      · cases h
  | .rangeFunc .., bid => fun st R k r s h hs => by simp [tx] at h
  | .scope _, bid => fun st R k r s h hs => by simp [tx] at h
  | .label _, bid => fun st R k r s h hs => by simp [tx] at h
  | .goto _, bid => fun st R k r s h hs => by simp [tx] at h
  | .refuse _, bid => fun st R k r s h hs => by simp [tx] at h
end Go.Tx
end
section
set_option linter.unusedVariables false
namespace Go.Tx
open Go Go.Ab
variable {P : Program} {H : Hints} {J : TH} {T : CallT} {O : TOrc} {lib : FuncId → Option (List V → Option V)} {f : FuncId} {ctx : List Tmp}
theorem allSomeT_ok {st : TSt} {s : St} (hs : Rst st s) : ∀ (l : List ResultVar) (rs : List TV), allSomeT (l.map (resultT P st)) = some rs → ∃ rs', allSome (l.map (resultOf P s)) = some rs' ∧ RVL rs rs'
  | [], rs, h => by simp only [List.map_nil, allSomeT, Option.some.injEq] at h; subst h; exact ⟨[], rfl, rvl_nil⟩
  | v :: l, rs, h => by
    simp only [List.map_cons] at h
    cases h1 : resultT P st v with
    | none => rw [h1] at h; simp [allSomeT] at h
    | some x =>
      rw [h1] at h
      simp only [allSomeT] at h
      obtain ⟨rs0, h2, rfl⟩ := Option.map_eq_some_iff.1 h
      obtain ⟨rs', h3, hr⟩ := allSomeT_ok hs l rs0 h2
      have : ∃ u, resultOf P s v = some u ∧ RV x u := by
        cases v with
        | tmp t =>
          simp only [resultT, Option.some.injEq] at h1
          subst h1
          exact ⟨_, rfl, getE hs.E t⟩
        | cell a t =>
          simp only [resultT] at h1
          split at h1
          · rename_i r off hE
            have hg := getE hs.E a
            rw [hE] at hg
            simp only [RV] at hg
            split at h1
            · rename_i cs hcs
              obtain ⟨cs', hcs', hc⟩ := hs.box hcs
              obtain ⟨u, hu, hr⟩ := ofCellsT_ok h1 (hc.drop off)
              refine ⟨u, ?_, hr⟩
              simp only [resultOf, hg, hcs', rvl_notLp hc, Bool.false_eq_true, if_false, hu]
            · cases h1
          · cases h1
      obtain ⟨u, hu, hru⟩ := this
      refine ⟨u :: rs', ?_, rvl_cons.2 ⟨hru, hr⟩⟩
      simp only [List.map_cons, hu, allSome, h3, Option.map_some]
theorem allKeys_ok {st : TSt} {s : St} (hs : Rst st s) : ∀ (l : List ResultVar) (ks : List (Bool × Nat × Nat)), allKeys (l.map (resultKeyT st)) = some ks → l.map (resultKey s) = ks
  | [], ks, h => by simp only [List.map_nil, allKeys, Option.some.injEq] at h; subst h; rfl
  | v :: l, ks, h => by
    simp only [List.map_cons] at h
    cases h1 : resultKeyT st v with
    | none => rw [h1] at h; simp [allKeys] at h
    | some x =>
      rw [h1] at h
      simp only [allKeys] at h
      obtain ⟨ks0, h2, rfl⟩ := Option.map_eq_some_iff.1 h
      have : resultKey s v = x := by
        cases v with
        | tmp t => simp only [resultKeyT, Option.some.injEq] at h1; subst h1; rfl
        | cell a t =>
          simp only [resultKeyT] at h1
          split at h1
          · rename_i r off hE
            have hg := getE hs.E a
            rw [hE] at hg
            simp only [RV] at hg
            cases h1
            simp only [resultKey, hg]
          · cases h1
      simp only [List.map_cons, this, allKeys_ok hs l ks0 h2]
theorem rv_packed : ∀ {rs : List TV} {rs' : List V}, RVL rs rs' → RV (packedT rs) (packed rs')
  | [], rs', h => by simp only [RVL] at h; subst h; simp [packedT, packed, RV, RVL]
  | [x], rs', h => by obtain ⟨v, rfl, hv⟩ := rvl_one h; exact hv
  | x :: y :: rs, rs', h => by
    have h0 := h
    simp only [RVL] at h
    obtain ⟨v, m, rfl, _, v2, m2, rfl, _, _⟩ := h
    simp only [packedT, packed, RV]
    exact ⟨_, rfl, h0⟩
theorem LR.init {M : List TLevel} {M' : List Level} (h : LR M M') : LR (M ++ [[]]) (M' ++ [[]]) where
  len := by simp [h.len]
  rel := fun l s => by
    have key := h.rel l s
    unfold lookM lookV at key ⊢
    have hl := h.len
    by_cases e : l < M.length
    · rw [List.getElem?_append_left e, List.getElem?_append_left (by omega)]; exact key
    · rw [List.getElem?_append_right (by omega), List.getElem?_append_right (by omega), hl]
      cases l - M.length with
      | zero => simp [lookT, lookB, RB]
      | succ n => simp [RB]
  nd := fun b hb => by
    simp only [List.mem_append, List.mem_singleton] at hb
    rcases hb with hb | rfl
    · exact h.nd b hb
    · simp
theorem LR.front {M : List TLevel} {M' : List Level} {b : TLevel} {b' : Level} (h : LR (M ++ [b]) (M' ++ [b'])) : LR M M' where
  len := by have := h.len; simp at this; exact this
  rel := fun l s => by
    have hl : M'.length = M.length := by have := h.len; simp at this; exact this
    have key := h.rel l s
    unfold lookM lookV at key ⊢
    by_cases e : l < M.length
    · rw [List.getElem?_append_left e, List.getElem?_append_left (by omega)] at key; exact key
    · rw [List.getElem?_eq_none (by omega), List.getElem?_eq_none (by omega)]; rfl
  nd := fun c hc => h.nd c (by simp [hc])
theorem runT_ok (hT : TOk P H lib T) (hO : OOk P H lib O) {args : List TV} {M : List TLevel} {R : Type} {k : TV → List TLevel → List Root → Option R} {r : R} {vs : List V} {M' : List Level}
    (h : runT P H J T O ctx f args M R k = some r) (ha : RVL args vs) (hM : LR M M') :
    ∃ x N wb v N', k x N wb = some r ∧ RV x v ∧ LR N N' ∧ N.length = M.length ∧ (∀ l sl, (⟨l, sl⟩ : Root) ∉ wb → lookV N' l sl = lookV M' l sl ∧ ∀ c, lookM M l sl = some (some c) → ∃ c', lookM N l sl = some (some c')) ∧ J.lib f = false ∧ Ev (fun C => runF P H C f vs M' = some (v, N')) P H lib := by
  unfold runT at h
  split at h
  · cases h
  · rename_i hlib
    split at h
    · rename_i fn hfn
      split at h
      · rename_i c hbody
        have hE : RVL (Env.ofArgs args fn.ntmps).toL (vs ++ List.replicate (fn.ntmps - vs.length) .undef) := by
          rw [toL_ofArgs, ha.length]; exact ha.append (RVL.replicate (rv_undef []) _)
        have h0 : Rst { E := Env.ofArgs args fn.ntmps, L := M, B := [], Wt := .empty, Wb := [] } { E := vs ++ List.replicate (fn.ntmps - vs.length) .undef, L := M', B := [] } := ⟨hE, hM.init⟩
        have hsnd : Snd (fun st R k => tx P H J T O ctx f 0 c st R fun e st => match e with
          | .normal => k .normal st
          | .ret => k .normal st
          | _ => none) (fun s e s' => e = .normal ∧ Ev (fun C => ∃ e, (e = .normal ∨ e = .ret) ∧ ex P H C f 0 c s = some (e, s')) P H lib) := by
          intro st R k r s h hs
          obtain ⟨e, st1, s1, hev, hR, hF, hk⟩ := tx_ok hT hO c 0 st _ _ r s h hs
          cases e with
          | normal => exact ⟨.normal, st1, s1, ⟨rfl, hev.imp fun C hC => ⟨.normal, .inl rfl, hC⟩⟩, hR, hF, hk⟩
          | ret => exact ⟨.normal, st1, s1, ⟨rfl, hev.imp fun C hC => ⟨.ret, .inr rfl, hC⟩⟩, hR, hF, hk⟩
          | exit id => cases hk
        obtain ⟨e, st1, s1, ⟨_, hev⟩, hR, hF, hk⟩ := joinT_ok hsnd _ _ _ _ _ _ h h0
        split at hk
        · rename_i rs ks hrs hks
          split at hk
          · rename_i hc
            simp only [Bool.and_eq_true] at hc
            obtain ⟨⟨hkn, hpt⟩, hko⟩ := hc
            obtain ⟨rs', hrs', hrr⟩ := allSomeT_ok hR _ _ hrs
            have hkeys := allKeys_ok hR _ _ hks
            have hpeq := RVL.ptrs_eq _ _ hkn hrr
            have hlen := hR.len
            have hlen2 := hF.len
            have hML := hM.len
            simp only at hlen2
            refine ⟨_, _, _, packed (if M'.isEmpty && !ownsL rs' then reflagL flSettle rs' else rs'), s1.L, hk, ?_, hR.M.front, by omega, fun l sl hl => ?_, by simpa using hlib, hev.imp ?_⟩
            · split
              · exact rv_packed (RVL.keep flSettle_own rfl _ _ hrr)
              · exact rv_packed hrr
            · refine ⟨?_, fun c hc => ?_⟩
              · by_cases e : l < s1.L.length
                · rcases hF.b ⟨l, sl⟩ hl with this | ⟨h9, _⟩
                  · rw [look_box, look_box] at this
                    unfold lookV allV at this
                    simp only at this
                    unfold lookV
                    rw [List.getElem?_append_left e, List.getElem?_append_left (by omega)] at this
                    exact this
                  · simp only at h9; omega
                · unfold lookV
                  rw [List.getElem?_eq_none (by omega), List.getElem?_eq_none (by omega)]
              · have hlt : l < M.length := by
                  unfold lookM at hc
                  cases hM0 : M[l]? with
                  | none => rw [hM0] at hc; cases hc
                  | some b => exact (List.getElem?_eq_some_iff.1 hM0).1
                have hbx : (({ E := Env.ofArgs args fn.ntmps, L := M, B := [], Wt := .empty, Wb := [] } : TSt).box ⟨l, sl⟩).isSome = true := by
                  rw [tlook_box]
                  unfold lookM TSt.all
                  simp only
                  rw [List.getElem?_append_left hlt]
                  unfold lookM at hc
                  rw [hc]; rfl
                obtain ⟨c', hc'⟩ := Option.isSome_iff_exists.1 (hF.bn ⟨l, sl⟩ hl hbx)
                have h10 := box_some hc'
                refine ⟨c', ?_⟩
                unfold lookM TSt.all at h10
                simp only at h10
                rw [List.getElem?_append_left (by omega)] at h10
                exact h10
            · rintro C ⟨e, he, hC⟩
              unfold runF
              simp only [hfn, hbody, hC]
              rw [if_pos he, hrs']
              simp only
              rw [if_pos]
              simp only [hpeq, hkeys, Bool.and_eq_true]
              rw [hML]
              exact ⟨hpt, hko⟩
          · cases hk
        · cases hk
      · cases h
    · cases h
theorem torcN_ok (hT : TOk P H lib T) (hJ : ∀ g, J.lib g = false → lib g = none) : ∀ n, OOk P H lib (torcN P H J T n)
  | 0 => ⟨fun ctx g args M R k r vs M' h => by simp [torcN] at h, fun ctx f bid c st R k r s h => by simp [torcN] at h⟩
  | n + 1 => by
    have ih := torcN_ok hT hJ n
    refine ⟨fun ctx g args M R k r vs M' h ha hM => ?_, fun ctx f bid c st R k r s h hs => ?_⟩
    · simp only [torcN] at h
      obtain ⟨x, N, wb, v, N', hk, hr, hN, hlen, hfr, hl, hev⟩ := runT_ok hT ih h ha hM
      refine ⟨x, N, wb, v, N', hk, hr, hN, hlen, hfr, ?_⟩
      obtain ⟨n1, h1⟩ := hev
      refine ⟨n1 + 1, fun m hm => ?_⟩
      obtain ⟨m', rfl⟩ : ∃ m', m = m' + 1 := ⟨m - 1, by omega⟩
      have := h1 m' (by omega)
      simp only [orcN, hJ g hl]
      exact this
    · simp only [torcN] at h
      obtain ⟨e, st', s', hev, hR, hF, hk⟩ := tx_ok hT ih c bid st _ _ r s h hs
      refine ⟨e, st', s', ?_, hR, hF, hk⟩
      obtain ⟨n1, h1⟩ := hev
      refine ⟨n1 + 1, fun m hm => ?_⟩
      obtain ⟨m', rfl⟩ : ∃ m', m = m' + 1 := ⟨m - 1, by omega⟩
      exact h1 m' (by omega)
def EntryOk (P : Program) (H : Hints) (lib : FuncId → Option (List V → Option V)) (e : Entry) : Prop :=
  ∀ x y, e.F x = some y → ∀ vs, RVL (ofPms e.ps x) vs → ∃ v, CallEv P H lib e.g vs [] v [] ∧ RV (packT e.rs y) v
theorem asCells_ok {τ : Ty} {cs : List TV} {x : τ.den} {l' : List V} (h : asCells τ cs = some x) (hr : RVL cs l') : RVL (ofTy τ 1000 x).cells l' := by
  unfold asCells at h
  split at h
  · rename_i h1
    split at h
    · rename_i c
      obtain ⟨u, rfl, hu⟩ := rvl_one hr
      have h2 := rv_ofTy _ _ _ _ (asTy_ok _ _ _ _ _ h hu)
      have h3 : (ofTy τ 1000 x).cells = [ofTy τ 1000 x] := by cases τ <;> first | rfl | simp [Ty.one] at h1
      rw [h3]; exact rvl_cons.2 ⟨h2, rvl_nil⟩
    · cases h
  · rename_i h1
    have h2 := rv_ofTy _ _ _ _ (asTy_ok _ _ _ _ (.agg l') h (by simp only [RV]; exact ⟨l', rfl, hr⟩))
    cases τ with
    | unit => simp only [ofTy, TV.cells, RV] at h2 ⊢; obtain ⟨m, e, hm⟩ := h2; cases e; exact hm
    | pair a b => simp only [ofTy, TV.cells, RV] at h2 ⊢; obtain ⟨m, e, hm⟩ := h2; cases e; exact hm
    | _ => simp [Ty.one] at h1
theorem asCp_ok {c : Cp} {w : TV} {x : c.den} {v : V} (h : asCp c w = some x) (hr : RV w v) : RV (ofCp c x) v := by
  cases c with
  | v τ => exact rv_ofTy _ _ _ _ (asTy_ok _ _ _ _ _ h hr)
  | p τ =>
    cases w <;> simp only [asCp] at h <;> try (cases h; done)
    rename_i sh cs
    cases sh with
    | false => simp only [asCp] at h; cases h
    | true =>
      simp only [asCp] at h
      simp only [RV] at hr
      obtain ⟨f, l', rfl, hf, hsh, hl⟩ := hr
      simp only [ofCp, RV]
      exact ⟨f, l', rfl, hf, hsh, asCells_ok h hl⟩
theorem asTys_ok : ∀ (cs : List Cp) (l : List TV) (x : denC cs) (l' : List V), asTys cs l = some x → RVL l l' → RVL (ofTys cs x) l'
  | [], l, x, l', h, hr => by
    cases l with
    | nil => simpa [ofTys] using hr
    | cons => simp [asTys] at h
  | [c], l, x, l', h, hr => by
    match l, h, hr with
    | [v], h, hr =>
      obtain ⟨u, rfl, h1⟩ := rvl_one hr
      exact rvl_cons.2 ⟨asCp_ok h h1, rvl_nil⟩
    | [], h, hr => simp [asTys] at h
    | _ :: _ :: _, h, hr => simp [asTys] at h
  | c :: q :: ps, l, x, l', h, hr => by
    match l, h, hr with
    | [], h, hr => simp [asTys] at h
    | v :: l, h, hr =>
      simp only [asTys] at h
      obtain ⟨y, hy, h⟩ := Option.bind_eq_some_iff.1 h
      obtain ⟨z, hz, h⟩ := Option.bind_eq_some_iff.1 h
      simp only [Option.some.injEq] at h
      subst h
      simp only [RVL] at hr
      obtain ⟨u, m, rfl, h1, h2⟩ := hr
      exact rvl_cons.2 ⟨asCp_ok hy h1, asTys_ok (q :: ps) l _ _ hz h2⟩
theorem asPm_ok {p : Pm} {w : TV} {x : p.den} {v : V} (h : asPm p w = some x) (hr : RV w v) : RV (ofPm p x) v := by
  cases p with
  | ty τ => exact rv_ofTy _ _ _ _ (asTy_ok _ _ _ _ _ h hr)
  | ptr τ => exact asCp_ok (c := .p τ) h hr
  | fn g cs =>
    cases w <;> simp only [asPm] at h <;> try (cases h; done)
    rename_i g' first cap
    cases first with
    | cons y ys => simp only [asPm] at h; cases h
    | nil =>
      simp only [asPm] at h
      split at h
      · rename_i hg
        subst hg
        simp only [RV] at hr
        obtain ⟨a', b', rfl, ha, hb⟩ := hr
        simp only [RVL] at ha
        subst ha
        simp only [ofPm, RV]
        exact ⟨[], b', rfl, rvl_nil, asTys_ok _ _ _ _ h hb⟩
      · cases h
theorem asPms_ok : ∀ (ps : List Pm) (l : List TV) (x : denP ps) (l' : List V), asPms ps l = some x → RVL l l' → RVL (ofPms ps x) l'
  | [], l, x, l', h, hr => by
    cases l with
    | nil => simpa [ofPms] using hr
    | cons => simp [asPms] at h
  | [p], l, x, l', h, hr => by
    match l, h, hr with
    | [v], h, hr =>
      obtain ⟨u, rfl, h1⟩ := rvl_one hr
      exact rvl_cons.2 ⟨asPm_ok h h1, rvl_nil⟩
    | [], h, hr => simp [asPms] at h
    | _ :: _ :: _, h, hr => simp [asPms] at h
  | p :: q :: ps, l, x, l', h, hr => by
    match l, h, hr with
    | [], h, hr => simp [asPms] at h
    | v :: l, h, hr =>
      simp only [asPms] at h
      obtain ⟨y, hy, h⟩ := Option.bind_eq_some_iff.1 h
      obtain ⟨z, hz, h⟩ := Option.bind_eq_some_iff.1 h
      simp only [Option.some.injEq] at h
      subst h
      simp only [RVL] at hr
      obtain ⟨u, m, rfl, h1, h2⟩ := hr
      exact rvl_cons.2 ⟨asPm_ok hy h1, asPms_ok (q :: ps) l _ _ hz h2⟩
theorem tab_ok : ∀ {l : List Entry}, (∀ e ∈ l, EntryOk P H lib e) → TOk P H lib (tabT l)
  | [], _ => fun g args R k r vs h => by simp [tabT] at h
  | e :: l, he => fun g args R k r vs h ha => by
    have ih := tab_ok (l := l) fun e' h' => he e' (by simp [h'])
    simp only [tabT] at h
    split at h
    · rename_i hg
      subst hg
      split at h
      · rename_i x hx
        obtain ⟨y, hy, hk⟩ := Option.bind_eq_some_iff.1 h
        obtain ⟨v, hev, hr⟩ := he e (by simp) x y hy vs (asPms_ok _ _ _ _ hx ha)
        exact ⟨_, v, hk, hr, hev⟩
      · exact ih _ _ _ _ _ _ h ha
    · exact ih _ _ _ _ _ _ h ha
theorem tab_nil : TOk P H lib (tabT []) := tab_ok (by simp)
theorem tab_cons {e : Entry} {l : List Entry} (h : EntryOk P H lib e) (h' : TOk P H lib (tabT l)) : TOk P H lib (tabT (e :: l)) := fun g args R k r vs hh ha => by
  simp only [tabT] at hh
  split at hh
  · rename_i hg
    subst hg
    split at hh
    · rename_i x hx
      obtain ⟨y, hy, hk⟩ := Option.bind_eq_some_iff.1 hh
      obtain ⟨v, hev, hr⟩ := h x y hy vs (asPms_ok _ _ _ _ hx ha)
      exact ⟨_, v, hk, hr, hev⟩
    · exact h' _ _ _ _ _ _ hh ha
  · exact h' _ _ _ _ _ _ hh ha
theorem asRes_ok {rs : List (Ty × Nat)} {x : TV} {y : denL (rs.map (·.1))} {v : V} (h : asRes rs x = some y) (hr : RV x v) : RV (packT rs y) v := by
  match rs, y, h with
  | [p], y, h =>
    simp only [asRes] at h
    have := asL_ok [p] [x] y [v] h (rvl_cons.2 ⟨hr, rvl_nil⟩)
    simp only [packT]
    obtain ⟨τ, o⟩ := p
    simp only [ofL] at this ⊢
    exact (rvl_cons.1 this).1
  | [], y, h =>
    cases x <;> simp only [asRes] at h <;> try (cases h; done)
    rename_i l _
    simp only [RV] at hr
    obtain ⟨l', rfl, hl⟩ := hr
    have := asL_ok [] l y l' h hl
    simp only [packT, ofL, packedT, RV]
    exact ⟨l', rfl, this⟩
  | p :: q :: rs, y, h =>
    cases x <;> simp only [asRes] at h <;> try (cases h; done)
    rename_i l _
    simp only [RV] at hr
    obtain ⟨l', rfl, hl⟩ := hr
    have := asL_ok (p :: q :: rs) l y l' h hl
    have hpk : ∀ m : List TV, 2 ≤ m.length → packedT m = .tuple m := fun m hm => by
      match m, hm with
      | _ :: _ :: _, _ => rfl
    simp only [packT]
    rw [hpk _ (by rw [asL_length _ _ _ h]; have := asL_length _ _ _ h; obtain ⟨τ, o⟩ := p; cases rs <;> simp [ofL] at this <;> omega)]
    simp only [RV]
    exact ⟨l', rfl, this⟩
theorem entry_ok (hT : TOk P H lib T) (hJ : ∀ g, J.lib g = false → lib g = none) (n : Nat) (g : FuncId) (ps : List Pm) (rs : List (Ty × Nat)) (F : denP ps → Option (denL (rs.map (·.1))))
    (h : ∀ x, fnT P H J T n g (ofPms ps x) rs = F x) : EntryOk P H lib ⟨g, ps, rs, F⟩ := by
  intro x y hy vs hvs
  simp only at hy hvs
  rw [← h x] at hy
  unfold fnT at hy
  obtain ⟨w, N, wb, v, N', hk, hr, hN, hlen, _, hev⟩ := (torcN_ok hT hJ n).call _ _ _ _ _ _ _ _ [] hy hvs ⟨rfl, fun l s => by simp [lookM, lookV, RB], by simp⟩
  have hN0 : N = [] := List.eq_nil_of_length_eq_zero (by rw [hlen]; rfl)
  subst hN0
  have hN0' : N' = [] := List.eq_nil_of_length_eq_zero (by rw [hN.len]; rfl)
  subst hN0'
  exact ⟨v, hev, asRes_ok hk hr⟩
theorem entry_call (hm : P.follows .mixedOrders = true) (hname : ∀ (g : FuncId) (fn : Func), P.funcs[g]? = some fn → fn.body.isSome = true → (fn.name == "runtime.NumGoroutine") = false)
    (hlib : ∀ g h args r, lib g = some h → h args = some r → CallOk P g args [] r []) {e : Entry} (he : EntryOk P H lib e) {x : denP e.ps} {y : denL (e.rs.map (·.1))} (h : e.F x = some y) {vs : List V} (hv : RVL (ofPms e.ps x) vs) :
    ∃ v, CallOk P e.g vs [] v [] ∧ RV (packT e.rs y) v := by
  obtain ⟨v, ⟨n, hev⟩, hr⟩ := he x y h vs hv
  exact ⟨v, (orcN_ok hm hname hlib n).call _ _ _ _ _ (hev n (Nat.le_refl _)), hr⟩
end Go.Tx
end
section
set_option linter.unusedVariables false
namespace Go.Tx
open Go Go.Ab Go.RowKit Go.ChangeShapes Go.WideShapes Go.Deep
def Rng (N : Nat) : (τ : Ty) → τ.den → Prop
  | .int k, n => k.min ≤ n ∧ n ≤ k.max
  | .bool, _ => True
  | .str, s => s.length ≤ N
  | .sl t, l => l.length ≤ N ∧ ∀ e ∈ l, Rng N t e
  | .unit, _ => True
  | .pair a b, x => Rng N a x.1 ∧ Rng N b x.2
def RngP (N : Nat) : (τs : List Ty) → denP (τs.map .ty) → Prop
  | [], _ => True
  | [τ], x => Rng N τ x
  | τ :: q :: l, x => Rng N τ x.1 ∧ RngP N (q :: l) x.2
def cx0 (w : World) : Cx := { β := fun _ => none, ω := fun b => match w.heap[b]? with
  | some (.cells c _ _) => some (c.size, true)
  | _ => none }
structure Sm {H : Type} (N : Nat) (S : DataW H → Prop) : Prop where
  slice : ∀ es sp, S (.slice es sp) → es.length ≤ maxLen → es.length ≤ N ∧ ∀ e ∈ es, S e
  agg : ∀ ps, S (.agg ps) → ∀ p ∈ ps, S p
  str : ∀ b, S (.lit (.string b)) → b.length ≤ maxLen → b.length ≤ N
def CellOk (N : Nat) (w : World) (τ : Ty) (v : Value) : Prop := ∃ y u, Rng N τ y ∧ RTy τ 1000 y u ∧ Rep w (cx0 w) u v []
section
variable (P : Program)
def okT : Nat → TypeId → Bool
  | 0, _ => false
  | d + 1, t => decide (t < P.types.size) && match P.underlying t with
    | some (.slice e) => decide (P.cellsOf e ≠ 0) && ((cellsTy P d e).map List.length == some (P.cellsOf e)) && okT d e
    | some (.struct fields) => fields.toList.all fun fd => okT d fd.type
    | some (.array _ e) => okT d e
    | _ => true
end
variable {H : Type} {enc : TypeId × Value → H} {P : Program} {w : World} {base : Nat} {held : Bool}
theorem glue {α β : Type} {R : α → β → Prop} : ∀ (css : List (List α)) (szs : List Nat) (vals : List β), css.length = szs.length → vals.length = szs.sum →
    (∀ (j : Nat) c s, css[j]? = some c → szs[j]? = some s → All2 R c ((vals.drop (szs.take j).sum).take s)) → All2 R css.flatten vals
  | [], szs, vals, h1, h2, _ => by
    have : szs = [] := List.eq_nil_of_length_eq_zero (by simpa using h1.symm)
    subst this
    have : vals = [] := List.eq_nil_of_length_eq_zero (by simpa using h2)
    subst this
    exact .nil
  | c :: css, [], vals, h1, _, _ => by simp at h1
  | c :: css, s :: szs, vals, h1, h2, h => by
    have h0 := h 0 c s rfl rfl
    simp only [List.take_zero, List.sum_nil, List.drop_zero] at h0
    have hr := glue css szs (vals.drop s) (by simpa using h1) (by simp only [List.length_drop, h2, List.sum_cons]; omega) fun j c' s' hc hs => by
      have := h (j + 1) c' s' (by simpa using hc) (by simpa using hs)
      simpa [List.take_succ_cons, List.sum_cons, List.drop_drop] using this
    have := h0.append hr
    simpa [List.flatten_cons] using this
theorem pack_ok {N : Nat} : ∀ (cs : List Ty) (vals : List Value), All2 (CellOk N w) cs vals → ∃ (y : (cs.foldr Ty.pair .unit).den) (us : List V), Rng N _ y ∧ RTy (cs.foldr Ty.pair .unit) 1000 y (.agg us) ∧ RepL w (cx0 w) us vals []
  | [], vals, h => by cases h; exact ⟨(), [], trivial, by simp [RTy], by simp [RepL]⟩
  | c :: cs, vals, h => by
    cases h with
    | cons h1 h2 =>
      obtain ⟨y, u, hy, hu, hr⟩ := h1
      obtain ⟨ys, us, hys, hus, hrs⟩ := pack_ok cs _ h2
      refine ⟨(y, ys), u :: us, ⟨hy, hys⟩, ?_, ?_⟩
      · simp only [List.foldr_cons, RTy]; exact ⟨u, us, rfl, hu, hus⟩
      · simp only [RepL]; exact ⟨_, _, [], [], rfl, rfl, hr, hrs⟩
theorem cellsTy_one {d : Nat} {e : TypeId} {σ : Ty} (hc : cellsTy P d e = some [σ]) (hs : ∀ fs, P.underlying e ≠ some (.struct fs)) (ha : ∀ n q, P.underlying e ≠ some (.array n q)) : σ.one = true := by
  cases d with
  | zero => simp [cellsTy] at hc
  | succ d =>
    simp only [cellsTy] at hc
    split at hc
    · cases hc; rfl
    · cases hc; rfl
    · cases hc; rfl
    · split at hc
      · cases hc; rfl
      · cases hc; rfl
      · cases hc; rfl
      · cases hc
    · rename_i fs hfs; exact absurd hfs (hs _)
    · rename_i n e' hfs; exact absurd hfs (ha _ _)
    · cases hc
def elTy (P : Program) (e : TypeId) (cs : List Ty) : Option Ty := match P.underlying e with
  | some (.struct _) => some (cs.foldr Ty.pair .unit)
  | some (.array ..) => some (cs.foldr Ty.pair .unit)
  | _ => match cs with
    | [τ] => some τ
    | _ => none
theorem elem_ok {N : Nat} {d : Nat} {e : TypeId} {cs : List Ty} {τ : Ty} (hc : cellsTy P d e = some cs) (hτ : elTy P e cs = some τ) {vals : List Value} (h : All2 (CellOk N w) cs vals) :
    ∃ (y : τ.den) (u : V) (v : Value), Rng N τ y ∧ RTy τ 1000 y u ∧ Rep w (cx0 w) u v [] ∧ v.cells.toList = vals := by
  have agg : τ = cs.foldr Ty.pair .unit → ∃ (y : τ.den) (u : V) (v : Value), Rng N τ y ∧ RTy τ 1000 y u ∧ Rep w (cx0 w) u v [] ∧ v.cells.toList = vals := by
    rintro rfl
    obtain ⟨y, us, hy, hu, hr⟩ := pack_ok cs vals h
    exact ⟨y, .agg us, .agg vals.toArray, hy, hu, by simp only [Rep]; exact ⟨vals, rfl, hr⟩, by simp [Value.cells]⟩
  unfold elTy at hτ
  split at hτ
  · cases hτ; exact agg rfl
  · cases hτ; exact agg rfl
  · rename_i hns hna
    have hns' := hns
    have hna' := hna
    split at hτ
    · cases hτ
      have hone := cellsTy_one hc (fun fs hh => hns' fs hh) (fun n q hh => hna' n q hh)
      match vals, h with
      | v :: _, .cons h1 .nil =>
        obtain ⟨y, u, hy, hu, hr⟩ := h1
        refine ⟨y, u, v, hy, hu, hr, ?_⟩
        rw [cells_of_one (rep_one (rty_one hone hu) hr)]
    · cases hτ
theorem frozen0 {b : Nat} {e : Nat} {fz : Bool} (h : (cx0 w).ω b = some (e, fz)) : fz = true ∧ b < w.heap.size ∧ ∃ c t fr, w.heap[b]? = some (.cells c t fr) ∧ e = c.size := by
  simp only [cx0] at h
  split at h
  · rename_i c t fr hc
    cases h
    exact ⟨rfl, (Array.getElem?_eq_some_iff.1 hc).1, c, t, fr, hc, rfl⟩
  · cases h
theorem cell_block {a : Addr} {v : Value} (h : w.cell? a = some v) : a.spot = none ∧ ∃ c t fr, w.heap[a.block]? = some (.cells c t fr) ∧ c[a.off]? = some v := by
  unfold World.cell? at h
  split at h
  · rename_i c t fr hc
    split at h
    · cases h
    · rename_i hs
      exact ⟨by simpa using hs, c, t, fr, hc, h⟩
  · cases h
theorem slice_rep {N : Nat} {τ : Ty} {b off len cap s : Nat} (hs : 0 < s) (hlc : len ≤ cap) (hcap : cap ≠ 0) (hτ : τ.elemOk = true) (hn : τ.ncells = s)
    (hel : ∀ i, i < cap → ∃ vals : List Value, vals.length = s ∧ (∀ j, j < s → w.cell? ⟨b, off + i * s + j, none⟩ = vals[j]?) ∧ (i < len → ∃ (y : τ.den) (u : V) (v : Value), Rng N τ y ∧ RTy τ 1000 y u ∧ Rep w (cx0 w) u v [] ∧ v.cells.toList = vals)) :
    ∃ (l : List τ.den) (us : List V), l.length = len ∧ (∀ y ∈ l, Rng N τ y) ∧ All2 (RTy τ 1000) l us ∧ Rep w (cx0 w) (.sl .shared false us) (.slice (some ⟨b, off, none⟩) len cap) [] := by
  have key : ∀ n, n ≤ len → ∃ (l : List τ.den) (us : List V) (vals : List Value), l.length = n ∧ (∀ y ∈ l, Rng N τ y) ∧ All2 (RTy τ 1000) l us ∧ RepE w (cx0 w) s us vals [] ∧ vals.length = n * s ∧ (∀ j v, vals[j]? = some v → w.cell? ⟨b, off + j, none⟩ = some v) := by
    intro n
    induction n with
    | zero => exact fun _ => ⟨[], [], [], rfl, by simp, .nil, by simp [RepE], by simp, by simp⟩
    | succ n ih =>
      intro hle
      obtain ⟨l, us, vals, h1, h2, h3, h4, h5, h6⟩ := ih (by omega)
      obtain ⟨vs, hvl, hvc, hy⟩ := hel n (by omega)
      obtain ⟨y, u, v, hry, hu, hr, hcv⟩ := hy (by omega)
      refine ⟨l ++ [y], us ++ [u], vals ++ vs, by simp [h1], ?_, h3.append (.cons hu .nil), ?_, by simp [h5, hvl, Nat.succ_mul], ?_⟩
      · intro z hz
        simp only [List.mem_append, List.mem_singleton] at hz
        rcases hz with hz | rfl
        · exact h2 z hz
        · exact hry
      · have h7 : RepE w (cx0 w) s [u] vs [] := by
          simp only [RepE]
          exact ⟨v, [], [], [], by simp [hcv], by rw [← hvl, ← hcv]; simp, rfl, hr, rfl, rfl⟩
        simpa using repE_append h4 h7
      · intro j v hj
        by_cases hlt : j < vals.length
        · rw [List.getElem?_append_left hlt] at hj; exact h6 j v hj
        · rw [List.getElem?_append_right (by omega)] at hj
          have hjs := (List.getElem?_eq_some_iff.1 hj).1
          have := hvc (j - vals.length) (by omega)
          rw [hj] at this
          rw [← this]
          congr 2
          omega
  obtain ⟨l, us, vals, h1, h2, h3, h4, h5, h6⟩ := key len (Nat.le_refl _)
  refine ⟨l, us, h1, h2, h3, ?_⟩
  have hlen := h3.length
  have hcells := all2_cells hτ h3
  -- the block
  obtain ⟨vs, hvl, hvc, _⟩ := hel 0 (by omega)
  have hc0 := hvc 0 (by omega)
  have hv0 : ∃ v0, vs[0]? = some v0 := ⟨vs[0]'(by omega), List.getElem?_eq_getElem (by omega)⟩
  obtain ⟨v0, hv0⟩ := hv0
  rw [hv0] at hc0
  obtain ⟨_, c, t, fr, hblk, hoff⟩ := cell_block hc0
  simp only [Nat.zero_mul, Nat.add_zero] at hblk hoff
  have hoff' := (Array.getElem?_eq_some_iff.1 hoff).1
  simp only [Rep]
  refine ⟨all2_ptrs h3, .inr ⟨b, off, cap, s, vals, [], ?_, ?_, by simp, ?_, hs, ?_, h6, ⟨c.size, true, ?_, ?_, rfl⟩, h4, by simp, by simp⟩⟩
  · rw [hlen, h1]
  · rw [hlen, h1]; exact hlc
  · rw [hlen, h1]; exact h5
  · intro x hx; rw [(hcells x hx).1]; exact hn
  · simp only [cx0, hblk]
  · by_cases h0 : vals.length = 0
    · rw [h0]; omega
    · have : ∃ v1, vals[vals.length - 1]? = some v1 := ⟨vals[vals.length - 1]'(by omega), List.getElem?_eq_getElem (by omega)⟩
      obtain ⟨v1, hv1⟩ := this
      obtain ⟨_, c', t', fr', hblk', hoff1⟩ := cell_block (h6 _ _ hv1)
      simp only at hblk' hoff1
      rw [hblk] at hblk'
      cases hblk'
      have := (Array.getElem?_eq_some_iff.1 hoff1).1
      omega
theorem elTy_props {d : Nat} {e : TypeId} {cs : List Ty} {τ : Ty} (hc : cellsTy P d e = some cs) (hτ : elTy P e cs = some τ) (hones : ∀ c ∈ cs, c.one = true) : τ.elemOk = true ∧ τ.ncells = cs.length := by
  have agg : ∀ cs : List Ty, (∀ c ∈ cs, c.one = true) → (cs.foldr Ty.pair .unit).rowOk = true ∧ (cs.foldr Ty.pair .unit).elemOk = true ∧ (cs.foldr Ty.pair .unit).ncells = cs.length := by
    intro cs
    induction cs with
    | nil => intro _; exact ⟨rfl, rfl, rfl⟩
    | cons c cs ih =>
      intro h
      obtain ⟨h1, _, h3⟩ := ih fun c' hc' => h c' (by simp [hc'])
      simp only [List.foldr_cons, Ty.rowOk, Ty.elemOk, Ty.ncells, h c (by simp), h1, h3, Bool.and_self, List.length_cons]
      exact ⟨trivial, trivial, trivial⟩
  unfold elTy at hτ
  split at hτ
  · cases hτ; exact ⟨(agg cs hones).2.1, (agg cs hones).2.2⟩
  · cases hτ; exact ⟨(agg cs hones).2.1, (agg cs hones).2.2⟩
  · split at hτ
    · cases hτ
      have h1 := hones τ (by simp)
      cases τ <;> first | exact ⟨rfl, rfl⟩ | simp [Ty.one] at h1
    · cases hτ
theorem mapM_get {α β : Type} {g : α → Option β} : ∀ {l : List α} {r : List β}, l.mapM g = some r → r.length = l.length ∧ ∀ (i : Nat) (a : α), l[i]? = some a → ∃ b, r[i]? = some b ∧ g a = some b
  | [], r, h => by simp at h; subst h; exact ⟨rfl, by simp⟩
  | a :: l, r, h => by
    simp only [List.mapM_cons, Option.bind_eq_bind, Option.bind_eq_some_iff] at h
    obtain ⟨b, hb, r', hr', h⟩ := h
    cases h
    obtain ⟨h1, h2⟩ := mapM_get hr'
    refine ⟨by simp [h1], fun i x hi => ?_⟩
    cases i with
    | zero => simp at hi; subst hi; exact ⟨b, rfl, hb⟩
    | succ n => obtain ⟨c, hc, hg⟩ := h2 n x (by simpa using hi); exact ⟨c, by simpa using hc, hg⟩
theorem cellsTy_ones : ∀ (d : Nat) (t : TypeId) (cs : List Ty), cellsTy P d t = some cs → ∀ c ∈ cs, c.one = true
  | 0, t, cs, h => by simp [cellsTy] at h
  | d + 1, t, cs, h => by
    simp only [cellsTy] at h
    split at h
    · cases h; simp [Ty.one]
    · cases h; simp [Ty.one]
    · cases h; simp [Ty.one]
    · split at h
      · cases h; simp [Ty.one]
      · cases h; simp [Ty.one]
      · cases h; simp [Ty.one]
      · cases h
    · rename_i fields _
      obtain ⟨css, hcss, rfl⟩ := Option.map_eq_some_iff.1 h
      obtain ⟨h1, h2⟩ := mapM_get hcss
      intro c hc
      obtain ⟨q, hq, hcq⟩ := List.mem_flatten.1 hc
      obtain ⟨i, hi⟩ := List.mem_iff_getElem?.1 hq
      have hlt : i < fields.toList.length := by have := (List.getElem?_eq_some_iff.1 hi).1; omega
      obtain ⟨b, hb, hg⟩ := h2 i _ (List.getElem?_eq_getElem hlt)
      rw [hi] at hb; cases hb
      exact cellsTy_ones d _ _ hg c hcq
    · obtain ⟨q, hq, rfl⟩ := Option.map_eq_some_iff.1 h
      intro c hc
      obtain ⟨q', hq', hcq⟩ := List.mem_flatten.1 hc
      obtain ⟨_, rfl⟩ := List.mem_replicate.1 hq'
      exact cellsTy_ones d _ _ hq c hcq
    · cases h
end Go.Tx
end
section
set_option linter.unusedVariables false
namespace Go.Tx
open Go Go.Ab Go.RowKit Go.ChangeShapes Go.WideShapes Go.Deep
variable {H : Type} {enc : TypeId × Value → H} {P : Program} {w : World} {base : Nat} {held : Bool}
theorem slices_elTy {d : Nat} {e : TypeId} {cs1 cs : List Ty} (hc : cellsTy P d e = some cs1) (h : (match cellsTy P d e, P.underlying e with
      | some cs, some (.struct _) => some [Ty.sl (cs.foldr .pair .unit)]
      | some cs, some (.array ..) => some [.sl (cs.foldr .pair .unit)]
      | some [τ], _ => some [.sl τ]
      | _, _ => none) = some cs) : ∃ τ, cs = [.sl τ] ∧ elTy P e cs1 = some τ := by
  rw [hc] at h
  unfold elTy
  cases hu : P.underlying e with
  | none => rw [hu] at h; simp only at h ⊢; split at h <;> simp_all
  | some dd =>
    rw [hu] at h
    cases dd <;> simp only at h ⊢ <;> first | (simp only [Option.some.injEq] at h; exact ⟨_, h.symm, rfl⟩) | (split at h <;> simp_all)
theorem rep_empty {X : Cx} : Rep w X (.sl .shared false []) (.slice none 0 0) [] := by simp [Rep, ptrsL]
theorem rep_weird {X : Cx} (a : Addr) : Rep w X (.sl .shared false []) (.slice (some a) 0 0) [] := by simp [Rep, ptrsL]
theorem open_cells (hl : laidOutB P = true) {N : Nat} {S : DataW H → Prop} (hS : Sm N S) : ∀ (d : Nat) (t : TypeId) (cs : List Ty), cellsTy P d t = some cs → okT P d t = true → ∀ (fuel : Nat) (vals : List Value) (x : DataW H × List MemPlace), S x.1 →
    DataW.trod enc P w base (fun _ => true) held fuel t vals = some x → All2 (CellOk N w) cs vals
  | 0, t, cs, hc, _, fuel, vals, x, hx, h => by simp [cellsTy] at hc
  | d + 1, t, cs, hc, hok, fuel, vals, x, hx, h => by
    simp only [cellsTy] at hc
    simp only [okT, Bool.and_eq_true, decide_eq_true_eq] at hok
    split at hc
    · rename_i k hu
      cases hc
      obtain ⟨n, rfl, rfl, hwf⟩ := DataW.trod_int hu h
      refine .cons ⟨n, .val (.int k n), ?_, by simp [RTy], by simp [Rep]⟩ .nil
      simp only [Rng]
      simp only [Lit.wf, Bool.and_eq_true, decide_eq_true_eq] at hwf
      exact hwf
    · rename_i hu
      cases hc
      obtain ⟨b, rfl, rfl⟩ := DataW.trod_bool hu h
      exact .cons ⟨b, .val (.bool b), trivial, by simp [RTy], by simp [Rep]⟩ .nil
    · rename_i hu
      cases hc
      obtain ⟨s, rfl, rfl, hs⟩ := DataW.trod_string hu h
      have hsl : s.data.toList.length ≤ maxLen := by
        have e : s.data.toList.length = s.size := Array.length_toList
        rw [e]; exact hs
      exact .cons ⟨s.data.toList, .val (.string s), hS.str _ hx hsl, by simp [RTy], by simp [Rep]⟩ .nil
    · rename_i e hu
      obtain ⟨ht, hoe⟩ := hok
      rw [hu] at hoe
      simp only [Bool.and_eq_true, decide_eq_true_eq, beq_iff_eq] at hoe
      cases hce : cellsTy P d e with
      | none => rw [hce] at hc; simp at hc
      | some cs1 =>
        obtain ⟨τ, rfl, hτ⟩ := slices_elTy hce (by rw [hce]; rw [hce] at hc; exact hc)
        obtain ⟨hel, hnc⟩ := elTy_props hce hτ (cellsTy_ones d e cs1 hce)
        rcases open_slice hu h with ⟨rfl, rfl⟩ | ⟨a, len, cap, m, n, D, Pl, rfl, hb, hlc, hcm, hm, rfl, hx'⟩
        · exact .cons ⟨[], .sl .shared false [], ⟨Nat.zero_le _, by simp⟩, by simp only [RTy]; exact ⟨_, _, [], rfl, flr_of rfl (by simp) (fun _ => rfl), .nil⟩, rep_empty⟩ .nil
        · simp only [if_true] at hm
          subst hm
          obtain ⟨hN, hSe⟩ := hS.slice _ _ hx (by simp; omega)
          by_cases hcap : m = 0
          · subst hcap
            have hlen : len = 0 := by omega
            subst hlen
            exact .cons ⟨[], .sl .shared false [], ⟨Nat.zero_le _, by simp⟩, by simp only [RTy]; exact ⟨_, _, [], rfl, flr_of rfl (by simp) (fun _ => rfl), .nil⟩, rep_weird a⟩ .nil
          · have hspot : a.spot = none := by
              obtain ⟨cs', hcs', _⟩ := hx' 0 (by omega)
              obtain ⟨_, hl1, hc1⟩ := World.cells?_some hcs'
              have h0 := hc1 0 (by omega)
              simp only [Nat.zero_mul] at h0
              have : ∃ v0, cs'[0]? = some v0 := ⟨cs'[0]'(by omega), List.getElem?_eq_getElem (by omega)⟩
              obtain ⟨v0, hv0⟩ := this
              rw [hv0] at h0
              have := (cell_block h0).1
              simpa [Addr.add] using this
            obtain ⟨b, off, spot⟩ := a
            simp only at hspot
            subst hspot
            have hsz : ∀ i, i < m → ∃ vals : List Value, vals.length = P.cellsOf e ∧ (∀ j, j < P.cellsOf e → w.cell? ⟨b, off + i * P.cellsOf e + j, none⟩ = vals[j]?) ∧
                (i < len → ∃ (y : τ.den) (u : V) (v : Value), Rng N τ y ∧ RTy τ 1000 y u ∧ Rep w (cx0 w) u v [] ∧ v.cells.toList = vals) := fun i hi => by
              obtain ⟨cs', hcs', htr⟩ := hx' i hi
              obtain ⟨_, hl1, hc1⟩ := World.cells?_some hcs'
              refine ⟨cs', hl1, fun j hj => ?_, fun hil => ?_⟩
              · rw [← hc1 j hj, Addr.add_lit, Addr.add_lit]
              · have hSi : S (D i) := hSe _ (List.mem_map.2 ⟨i, List.mem_range.2 hil, rfl⟩)
                exact elem_ok hce hτ (open_cells hl hS d e cs1 hce hoe.2 n cs' _ hSi htr)
            have hn : τ.ncells = P.cellsOf e := by
              have := hoe.1.2
              rw [hce] at this
              simp only [Option.map_some, Option.some.injEq] at this
              rw [hnc, this]
            obtain ⟨l, us, h1, h2, h3, h4⟩ := slice_rep (Nat.pos_of_ne_zero hoe.1.1) hlc hcap hel hn hsz
            exact .cons ⟨l, .sl .shared false us, ⟨by rw [h1]; simpa using hN, h2⟩, by simp only [RTy]; exact ⟨_, _, us, rfl, flr_of rfl (by simp) (fun _ => rfl), h3⟩, h4⟩ .nil
    · rename_i fields hu
      obtain ⟨ht, hoe⟩ := hok
      rw [hu] at hoe
      simp only [List.all_eq_true] at hoe
      obtain ⟨css, hcss, rfl⟩ := Option.map_eq_some_iff.1 hc
      obtain ⟨hl1, hget⟩ := mapM_get hcss
      obtain ⟨xs, n, _, rfl, hvl, hxl, hxs⟩ := DataW.trod_struct hu h
      obtain ⟨_, hsum, hoff⟩ := kid_struct hl ht hu
      refine glue css (fields.toList.map fun f => P.cellsOf f.type) vals (by simp [hl1]) (by rw [hvl, hsum]) fun j c s hcj hsj => ?_
      rw [List.getElem?_map] at hsj
      obtain ⟨fd, hfd, rfl⟩ := Option.map_eq_some_iff.1 hsj
      obtain ⟨c', hc', hg⟩ := hget j fd hfd
      rw [hcj] at hc'; cases hc'
      have hx1 := hxs j fd (by simpa using hfd)
      rw [hoff j fd hfd, List.map_take] at hx1
      have hj : j < xs.length := by rw [hxl]; have := (List.getElem?_eq_some_iff.1 hfd).1; simpa using this
      rw [List.getElem?_eq_getElem hj] at hx1
      exact open_cells hl hS d fd.type c hg (hoe fd (List.mem_of_getElem? hfd)) n _ _ (hS.agg _ hx _ (List.mem_map.2 ⟨xs[j], List.getElem_mem hj, rfl⟩)) hx1
    · rename_i n' e hu
      obtain ⟨ht, hoe⟩ := hok
      rw [hu] at hoe
      simp only at hoe
      obtain ⟨cs1, hce, rfl⟩ := Option.map_eq_some_iff.1 hc
      obtain ⟨_, hsum⟩ := kid_array hl ht hu
      cases fuel with
      | zero => simp [DataW.trod] at h
      | succ fuel =>
        unfold DataW.trod at h
        rw [hu] at h
        simp only at h
        split at h
        · rename_i hvl
          obtain ⟨xs, hxs, rfl⟩ := Option.map_eq_some_iff.1 h
          obtain ⟨hxl, hget⟩ := mapM_get hxs
          refine glue _ (List.replicate n' (P.cellsOf e)) vals (by simp) (by rw [hvl, hsum]; simp) fun j c s hcj hsj => ?_
          have hjn : j < n' := by have := (List.getElem?_eq_some_iff.1 hcj).1; simpa using this
          rw [List.getElem?_replicate, if_pos hjn] at hcj hsj
          cases hcj; cases hsj
          obtain ⟨b, hb, hg⟩ := hget j j (by simp [hjn])
          have htk : ((List.replicate n' (P.cellsOf e)).take j).sum = j * P.cellsOf e := by
            rw [List.take_replicate]; simp [Nat.min_eq_left (Nat.le_of_lt hjn)]
          rw [htk]
          exact open_cells hl hS d e cs1 hce hoe fuel _ _ (hS.agg _ hx _ (List.mem_map.2 ⟨b, List.mem_of_getElem? hb, rfl⟩)) hg
        · cases h
    · cases hc
theorem open_arg (hl : laidOutB P = true) {N : Nat} {S : DataW H → Prop} (hS : Sm N S) {t : TypeId} {τ : Ty} (hτ : tyOf P t = some τ) (hok : okT P 10 t = true) {v : Value} {d : DataW H} {ps : List MemPlace} {b0 : Nat} (hval : Value.okWide P w .any b0 t v)
    (h : DataW.Trod enc P w base (fun _ => true) held t v d ps) (hd : S d) : CellOk N w τ v := by
  obtain ⟨fuel, hf⟩ := h
  unfold tyOf at hτ
  split at hτ
  · rename_i cs hc
    have hall := open_cells hl hS 10 t cs hc hok fuel _ _ hd hf
    split at hτ
    · rename_i ha
      cases hτ
      obtain ⟨y, us, hy, hu, hr⟩ := pack_ok cs _ hall
      have hv : ∃ c, v = .agg c := by
        unfold isAggT at ha
        unfold Value.okWide at hval
        split at ha
        · rename_i fs hfs; rw [hfs] at hval; obtain ⟨c, hc, _⟩ := hval; exact ⟨c, hc⟩
        · rename_i n e hfs; rw [hfs] at hval; obtain ⟨c, hc, _⟩ := hval; exact ⟨c, hc⟩
        · cases ha
      obtain ⟨c, rfl⟩ := hv
      refine ⟨y, .agg us, hy, hu, ?_⟩
      simp only [Rep]
      exact ⟨c.toList, by simp, by simpa [Value.cells] using hr⟩
    · rename_i ha
      match cs, hτ, hall with
      | τ' :: cs', hτ, hall =>
        simp only [List.head?_cons, Option.some.injEq] at hτ
        subst hτ
        have hone := cellsTy_ones 10 t _ hc τ' (by simp)
        have hv : v.cells.toList = [v] := by
          cases v with
          | agg c =>
            exfalso
            unfold isAggT at ha
            unfold Value.okWide at hval
            split at hval
            · rename_i fs hfs; rw [hfs] at ha; simp at ha
            · rename_i n e hfs; rw [hfs] at ha; simp at ha
            · unfold Cell.okWide Cell.ok at hval
              split at hval
              all_goals first | (rename_i h1 h2; cases h2; done) | skip
              all_goals (split at hval <;> first | (exact hval.elim) | (rename_i h1 h2; cases h2))
          | _ => rfl
        rw [hv] at hall
        cases hall with
        | cons h1 h2 => exact h1
  · cases hτ
theorem open_args (hl : laidOutB P = true) {N : Nat} {S : DataW H → Prop} (hS : Sm N S) {b0 : Nat} : ∀ (ts : List TypeId) (τs : List Ty) (vs : List Value) (ds : List (DataW H)) (ps : List MemPlace), ts.mapM (tyOf P) = some τs → ts.all (okT P 10) = true →
    (∀ (j : Nat) t v, ts[j]? = some t → vs[j]? = some v → Value.okWide P w .any b0 t v) → DataW.TrodAll enc P w base (fun _ => true) held ts vs ds ps → (∀ d ∈ ds, S d) →
    ∃ x us, RngP N τs x ∧ RVL (ofPms (τs.map .ty) x) us ∧ RepL w (cx0 w) us vs []
  | [], τs, vs, ds, ps, hm, _, _, h, _ => by
    simp at hm; subst hm
    obtain ⟨rfl, _, _⟩ := trodAll_nil h
    exact ⟨(), [], trivial, rvl_nil, by simp [RepL]⟩
  | t :: ts, τs, vs, ds, ps, hm, hok, hval, h, hd => by
    simp only [List.mapM_cons, Option.bind_eq_bind, Option.bind_eq_some_iff] at hm
    obtain ⟨τ, hτ, τs', hm', he⟩ := hm
    cases he
    simp only [List.all_cons, Bool.and_eq_true] at hok
    obtain ⟨v, vs', d, ds', p, q, rfl, rfl, rfl, h1, h2⟩ := trodAll_cons h
    obtain ⟨y, u, hy, hu, hr⟩ := open_arg hl hS hτ hok.1 (hval 0 t v rfl rfl) h1 (hd d (by simp))
    obtain ⟨x, us, hx, hus, hrs⟩ := open_args hl hS ts τs' vs' ds' q hm' hok.2 (fun j t' v' a b => hval (j + 1) t' v' (by simpa using a) (by simpa using b)) h2 fun d' hd' => hd d' (by simp [hd'])
    have hR : RepL w (cx0 w) (u :: us) (v :: vs') [] := by simp only [RepL]; exact ⟨v, vs', [], [], rfl, rfl, hr, hrs⟩
    cases τs' with
    | nil => exact ⟨y, u :: us, hy, (rvl_cons.2 ⟨rv_ofTy _ _ _ _ hu, hus⟩ : RVL (ofTy τ 1000 y :: []) (u :: us)), hR⟩
    | cons τ2 τs2 => exact ⟨(y, x), u :: us, ⟨hy, hx⟩, (rvl_cons.2 ⟨rv_ofTy _ _ _ _ hu, hus⟩ : RVL (ofTy τ 1000 y :: ofPms ((τ2 :: τs2).map .ty) x) (u :: us)), hR⟩
theorem trodAll_below (hl : laidOutB P = true) {W W' : World} (hb : Below W.heap.size W W') : ∀ {ts : List TypeId} {vs : List Value} {ds : List (DataW H)} {ps : List MemPlace}, ts.all (fun t => P.readableRec t && decide (t < P.types.size)) = true →
    DataW.TrodAll enc P W 0 (fun _ => true) true ts vs ds ps → (∀ x ∈ ps, x.block < W.heap.size) → ∀ sp : Nat → Bool, (∀ p ∈ ps, sp p.block = true) → DataW.TrodAll enc P W' 0 sp true ts vs ds ps
  | [], [], [], ps, _, h, _, sp, _ => h
  | t :: ts, v :: vs, d :: ds, ps, hr, ⟨p, q, h1, h2, e⟩, hlt, sp, hsp => by
    simp only [List.all_cons, Bool.and_eq_true, decide_eq_true_eq] at hr
    subst e
    refine ⟨p, q, ?_, trodAll_below hl hb hr.2 h2 (fun x hx => hlt x (List.mem_append_right _ hx)) sp (fun x hx => hsp x (List.mem_append_right _ hx)), rfl⟩
    exact WideElems.Trod_stays hl hr.1.1 hr.1.2 h1 (fun x hx => hb.same (hlt x (List.mem_append_left _ hx))) (fun x hx => hsp x (List.mem_append_left _ hx))
theorem lrel0 {w : World} : LRel [] w (cx0 w) (fun _ => []) where
  box := fun r c h => by simp [boxL] at h
  boxD := fun _ _ => rfl
  inj := fun r r' b h => by simp [boxL] at h
  lin := fun _ => Lin.nil
  dis := fun _ _ _ b hb => by cases hb
  ptrB := fun r c h => by simp [boxL] at h
  up := fun r c h => by simp [boxL] at h
  dom := fun b e fz h => (frozen0 h).2.1
theorem law_calls {H0 : Hints} {lib : FuncId → Option (List V → Option V)} (hm : P.follows .mixedOrders = true) (hname : ∀ (g : FuncId) (fn : Func), P.funcs[g]? = some fn → fn.body.isSome = true → (fn.name == "runtime.NumGoroutine") = false)
    (hlib : ∀ g h args r, lib g = some h → h args = some r → CallOk P g args [] r []) (hl : laidOutB P = true) {N : Nat} {S : DataW H → Prop} (hS : Sm N S) {k : FuncId} {fn : Func} (hfn : P.funcs[k]? = some fn) (hbody : fn.body.isSome = true)
    {ts : List TypeId} {τs : List Ty} (hts : ts.mapM (tyOf P) = some τs) (hok : ts.all (okT P 10) = true) {F : denP (τs.map .ty) → Option Bool}
    (he : EntryOk P H0 lib ⟨k, τs.map .ty, [(.bool, 0)], F⟩) (hF : ∀ x, RngP N τs x → F x = some true)
    {W : World} {args : Array Value} {ds : List (DataW H)} {ps : List MemPlace} {b0 : Nat} (hval : ∀ (j : Nat) t v, ts[j]? = some t → args.toList[j]? = some v → Value.okWide P W .any b0 t v)
    (h : DataW.TrodAll enc P W 0 (fun _ => true) true ts args.toList ds ps) (hd : ∀ d ∈ ds, S d) :
    Calls P k args W fun e W' => e = .returned (.bool true) ∧ Below W.heap.size W W' := by
  obtain ⟨x, us, hx, hus, hrs⟩ := open_args hl hS ts τs args.toList ds ps hts hok hval h hd
  obtain ⟨v, hcall, hr⟩ := entry_call hm hname hlib he (x := x) (y := true) (hF x hx) hus
  simp only [packT, ofL, packedT, ofTy, RV, RTy] at hr
  subst hr
  have hp : ptrsL us = [] := by
    apply List.eq_nil_iff_forall_not_mem.2
    intro q hq
    have hk : ∀ (τs : List Ty) (x : denP (τs.map .ty)), ptrsTL (ofPms (τs.map .ty) x) = [] := by
      have h1 : ∀ (τ : Ty) (y : τ.den), (ofTy τ 1000 y).ptrs = [] ∧ ptrsTL (ofTyC τ 1000 y) = [] := by
        intro τ
        induction τ with
        | pair a b iha ihb => intro y; simp [ofTy, ofTyC, TV.ptrs, ptrsTL, (iha y.1).1, (ihb y.2).2]
        | _ => intro y; simp [ofTy, ofTyC, TV.ptrs, ptrsTL]
      intro τs
      induction τs with
      | nil => intro x; rfl
      | cons τ τs ih =>
        intro x
        cases τs with
        | nil => show ptrsTL [ofTy τ 1000 x] = []; simp [ptrsTL, (h1 τ x).1]
        | cons τ2 τs2 => show ptrsTL (ofTy τ 1000 x.1 :: ofPms ((τ2 :: τs2).map .ty) x.2) = []; simp only [ptrsTL, (h1 τ x.1).1, List.nil_append]; exact ih x.2
    have := RVL.ptrs _ _ hus q hq
    rw [hk] at this; cases this
  rcases hcall W (cx0 W) args.toList (fun _ => []) hrs lrel0 (fun q hq => by rw [hp] at hq; cases hq) (fun _ b e fz h => (frozen0 h).1) with ⟨_, hc⟩ | ⟨_, v, w', hv, _⟩
  · refine (by simpa using hc : Calls P k args W _).mono ?_
    rintro e W' ⟨v, rfl, X', O', Or, hrep, _, _, _, _, _, _, haft⟩
    simp only [Rep] at hrep
    obtain ⟨rfl, _⟩ := hrep
    refine ⟨rfl, ⟨haft.os, haft.tape, haft.out, haft.size, fun b hb => ?_⟩⟩
    exact (haft.kept b hb (by rintro (⟨r, h1, _⟩ | ⟨r, h1⟩) <;> simp [boxL] at h1)).1
  · exfalso
    have hbs : fn.body.isNone = false := by cases hb : fn.body <;> simp_all
    simp only [callFunc, Sem.run_bind, run_program, Result.andThen_ok, hfn, hname k fn hfn hbody, hbs, Bool.false_eq_true, if_false, Sem.run_pure] at hv
    cases hv
end Go.Tx
end
section
namespace Go.Proofs.Ytbcdgfgacigaoaa.Hn
open Go
def takeT : List (List Nat) := [[], [], [], [21, 25, 27, 37, 41, 46, 51, 54, 57, 64, 88, 89, 92, 100, 101, 105, 106, 110, 113, 117, 122], [86, 92, 93, 97, 100, 104, 105], [27, 33, 39, 41, 47, 52, 56, 57, 103, 104, 107, 111, 121, 134, 136, 137, 141], [24, 30, 40, 44, 49, 53, 56, 91, 94, 97, 103, 107, 111, 113, 118, 121], [11, 16, 21, 30, 33, 35, 40, 55, 64, 68, 72, 76, 84, 88], [9], [], [], [], [], [33, 42, 65, 67, 71], [], [13], [], [], [], [21, 31, 37, 44, 45], [11, 19], [21], [10], [26, 45], [], [5, 10], [], [48, 52, 53, 56], [], [12, 28], [], [6, 16, 20, 27], [81], [20], [14, 30], [11], [], [15, 34, 74, 78, 87], [], [15, 30, 38, 44, 46, 50, 55, 59], [], [], [], [17, 20], [30, 38, 62, 64, 68], [], [], [31, 40], [], [13], [6], [], [], [9], [], [5, 10], [], [23], [11], [29, 39, 40, 43], [], [], [], [38, 50, 57, 73], [16, 17, 21, 29], [12], [38, 54, 73, 83, 93, 95], [], [], [], [26, 29, 36], [], [], [], [10, 16], [17, 48, 59], [], [], [], [], [], [37], [], [], [], [21, 22, 28], [], [17], [], [], [17, 20, 33], [16, 23, 31, 32, 35], [], [], [18, 44], [16, 23, 31, 32, 35], [], [], [], [27, 28, 55, 70], [13], [17], [8, 12], [16], [48, 58, 64, 77], [17], [25, 26], [], [25, 26], [], [20, 26], [], [], [27], [], [], [], [], [], [], [], [], [], [], [], [], [], [], [], [], [], []]
def clearT : List (List (Nat × List Nat)) := [[],
  [],
  [],
  [(0, [3, 11, 73, 74, 75, 76, 77, 78, 79, 80, 81, 82, 83, 84, 85, 86, 87, 88, 89, 90, 91, 92, 93, 94, 95, 96, 97, 98, 99])],
  [(0, [42, 43, 44, 45, 46, 47, 48, 49, 50, 51, 52, 53, 54, 55, 56, 57, 58, 59, 60, 61, 62, 63, 64, 65, 66, 67, 68, 69, 70, 71, 72, 73, 74, 75, 76, 77, 78, 79, 80, 81, 82, 83, 84, 85])],
  [],
  [],
  [],
  [],
  [],
  [],
  [(0, [10, 11, 12, 13, 14, 15, 16, 17, 18, 19, 20, 21])],
  [(0, [11, 12, 13, 14, 15, 16, 17, 18, 19, 20, 21, 22, 23, 24, 25, 26])],
  [(0, [5, 6, 7, 12, 13, 14, 15, 16, 17, 18, 19, 20, 21, 22, 23, 24, 25, 26, 27, 28, 29, 30, 31, 32, 33, 34, 35, 36, 37, 38, 39, 40, 41, 42, 43, 44, 45, 46, 47, 48, 49, 50, 51, 52, 53, 54, 55, 56, 57, 58, 59, 60, 61, 62, 63, 64, 65, 66, 67, 68, 69, 70]), (2, [37, 38, 39, 40, 41, 42, 43, 44, 45, 46, 47, 48, 49, 50, 51, 52, 53, 54, 55, 56, 57, 58, 59, 60, 61, 62, 63, 64])],
  [],
  [],
  [],
  [],
  [],
  [(0, [5, 6, 7, 8, 25, 26, 27, 28, 29, 30, 31, 32, 33, 34, 35, 36, 37, 38, 39, 40, 41, 42, 43, 44, 45, 46])],
  [(0, [5, 6, 7, 8, 9, 10, 11, 12, 13, 14, 15, 16, 17, 18])],
  [],
  [],
  [(0, [5, 12, 13, 14, 15, 16, 17, 18, 19, 20, 21, 22, 23, 24, 25, 26, 27, 28, 29, 30, 31, 32, 33, 34, 35, 36, 37, 38, 39, 40, 41, 42, 43, 44, 45]), (2, [27, 28, 29, 30, 31, 32, 33, 34, 35, 36, 37, 38, 39, 40, 41, 42, 43, 44, 45])],
  [(0, [5, 10, 11, 12, 13, 14, 15, 16, 17, 18, 19, 20, 21, 22, 23, 24, 25, 26, 27, 28, 29, 30, 31, 32, 33, 34, 35])],
  [],
  [(0, [11, 12, 13, 14, 15, 16, 17, 18, 19, 20, 21, 22, 23, 24, 25, 26])],
  [(0, [7, 8, 9, 10, 11, 12, 13, 14, 15, 16, 17, 18, 19, 20, 21, 22, 23, 24, 25, 26, 27, 28, 29, 30, 31, 32, 33, 34, 35, 36, 37, 38, 39, 40, 41, 42, 43, 44, 45, 46, 47, 48, 49, 50, 51, 52, 53, 54, 55]), (2, [9, 10, 17, 18, 19, 20, 21, 22, 23, 24, 25, 26, 27, 28, 29, 30, 31, 32, 33, 34, 35, 36, 37, 38, 39, 40, 41, 42, 43, 44, 45, 46, 47, 48, 49, 50, 51]), (4, [25, 26, 27, 28, 29, 30, 31, 32, 33, 34, 35, 36, 37, 38, 39, 40, 41, 42, 43, 44, 45, 46, 47])],
  [],
  [(0, [16, 17, 18, 19, 20, 21, 22, 23, 24, 25, 26, 27, 28])],
  [],
  [],
  [(0, [42, 43, 44, 45, 46, 47, 48, 49, 50, 51, 52, 53, 54, 55, 56, 57, 58, 59, 60, 61, 62, 63, 64]), (2, [5, 68, 69, 70, 71, 72, 73, 74, 75, 76, 77, 78, 79, 80, 81])],
  [(0, [8, 9, 10, 11, 12, 13, 14, 15, 16, 17, 18, 19, 20])],
  [(0, [7, 8, 9, 10, 11, 12, 13, 14, 15, 16, 17, 18, 19, 20, 21, 22, 23, 24, 25, 26, 27, 28, 29])],
  [],
  [],
  [(0, [11, 13, 14, 39, 40, 41, 42, 43, 44, 45, 46, 47, 48, 49, 50, 51, 52, 53, 54, 55])],
  [],
  [(0, [13, 14, 31, 32, 33, 34, 35, 36, 37, 38, 39, 40, 41, 42, 43, 44, 45, 46, 47, 48, 49, 50, 51, 52, 53, 54, 55, 56, 57, 58, 59])],
  [],
  [],
  [],
  [],
  [(0, [5, 6, 7, 12, 13, 14, 15, 16, 17, 18, 19, 20, 21, 22, 23, 24, 25, 26, 27, 28, 29, 30, 31, 32, 33, 34, 35, 36, 37, 38, 39, 40, 41, 42, 43, 44, 45, 46, 47, 48, 49, 50, 51, 52, 53, 54, 55, 56, 57, 58, 59, 60, 61, 62, 63, 64, 65, 66, 67]), (2, [7, 36, 37, 38, 39, 40, 41, 42, 43, 44, 45, 46, 47, 48, 49, 50, 51, 52, 53, 54, 55, 56, 57, 58, 59, 60, 61])],
  [],
  [(0, [11, 12, 13, 14, 15, 16, 17, 18, 19, 20, 21, 22, 23, 24, 25])],
  [(0, [5, 7, 8, 9, 10, 11, 12, 13, 14, 15, 16, 17, 18]), (2, [25, 26, 27, 28, 29, 30, 31, 32, 33, 34, 35, 36, 37, 38, 39])],
  [(0, [10, 11, 12, 13, 14, 15, 16, 17, 18, 19, 20, 21])],
  [(0, [4, 8, 9, 10, 11, 12, 13, 14])],
  [],
  [],
  [],
  [],
  [],
  [],
  [],
  [(0, [4, 5, 13, 14, 15, 16, 17, 18, 19, 20, 21, 22, 23, 24, 25, 26, 27, 28, 29, 30, 31, 32])],
  [],
  [(0, [9, 10, 11, 12, 13, 14, 15, 16, 17, 18, 19, 20, 21, 22, 23, 24, 25, 26, 27, 28, 29, 30, 31, 32, 33, 34, 35, 36, 37, 38, 39, 40, 41, 42]), (2, [20, 21, 22, 23, 24, 25, 26, 27, 28, 29, 30, 31, 32, 33, 34, 35, 36, 37, 38])],
  [],
  [],
  [(0, [11, 12, 13, 14, 15, 16, 17, 18, 19, 20, 21, 22, 23, 24, 25])],
  [(0, [60, 61, 62, 63, 64, 65, 66, 67, 68, 69, 70, 71, 72])],
  [(0, [6, 7, 12, 13, 14, 15, 16, 17, 18, 19, 20, 21, 22, 23, 24, 25, 26, 27, 28])],
  [],
  [(0, [7, 8, 9, 10, 48, 49, 50, 51, 52, 53, 54, 55, 56, 57, 58, 59, 60, 61, 62, 63, 64, 65, 66, 67, 68, 69, 70, 71, 72, 73, 74, 75, 76, 77, 78, 79, 80, 81, 82, 83, 84, 85, 86, 87, 88])],
  [],
  [],
  [],
  [(0, [8, 9, 15, 16, 17, 18, 19, 20, 21, 22, 23, 24, 25, 26, 27, 28, 29, 30, 31, 32, 33, 34, 35]), (2, [9, 19, 20, 21, 22, 23, 24, 25, 26, 27, 28, 29, 30, 31, 32, 33, 34])],
  [],
  [],
  [],
  [],
  [(0, [7, 8, 9, 10, 14, 15, 16, 17, 18, 19, 20, 21, 22, 23, 24, 25, 26, 27, 28, 29, 30, 31, 32, 33, 34, 35, 36, 37, 38, 39, 40, 41, 42, 43, 44, 45, 46, 47, 48, 49, 50, 51, 52, 53, 54, 55, 56, 57, 58]), (2, [7, 9, 10, 20, 21, 22, 23, 24, 25, 26, 27, 28, 29, 30, 31, 32, 33, 34, 35, 36, 37, 38, 39, 40, 41, 42, 43, 44, 45, 46, 47])],
  [],
  [],
  [],
  [],
  [],
  [(0, [9, 10, 18, 19, 20, 21, 22, 23, 24, 25, 26, 27, 28, 29, 30, 31])],
  [],
  [],
  [],
  [(0, [6, 18, 19, 20, 21, 22, 23, 24, 25, 26, 27])],
  [(0, [5, 6, 7, 8, 9, 10])],
  [(0, [5, 9, 10, 11, 12, 13, 14, 15, 16, 17, 18])],
  [(0, [8, 12, 13, 14, 15, 16, 17, 18, 19, 20, 21, 22, 23, 24, 25])],
  [],
  [(0, [8, 9, 13, 14, 15, 16, 17, 18, 19, 20, 21, 22, 23, 24, 25, 26, 27, 28, 29, 30, 31, 32])],
  [(0, [5, 6, 8, 12, 13, 14, 15, 16, 17, 18, 19, 20, 21, 22]), (2, [5, 8, 28, 29, 30, 31, 32, 33, 34])],
  [],
  [],
  [(0, [7, 9, 10, 15, 16, 17, 18, 19, 20, 21, 22, 23, 24, 25, 26, 27, 28, 29, 30, 31, 32]), (2, [7, 9, 10, 21, 22, 23, 24, 25, 26, 27, 28, 29, 30, 31])],
  [(0, [5, 6, 8, 12, 13, 14, 15, 16, 17, 18, 19, 20, 21, 22]), (2, [5, 8, 28, 29, 30, 31, 32, 33, 34])],
  [],
  [],
  [(0, [5, 9, 10, 11, 12, 13, 14, 15, 16, 17, 18]), (2, [12, 13, 14, 15, 16, 17])],
  [],
  [],
  [(0, [5, 9, 10, 11, 12, 13, 14, 15, 16, 17, 18])],
  [],
  [(0, [4, 5, 9, 10, 11, 12, 13, 14, 15, 16, 17, 18, 19, 20, 21, 22])],
  [(0, [8, 9, 10, 13, 25, 26, 27, 28, 29, 30, 31, 32, 33, 34, 35, 36, 37, 38]), (2, [13, 14, 15, 16, 45, 46, 47, 48, 49, 50, 51, 52, 53, 54, 55, 56, 57, 58, 59, 60, 61, 62, 63, 64, 65, 66, 67, 68, 69, 70, 71, 72, 73, 74, 75, 76]), (4, [13, 15, 16, 51, 52, 53, 54, 55, 56, 57, 58, 59, 60, 61, 62, 63])],
  [(0, [5, 9, 10, 11, 12, 13, 14, 15, 16, 17, 18])],
  [],
  [],
  [],
  [],
  [(0, [8, 9, 14, 15, 16, 17, 18, 19, 20, 21, 22, 23, 24, 25, 26, 27, 28, 29, 30, 31, 32, 33])],
  [],
  [],
  [],
  [],
  [],
  [],
  [],
  [],
  [],
  [],
  [],
  [],
  [],
  [],
  [],
  [],
  [],
  [],
  [],
  [],
  []]
def linkT : List (List Nat) := [[], [], [], [], [54, 68, 69, 85], [], [], [], [], [], [], [], [], [], [], [], [], [], [], [], [], [], [], [], [], [], [], [], [], [], [], [], [], [], [], [], [], [], [], [], [], [], [], [], [], [], [], [], [], [], [], [], [], [], [], [], [], [], [], [], [], [], [], [], [], [], [], [], [], [], [21, 23, 25, 26, 33], [], [], [], [], [], [], [], [], [], [], [22, 30], [], [], [], [], [], [], [], [], [], [], [], [], [], [], [], [], [], [], [], [], [], [], [29, 37], [], [], [], [], [], [], [], [], [], [], [], [], [], [], [], [], [], [], [], [], [], [], [], [], [], [], []]
def preciseT : List Nat := [77, 91, 95, 106, 108]
def peekT : List Nat := [70, 109, 112]
def pairsT : List (List (Nat × List (Nat × Nat))) := [[],
  [],
  [],
  [(22, [(30, 34), (31, 34)])],
  [(11, [(5, 7), (5, 11), (7, 11)]), (12, [(7, 9), (7, 13), (9, 13)]), (15, [(11, 14), (12, 14)])],
  [(9, [(29, 31)]), (23, [(3, 4), (3, 5), (4, 5), (3, 6)])],
  [],
  [],
  [],
  [],
  [],
  [],
  [(6, [(3, 7)])],
  [(3, [(9, 13), (10, 13)]), (11, [(3, 7), (3, 12), (7, 12), (3, 18), (7, 18), (12, 18)])],
  [],
  [],
  [],
  [],
  [],
  [],
  [],
  [],
  [],
  [],
  [(7, [(2, 8), (5, 8), (2, 9), (5, 9), (2, 11), (5, 11), (8, 11), (9, 11), (10, 11)])],
  [],
  [(6, [(3, 7)])],
  [(13, [(0, 4), (0, 7), (0, 11), (4, 11), (7, 11), (0, 14), (4, 14), (7, 14), (0, 15)])],
  [],
  [],
  [(1, [(1, 4), (2, 4)])],
  [],
  [],
  [],
  [(5, [(2, 8), (5, 8), (2, 11), (5, 11)])],
  [],
  [],
  [(9, [(2, 6), (4, 6), (2, 8), (4, 8), (2, 9), (4, 9)]), (16, [(2, 12), (3, 12), (5, 12), (7, 12), (10, 12)])],
  [],
  [],
  [],
  [],
  [],
  [(5, [(2, 5)])],
  [(5, [(3, 6)]), (12, [(3, 7), (3, 12), (7, 12), (3, 18), (7, 18), (12, 18)])],
  [],
  [(6, [(3, 7)])],
  [],
  [],
  [],
  [],
  [],
  [],
  [],
  [],
  [],
  [(1, [(0, 2), (0, 4), (0, 6), (2, 6)])],
  [],
  [],
  [],
  [],
  [],
  [(6, [(3, 7)])],
  [(3, [(6, 9), (1, 15), (6, 15), (9, 15), (13, 15), (1, 20), (6, 20), (9, 20), (13, 20), (15, 20), (18, 20), (1, 29), (6, 29), (9, 29), (13, 29), (15, 29), (18, 29), (20, 29), (21, 29), (24, 29), (25, 29), (27, 29), (1, 31), (6, 31), (9, 31), (13, 31), (15, 31), (18, 31), (20, 31), (21, 31), (24, 31), (25, 31), (27, 31), (29, 31)])],
  [],
  [(2, [(1, 2), (1, 3)])],
  [(1, [(6, 9), (1, 15), (6, 15), (9, 15), (13, 15)]), (16, [(0, 1), (0, 2), (1, 2), (0, 5), (1, 5), (1, 6)])],
  [],
  [],
  [],
  [(8, [(5, 9)])],
  [],
  [],
  [],
  [(2, [(0, 4), (0, 6), (0, 9), (4, 9), (6, 9), (0, 11), (0, 13)])],
  [(9, [(2, 5), (2, 12), (5, 12), (2, 18), (5, 18), (12, 18)])],
  [],
  [],
  [],
  [(1, [(1, 3), (1, 5), (3, 5), (4, 5)])],
  [],
  [(5, [(5, 6)])],
  [],
  [],
  [],
  [],
  [],
  [],
  [(5, [(0, 1), (0, 4), (0, 5), (1, 5), (4, 5), (0, 8), (0, 9)])],
  [],
  [],
  [],
  [],
  [(1, [(0, 5), (3, 5), (4, 5), (0, 8), (3, 8), (4, 8), (5, 8), (6, 8), (7, 8)])],
  [(11, [(0, 2), (0, 4), (0, 6), (2, 6)])],
  [],
  [],
  [(2, [(2, 6), (3, 6)])],
  [],
  [(1, [(1, 4), (2, 4), (1, 7), (2, 7), (4, 7), (5, 7), (1, 10), (2, 10), (4, 10), (5, 10), (7, 10)]), (6, [(6, 8), (2, 15), (6, 15), (8, 15), (10, 15), (13, 15), (2, 17), (6, 17), (8, 17), (10, 17), (13, 17), (15, 17), (2, 26), (6, 26), (8, 26), (10, 26), (13, 26), (15, 26), (17, 26), (18, 26), (21, 26), (24, 26)])],
  [],
  [],
  [],
  [(3, [(1, 2), (1, 5)])],
  [(5, [(2, 6)]), (16, [(0, 1), (0, 5), (1, 5), (0, 6)]), (18, [(3, 7), (4, 7)])],
  [],
  [],
  [(1, [(0, 8), (3, 8), (7, 8), (0, 10), (3, 10), (7, 10), (8, 10), (0, 13), (3, 13), (7, 13), (8, 13), (0, 17), (3, 17), (7, 17), (8, 17), (0, 18), (3, 18), (7, 18), (8, 18), (10, 18), (13, 18), (17, 18)])],
  [],
  [],
  [(5, [(0, 1), (0, 4), (0, 7), (0, 11), (1, 11), (4, 11), (7, 11), (0, 12), (1, 12), (4, 12), (7, 12), (0, 13)])],
  [],
  [(1, [(4, 8), (4, 12), (8, 12), (4, 17), (8, 17), (12, 17), (14, 17), (4, 22), (8, 22), (12, 22), (14, 22), (17, 22)])],
  [],
  [],
  [],
  [],
  [],
  [],
  [],
  [],
  [],
  [],
  [],
  [],
  [],
  [],
  [],
  [],
  [],
  [],
  []]
def lookP : List (Nat × List (Nat × Nat)) → Nat → List (Nat × Nat)
  | [], _ => []
  | (k, c) :: l, b => if k = b then c else lookP l b
def look : List (Nat × List Nat) → Nat → List Nat
  | [], _ => []
  | (k, c) :: l, b => if k = b then c else look l b
def hints : Ab.Hints := {
  take := fun f t => (takeT.getD f []).contains t
  clear := fun f b => look (clearT.getD f []) b
  precise := fun f => preciseT.contains f
  pairs := fun f b => lookP (pairsT.getD f []) b
  link := fun f t => (linkT.getD f []).contains t
  peek := fun f => peekT.contains f }
end Go.Proofs.Ytbcdgfgacigaoaa.Hn
end
section
namespace Go.Ab
open Go
variable {P : Program}
def sameVal : Value → Value → Bool
  | .int k n, .int k' n' => decide (k = k') && decide (n = n')
  | .bool b, .bool b' => b == b'
  | .slice none 0 0, .slice none 0 0 => true
  | _, _ => false
mutual
def V.same : V → V → Bool
  | .val a, .val b => sameVal a b
  | .sl f c l, .sl f' c' l' => decide (f = f') && c == c' && sameL l l'
  | .agg l, .agg l' => sameL l l'
  | .tuple l, .tuple l' => sameL l l'
  | _, _ => false
def sameL : List V → List V → Bool
  | [], [] => true
  | x :: l, y :: l' => x.same y && sameL l l'
  | _, _ => false
end
theorem sameVal_eq {a b : Value} (h : sameVal a b = true) : a = b := by
  unfold sameVal at h
  split at h <;> simp_all
mutual
theorem same_eq : ∀ (x y : V), x.same y = true → x = y
  | .val a, y, h => by cases y <;> simp only [V.same] at h <;> first | (rw [sameVal_eq h]) | cases h
  | .sl f c l, y, h => by
    cases y <;> simp only [V.same] at h <;> try (cases h; done)
    simp only [Bool.and_eq_true, decide_eq_true_eq, beq_iff_eq] at h
    rw [h.1.1, h.1.2, sameL_eq _ _ h.2]
  | .agg l, y, h => by
    cases y <;> simp only [V.same] at h <;> try (cases h; done)
    rw [sameL_eq _ _ h]
  | .tuple l, y, h => by
    cases y <;> simp only [V.same] at h <;> try (cases h; done)
    rw [sameL_eq _ _ h]
  | .undef, y, h | .ptr .., y, h | .cptr .., y, h | .fn .., y, h | .yld _, y, h | .iface .., y, h | .lp .., y, h | .room .., y, h => by cases y <;> simp [V.same] at h
theorem sameL_eq : ∀ (l m : List V), sameL l m = true → l = m
  | [], [], _ => rfl
  | [], y :: m, h => by simp [sameL] at h
  | x :: l, [], h => by simp [sameL] at h
  | x :: l, y :: m, h => by
    simp only [sameL, Bool.and_eq_true] at h
    rw [same_eq x y h.1, sameL_eq l m h.2]
end
structure Ran where
  g : FuncId
  args : List V
  r : V
def libOf (t : List Ran) (g : FuncId) : Option (List V → Option V) :=
  if t.any (fun e => decide (e.g = g)) then some (fun args => (t.find? fun e => decide (e.g = g) && sameL e.args args).map (·.r)) else none
theorem libOf_ok {t : List Ran} (h : ∀ e ∈ t, CallOk P e.g e.args [] e.r []) : ∀ g f args r, libOf t g = some f → f args = some r → CallOk P g args [] r [] := by
  intro g f args r hf hr
  unfold libOf at hf
  split at hf
  · cases hf
    obtain ⟨e, he, rfl⟩ := Option.map_eq_some_iff.1 hr
    have h1 := List.find?_some he
    simp only [Bool.and_eq_true, decide_eq_true_eq] at h1
    rw [← h1.1, ← sameL_eq _ _ h1.2]
    exact h e (List.mem_of_find?_eq_some he)
  · cases hf
theorem ran_ok {H : Hints} (hm : P.follows .mixedOrders = true) (hname : ∀ (g : FuncId) (fn : Func), P.funcs[g]? = some fn → fn.body.isSome = true → (fn.name == "runtime.NumGoroutine") = false) {t : List Ran} (ht : ∀ e ∈ t, CallOk P e.g e.args [] e.r []) (n : Nat) (e : Ran)
    (h : (match (orcN P H (libOf t) n).call e.g e.args [] with | some (r, []) => r.same e.r | _ => false) = true) : CallOk P e.g e.args [] e.r [] := by
  split at h
  · rename_i r hr
    rw [← same_eq _ _ h]
    exact (orcN_ok hm hname (libOf_ok ht) n).call _ _ _ _ _ hr
  · cases h
end Go.Ab
end
section
namespace Go.Proofs.Ytbcdgfgacigaoaa
open Go Go.Ab
theorem follows : Try.prog.follows .mixedOrders = true := by kernel_rfl
theorem namesOk : (Try.prog.funcs.toList.all fun fn => !fn.body.isSome || !(fn.name == "runtime.NumGoroutine")) = true := by kernel_rfl
theorem hname : ∀ (g : FuncId) (fn : Func), Try.prog.funcs[g]? = some fn → fn.body.isSome = true → (fn.name == "runtime.NumGoroutine") = false := fun g fn h hb => by
  have := List.all_eq_true.1 namesOk fn (by rw [Array.mem_toList_iff]; exact Array.mem_of_getElem? h)
  rw [hb] at this
  simpa using this
def vi (n : Int) : V := .val (.int .i64 n)
def r0 : Ran := ⟨35, [.sl .shared false [.sl .shared false [.agg [vi (1), vi (0)], .agg [vi (0), vi (1)]], .sl .shared false [.agg [vi (0), vi (0)], .agg [vi (2), vi (0)]]]], .tuple [.agg [vi (2), .sl .own false [.sl .own false [.agg [vi (2), vi (0)], .agg [vi (0), vi (-1)]], .sl .own false [.agg [vi (0), vi (0)], .agg [vi (1), vi (0)]]]], vi (0)]⟩
theorem r0_ok : CallOk Try.prog r0.g r0.args [] r0.r [] := ran_ok (t := []) (H := Hn.hints) follows hname (by simp) 200 r0 (by kernel_rfl)
def r1 : Ran := ⟨37, [.agg [.sl .shared false [.sl .shared false [.agg [vi (1), vi (0)]], .sl .shared false [.agg [vi (0), vi (1)]], .sl .shared false [.agg [vi (2), vi (0)]]], .sl .shared false [.sl .shared false [.agg [vi (2), vi (0)]], .sl .shared false [.agg [vi (0), vi (2)]], .sl .shared false [.agg [vi (5), vi (0)]]]], vi (0)], .tuple [.agg [vi (98), vi (99)], vi (0)]⟩
theorem r1_ok : CallOk Try.prog r1.g r1.args [] r1.r [] := ran_ok (t := []) (H := Hn.hints) follows hname (by simp) 200 r1 (by kernel_rfl)
def r2 : Ran := ⟨39, [.agg [.sl .shared false [.sl .shared false [.agg [vi (2), vi (0)]]], .sl .shared false [.sl .shared false [.agg [vi (1), vi (0)]]], vi (1), vi (2), vi (3)], .sl .shared false [.agg [vi (10), vi (0)]], .sl .shared false [.agg [vi (0), vi (0)]], vi (0)], .tuple [vi (2), vi (0)]⟩
theorem r2_ok : CallOk Try.prog r2.g r2.args [] r2.r [] := ran_ok (t := []) (H := Hn.hints) follows hname (by simp) 200 r2 (by kernel_rfl)
def r3 : Ran := ⟨8, [.sl .shared false [vi (2), vi (-2), vi (1)]], .tuple [.sl .own false [.sl .dull false [vi (2), vi (-2), vi (1)], .sl .dull false [vi (3), vi (-2)], .sl .own false [vi (1)]], vi (0)]⟩
theorem r3_ok : CallOk Try.prog r3.g r3.args [] r3.r [] := ran_ok (t := []) (H := Hn.hints) follows hname (by simp) 200 r3 (by kernel_rfl)
def r4 : Ran := ⟨29, [.agg [.sl .shared false [vi (4), vi (0), vi (0)], .sl .shared false [vi (0), vi (0), vi (1)], vi (1), vi (6)]], .tuple [vi (4), vi (0)]⟩
theorem r4_ok : CallOk Try.prog r4.g r4.args [] r4.r [] := ran_ok (t := []) (H := Hn.hints) follows hname (by simp) 200 r4 (by kernel_rfl)
def rs : List Ran := [r0, r1, r2, r3, r4]
theorem rs_ok : ∀ e ∈ rs, CallOk Try.prog e.g e.args [] e.r [] := by
  intro e he
  simp only [rs, List.mem_cons, List.mem_nil_iff, or_false] at he
  rcases he with rfl | rfl | rfl | rfl | rfl
  · exact r0_ok
  · exact r1_ok
  · exact r2_ok
  · exact r3_ok
  · exact r4_ok
def aw : Ran := ⟨7, [], .val (.bool true)⟩
theorem awake_ok : CallOk Try.prog 7 [] [] (.val (.bool true)) [] := ran_ok (H := Hn.hints) follows hname rs_ok 200 aw (by kernel_rfl)
end Go.Proofs.Ytbcdgfgacigaoaa
end
section
set_option linter.unusedVariables false
namespace Go.Tx
open Go Go.Ab Go.RowKit Go.ChangeShapes Go.WideShapes Go.Deep
section
variable {H : Type} {enc : TypeId × Value → H} {P : Program}
theorem post_of_below {f : Func} {s : ChangeSpec} {apart fresh handsOn again : Bool} {W W' : World} {args : Array Value} {v : Value} {ds gs : List (DataW H)} {before pa pv : List MemPlace}
    (hW : DataW.Whole enc P f.params.toList s.vars apart W args.toList ds gs before)
    (hres : ∀ (b : Nat) (sp : Nat → Bool) (hd : Bool), DataW.TrodAll enc P W' b sp hd f.resultTypes.toList (v.resultList f.resultTypes.size) (s.fn H (ds ++ gs)).results [])
    (hargs : ∀ sp : Nat → Bool, (∀ p ∈ before, sp p.block = true) → DataW.TrodAll enc P W' 0 sp true f.params.toList args.toList (s.fn H (ds ++ gs)).args pa)
    (hvars : ∀ sp : Nat → Bool, (∀ p ∈ before, sp p.block = true) → DataW.TrodVars enc P W' sp s.vars (s.fn H (ds ++ gs)).vars pv)
    (hps : before = pa ++ pv) (hb : Below W.heap.size W W')
    (hok : ∀ (j : Nat) (t : TypeId) (r : Value), f.resultTypes[j]? = some t → (v.resultList f.resultTypes.size)[j]? = some r → Value.okWide P W' .any 0 t r) :
    s.post enc P f apart fresh handsOn again W args v W' := by
  have hlt : ∀ p ∈ before, p.block < W.heap.size := fun p hp => hW.lt p hp
  have hold : ∀ p ∈ before, (fun b => decide (b < W.heap.size)) p.block = true := fun p hp => by simpa using hlt p hp
  refine ⟨ds, gs, before, [], pa, pv, hW, hres _ _ _, hargs _ hold, hvars _ hold, World.keptBut_mono (fun p hp => ⟨hp, ?_⟩) (hb.frame (· ∈ before)), fun _ => ?_⟩
  · rw [hps, List.mem_append] at hp
    exact Or.inr hp
  · obtain ⟨_, _, _, _, _, hz, hn⟩ := hW
    refine ⟨hok, _, _, ([] ++ pa) ++ pv, ⟨[] ++ pa, pv, trodAll_append (hargs _ (fun _ _ => rfl)) (hres _ _ _), hvars _ (fun _ _ => rfl), rfl, ?_, ?_⟩, ?_⟩
    · intro b off hp
      have hin : MemPlace.cell b off ∈ before := by rw [hps]; simpa using hp
      rw [hb.frozen (hlt _ hin)]
      exact hz b off hin
    · intro ha
      have := hn ha
      rw [hps] at this
      simpa using this
    · intro p hp _
      rw [hps]
      simpa using hp
theorem trodAll_len : ∀ {ts : List TypeId} {vs : List Value} {ds : List (DataW H)} {ps : List MemPlace} {w : World} {b : Nat} {sp : Nat → Bool} {hd : Bool}, DataW.TrodAll enc P w b sp hd ts vs ds ps → ds.length = ts.length
  | [], [], [], _, _, _, _, _, _ => rfl
  | [], [], d :: ds, _, _, _, _, _, h => h.elim
  | [], v :: vs, _, _, _, _, _, _, h => by cases h
  | t :: ts, [], _, _, _, _, _, _, h => by cases h
  | t :: ts, v :: vs, [], _, _, _, _, _, h => by cases h
  | t :: ts, v :: vs, d :: ds, ps, w, b, sp, hd, ⟨p, q, h1, h2, e⟩ => by simp [trodAll_len h2]
end
theorem sm_all {H : Type} : Sm (H := H) maxLen (fun _ => True) where
  slice := fun es sp _ h => ⟨h, fun _ _ => trivial⟩
  agg := fun _ _ _ _ => trivial
  str := fun _ _ h => h
theorem law_contract {P : Program} {H0 : Hints} {lib : FuncId → Option (List V → Option V)} (hm : P.follows .mixedOrders = true) (hname : ∀ (g : FuncId) (fn : Func), P.funcs[g]? = some fn → fn.body.isSome = true → (fn.name == "runtime.NumGoroutine") = false)
    (hlib : ∀ g h args r, lib g = some h → h args = some r → CallOk P g args [] r []) (hl : laidOutB P = true) {k : FuncId} {fn : Func} (hfn : P.funcs[k]? = some fn) (hbody : fn.body.isSome = true)
    {ts : List TypeId} {τs : List Ty} (hps : fn.params.toList = ts) (hts : ts.mapM (tyOf P) = some τs) (hok : ts.all (okT P 10) = true) (hrd : ts.all (fun t => P.readableRec t && decide (t < P.types.size)) = true)
    {tb : TypeId} (hres : fn.resultTypes = #[tb]) (htb : P.underlying tb = some .bool) {F : denP (τs.map .ty) → Option Bool}
    (he : EntryOk P H0 lib ⟨k, τs.map .ty, [(.bool, 0)], F⟩) (hF : ∀ x, RngP maxLen τs x → F x = some true)
    {s : ChangeSpec} (hv : s.vars = []) (hs : ∀ (H : Type) (ds : List (DataW H)), ds.length = ts.length → s.fn H ds = { results := [.lit (.bool true)], args := ds })
    (H : Type) (enc : TypeId × Value → H) (W : World) (base : Nat) (args : Array Value) (ds gs : List (DataW H)) (before : List MemPlace)
    (hval : ∀ (j : Nat) t v, fn.params[j]? = some t → args[j]? = some v → Value.okWide P W .any base t v)
    (hW : DataW.Whole enc P fn.params.toList s.vars false W args.toList ds gs before) :
    Calls P k args W fun e W' => ∃ v, e = .returned v ∧ s.post enc P fn false true false false W args v W' := by
  have hW' := hW
  have hlt : ∀ p ∈ before, p.block < W.heap.size := fun p hp => hW.lt p hp
  obtain ⟨p, q, hA, hV, rfl, hfz, hnd⟩ := hW
  rw [hv] at hV
  obtain ⟨rfl, rfl⟩ := trodVars_none hV
  rw [hps] at hA
  have hlen := trodAll_len hA
  have hval' : ∀ (j : Nat) t v, ts[j]? = some t → args.toList[j]? = some v → Value.okWide P W .any base t v := fun j t v h1 h2 =>
    hval j t v (by rw [← hps] at h1; simpa using h1) (by simpa using h2)
  refine (law_calls hm hname hlib hl sm_all hfn hbody hts hok he hF hval' hA (fun _ _ => trivial)).mono fun e W' ⟨h1, hb⟩ => ?_
  subst h1
  have hfs : s.fn H (ds ++ []) = { results := [.lit (.bool true)], args := ds } := by rw [List.append_nil]; exact hs H ds hlen
  refine ⟨_, rfl, post_of_below (pa := p) (pv := []) hW' ?_ ?_ ?_ rfl hb ?_⟩
  · intro b sp hd
    rw [hfs, hres]
    exact trodAll_mk1 (shut_bool htb true)
  · intro sp hsp
    rw [hfs, hps]
    exact trodAll_below hl hb hrd hA (fun x hx => hlt x (by simpa using hx)) sp (fun x hx => hsp x (by simpa using hx))
  · intro sp _
    rw [hfs, hv]
    rfl
  · exact ok_one hres rfl (okWide_bool_mk htb true)
end Go.Tx
namespace Go.Proofs.Ytbcdgfgacigaoaa
open Go Go.Ab Go.Tx
theorem own : ownKnob Try.prog.godebug = none := by kernel_rfl
theorem laid_out : laidOutB Try.prog = true := by kernel_rfl
end Go.Proofs.Ytbcdgfgacigaoaa
end
section
set_option linter.unusedVariables false
namespace Go.Tx
open Go
theorem wrap_id {n : Int} (h1 : -9223372036854775808 ≤ n) (h2 : n ≤ 9223372036854775807) : IntKind.wrap .i64 n = n := by
  rw [IntKind.wrap_i64]; omega
theorem idx_of {α : Type} {l : List α} {i : Nat} {a : α} (h : l[i]? = some a) : idx l (i : Int) = some a := by simp [idx, h]
theorem app_of {α : Type} {l l2 : List α} (h : l.length + l2.length ≤ 4294967296) : app l l2 = some (l ++ l2) := by simp [app, h]
section
variable {σ ρ : Type} {f : σ → Option (σ ⊕ ρ)}
theorem loopN_mono : ∀ {n m : Nat} {s : σ} {r : ρ}, loopN f n s = some r → n ≤ m → loopN f m s = some r
  | 0, m, s, r, h, _ => by simp [loopN] at h
  | n + 1, 0, s, r, h, hm => by omega
  | n + 1, m + 1, s, r, h, hm => by
    simp only [loopN] at h ⊢
    cases hf : f s with
    | none => rw [hf] at h; cases h
    | some x =>
      rw [hf] at h
      cases x with
      | inl s' => exact loopN_mono h (by omega)
      | inr r' => exact h
theorem loopO_of {n : Nat} {s : σ} {r : ρ} (h : loopN f n s = some r) : loopO f s = some r := by
  have hex : ∃ n r, loopN f n s = some r := ⟨n, r, h⟩
  cases hl : loopO f s with
  | none => exfalso; unfold loopO at hl; rw [dif_pos hex] at hl; cases hl
  | some r' =>
    obtain ⟨m, hm⟩ := loopO_some hl
    have h1 := loopN_mono h (Nat.le_max_left n m)
    have h2 := loopN_mono hm (Nat.le_max_right n m)
    rw [← h1, ← h2]
theorem loopO_inl {s s' : σ} (h : f s = some (.inl s')) : loopO f s = loopO f s' := by
  cases hl : loopO f s' with
  | some r =>
    obtain ⟨n, hn⟩ := loopO_some hl
    exact loopO_of (n := n + 1) (by simp [loopN, h, hn])
  | none =>
    cases hl2 : loopO f s with
    | none => rfl
    | some r =>
      obtain ⟨n, hn⟩ := loopO_some hl2
      cases n with
      | zero => simp [loopN] at hn
      | succ n =>
        simp only [loopN, h] at hn
        rw [loopO_of hn] at hl
        cases hl
theorem loopO_inr {s : σ} {r : ρ} (h : f s = some (.inr r)) : loopO f s = some r := loopO_of (n := 1) (by simp [loopN, h])
theorem loop_inv (n : Nat) (I : Nat → σ → Prop) (Q : ρ → Prop)
    (hs : ∀ i s, i ≤ n → I i s → (∃ s', f s = some (.inl s') ∧ i < n ∧ I (i + 1) s') ∨ (∃ r, f s = some (.inr r) ∧ Q r)) {s : σ} (h0 : I 0 s) : ∃ r, loopO f s = some r ∧ Q r := by
  have h : ∀ k i s, n - i = k → i ≤ n → I i s → ∃ r, loopO f s = some r ∧ Q r := by
    intro k
    induction k with
    | zero =>
      intro i s hk hi hI
      rcases hs i s hi hI with ⟨s', _, h, _⟩ | ⟨r, h, hq⟩
      · omega
      · exact ⟨r, loopO_inr h, hq⟩
    | succ k ih =>
      intro i s hk hi hI
      rcases hs i s hi hI with ⟨s', h, hlt, hI'⟩ | ⟨r, h, hq⟩
      · obtain ⟨r, hr, hq⟩ := ih (i + 1) s' (by omega) (by omega) hI'
        exact ⟨r, by rw [loopO_inl h, hr], hq⟩
      · exact ⟨r, loopO_inr h, hq⟩
  exact h n 0 s (by omega) (by omega) h0
end
def findI {α ρ : Type} (g : Nat → α → Option ρ) : Nat → List α → Option ρ
  | _, [] => none
  | k, a :: l => match g k a with
    | some r => some r
    | none => findI g (k + 1) l
def toSum {ρ : Type} : Option ρ → Unit ⊕ ρ
  | some r => .inr r
  | none => .inl ()
def stp {ρ : Type} (i : Nat) : Option ρ → Int ⊕ (Unit ⊕ ρ)
  | some r => .inr (.inr r)
  | none => .inl ((i : Int) + 1)
theorem loop_list {α ρ : Type} (l : List α) {f : Int → Option (Int ⊕ (Unit ⊕ ρ))} (g : Nat → α → Option ρ)
    (h : ∀ (i : Nat) (a : α), l[i]? = some a → f i = some (stp i (g i a)))
    (he : f l.length = some (.inr (.inl ()))) : loopO f 0 = some (toSum (findI g 0 l)) := by
  have key : ∀ (l2 l1 : List α), l1 ++ l2 = l → loopO f (l1.length : Nat) = some (toSum (findI g l1.length l2)) := by
    intro l2
    induction l2 with
    | nil =>
      intro l1 e
      have : l1 = l := by simpa using e
      subst this
      rw [loopO_inr he]; rfl
    | cons a l2 ih =>
      intro l1 e
      have hi : l[l1.length]? = some a := by rw [← e]; simp
      have hf := h _ _ hi
      simp only [findI]
      cases hg : g l1.length a with
      | some r => rw [hg] at hf; rw [loopO_inr hf]; rfl
      | none =>
        rw [hg] at hf
        rw [loopO_inl hf]
        have := ih (l1 ++ [a]) (by simp [e])
        simpa using this
  simpa using key l [] rfl
end Go.Tx
end
section
set_option linter.unusedVariables false
namespace Go.Tx
open Go
def Ok {α : Type} (o : Option α) (Q : α → Prop) : Prop := ∃ a, o = some a ∧ Q a
section
variable {α β σ ρ τ : Type}
theorem ok_some {a : α} {Q : α → Prop} : Ok (some a) Q ↔ Q a := ⟨fun ⟨_, h, hq⟩ => by cases h; exact hq, fun h => ⟨a, rfl, h⟩⟩
theorem ok_none {Q : α → Prop} : Ok (none : Option α) Q ↔ False := ⟨fun ⟨_, h, _⟩ => (by cases h), fun h => h.elim⟩
theorem ok_eq {o : Option α} {a : α} : Ok o (fun r => r = a) ↔ o = some a := ⟨fun ⟨_, h, hq⟩ => by rw [h, hq], fun h => ⟨a, h, rfl⟩⟩
theorem Ok.eq {o : Option α} {a : α} (h : Ok o (fun r => r = a)) : o = some a := ok_eq.1 h
theorem Ok.mono {o : Option α} {P Q : α → Prop} (h : Ok o P) (hq : ∀ a, P a → Q a) : Ok o Q := by obtain ⟨a, h1, h2⟩ := h; exact ⟨a, h1, hq a h2⟩
theorem Ok.bind {o : Option α} {k : α → Option β} {P : α → Prop} {Q : β → Prop} (h : Ok o P) (hk : ∀ a, P a → Ok (k a) Q) : Ok (o.bind k) Q := by
  obtain ⟨a, h1, h2⟩ := h; rw [h1]; exact hk a h2
theorem ok_bind {o : Option α} {k : α → Option β} {Q : β → Prop} : Ok (o.bind k) Q ↔ Ok o fun a => Ok (k a) Q := by
  cases o with
  | none => simp [ok_none]
  | some a => simp [ok_some]
theorem idx_in {l : List α} {n : Int} (d : α) (h0 : 0 ≤ n) (h1 : n < l.length) : idx l n = some (l.getD n.toNat d) := by
  unfold idx
  rw [if_pos h0]
  have : n.toNat < l.length := by omega
  simp [this]
theorem idx_int {l : List Int} {n : Int} (h0 : 0 ≤ n) (h1 : n < l.length) : idx l n = some (l.getD n.toNat 0) := idx_in 0 h0 h1
theorem idx_nil {l : List (List α)} {n : Int} (h0 : 0 ≤ n) (h1 : n < l.length) : idx l n = some (l.getD n.toNat []) := idx_in [] h0 h1
theorem app_in {l l2 : List α} (h : l.length + l2.length ≤ 4294967296) : app l l2 = some (l ++ l2) := app_of h
theorem app_one {l : List α} {a : α} (h : l.length ≤ 4294967295) : app l [a] = some (l ++ [a]) := app_of (by simp; omega)
theorem app_nil {l2 : List α} (h : l2.length ≤ 4294967296) : app [] l2 = some l2 := by rw [app_of (by simpa using h)]; rfl
def Rnd (o : Option (σ ⊕ ρ)) (I : σ → Prop) (Q : ρ → Prop) : Prop := Ok o fun x => match x with
  | .inl s => I s
  | .inr r => Q r
theorem rnd_inl {s : σ} {I : σ → Prop} {Q : ρ → Prop} : Rnd (some (.inl s)) I Q ↔ I s := ok_some
theorem rnd_inr {r : ρ} {I : σ → Prop} {Q : ρ → Prop} : Rnd (some (.inr r) : Option (σ ⊕ ρ)) I Q ↔ Q r := ok_some
theorem loop_up {f : σ → Option (σ ⊕ ρ)} (n : Nat) (I : Nat → σ → Prop) (Q : ρ → Prop) {s : σ} (h0 : I 0 s)
    (hs : ∀ i s, i ≤ n → I i s → Rnd (f s) (fun s' => i < n ∧ I (i + 1) s') Q) : Ok (loopO f s) Q := by
  obtain ⟨r, h1, h2⟩ := loop_inv n I Q (fun i s hi hI => by
    obtain ⟨x, hx, h⟩ := hs i s hi hI
    cases x with
    | inl s' => exact .inl ⟨s', hx, h⟩
    | inr r => exact .inr ⟨r, hx, h⟩) h0
  exact ⟨r, h1, h2⟩
end
theorem getD_at {α : Type} {l : List α} {i : Nat} {a d : α} (h : l[i]? = some a) : l.getD i d = a := by simp [h]
theorem take_next {α : Type} {l : List α} {i : Nat} (d : α) (h : i < l.length) : l.take (i + 1) = l.take i ++ [l.getD i d] := by
  rw [List.take_add_one]; simp [h]
end Go.Tx
end
section
set_option linter.unusedVariables false
namespace Go.Tx
open Go
section
variable {α β ρ τ : Type}
theorem len_lt {l : List α} {i : Nat} {a : α} (h : l[i]? = some a) : i < l.length := (List.getElem?_eq_some_iff.1 h).1
theorem for_find (l : List α) (K : Int → Option (Int ⊕ (Unit ⊕ ρ))) (g : Nat → α → Option ρ) (h : ∀ (i : Nat) (a : α), l[i]? = some a → K i = some (stp i (g i a))) :
    loopO (fun s => bif decide (s < (l.length : Int)) then K s else some (.inr (.inl ()))) 0 = some (toSum (findI g 0 l)) := by
  refine loop_list l g (fun i a hi => ?_) ?_
  · have := len_lt hi
    have e : decide ((i : Int) < (l.length : Int)) = true := by simp <;> omega
    simp only [e, cond_true]
    exact h i a hi
  · simp
theorem elim_toSum {o : Option ρ} {k : Unit → Option ρ} : (some (toSum o)).bind (Sum.elim k some) = (match o with
    | some r => some r
    | none => k ()) := by cases o <;> rfl
theorem findI_none {g : Nat → α → Option ρ} : ∀ {l : List α} {k : Nat}, findI g k l = none ↔ ∀ i a, l[i]? = some a → g (k + i) a = none
  | [], k => by simp [findI]
  | a :: l, k => by
    simp only [findI]
    cases hg : g k a with
    | some r =>
      simp only [reduceCtorEq, false_iff]
      intro h
      have := h 0 a rfl
      simp [hg] at this
    | none =>
      simp only
      rw [findI_none (l := l) (k := k + 1)]
      constructor
      · intro h i b hb
        cases i with
        | zero => simp at hb; subst hb; simpa using hg
        | succ i => have := h i b (by simpa using hb); rw [← this]; congr 1; omega
      · intro h i b hb
        have := h (i + 1) b (by simpa using hb)
        rw [← this]; congr 1; omega
theorem findI_some {g : Nat → α → Option ρ} {r : ρ} : ∀ {l : List α} {k : Nat}, findI g k l = some r → ∃ i a, l[i]? = some a ∧ g (k + i) a = some r ∧ ∀ j b, j < i → l[j]? = some b → g (k + j) b = none
  | [], k, h => by simp [findI] at h
  | a :: l, k, h => by
    simp only [findI] at h
    cases hg : g k a with
    | some r' =>
      rw [hg] at h
      simp only [Option.some.injEq] at h
      subst h
      exact ⟨0, a, rfl, by simpa using hg, fun j b hj => by omega⟩
    | none =>
      rw [hg] at h
      obtain ⟨i, b, h1, h2, h3⟩ := findI_some (l := l) (k := k + 1) h
      refine ⟨i + 1, b, by simpa using h1, by rw [← h2]; congr 1; omega, fun j c hj hc => ?_⟩
      cases j with
      | zero => simp at hc; subst hc; simpa using hg
      | succ j => have := h3 j c (by omega) (by simpa using hc); rw [← this]; congr 1; omega
theorem for_any (l : List α) (pf : α → Option Bool) (p : α → Bool) (h : ∀ x ∈ l, pf x = some (p x)) (hl : l.length ≤ 1000000000) :
    ((loopO (fun (s2 : Int) =>
      bif decide (s2 < (l.length : Int)) then
        (idx l s2).bind fun x3 =>
        (pf x3).bind fun x4 =>
        bif x4 then
          some (.inr (.inr s2))
        else
          some (.inl (IntKind.wrap .i64 (s2 + 1)))
      else
        some (.inr (.inl ()))) 0).bind (Sum.elim (fun (p5 : Unit) =>
    some (-1)) some)).bind (fun x1 => some (decide (x1 ≥ 0))) = some (l.any p) := by
  rw [for_find l _ (fun i a => if p a then some (i : Int) else none) (fun i a hi => by
    have := len_lt hi
    rw [idx_of hi]
    simp only [Option.bind_some]
    rw [h a (List.mem_of_getElem? hi)]
    simp only [Option.bind_some]
    cases hp : p a
    · simp only [cond_false, Bool.false_eq_true, if_false, stp]; rw [wrap_id (by omega) (by omega)]
    · simp [stp]), elim_toSum]
  cases hf : findI (fun i a => if p a then some (i : Int) else none) 0 l with
  | none =>
    rw [findI_none] at hf
    have : l.any p = false := by
      rw [List.any_eq_false]
      intro x hx
      obtain ⟨i, hi⟩ := List.mem_iff_getElem?.1 hx
      have := hf i x hi
      simpa using this
    rw [this]; rfl
  | some r =>
    obtain ⟨i, a, h1, h2, _⟩ := findI_some hf
    have hp : p a = true := by
      cases hp : p a
      · simp [hp] at h2
      · rfl
    have : l.any p = true := List.any_eq_true.2 ⟨a, List.mem_of_getElem? h1, hp⟩
    rw [this]
    simp only [hp, if_true, Option.some.injEq] at h2
    simp only [Option.bind_some]
    have : decide (r ≥ 0) = true := by simp <;> omega
    rw [this]
def fst0 : List Int → Int
  | [] => 0
  | e :: l => if e = 0 then fst0 l else e
theorem findI_fst0 : ∀ (l : List Int) (k : Nat), findI (fun _ e => if e = 0 then none else some e) k l = if fst0 l = 0 then none else some (fst0 l)
  | [], k => rfl
  | e :: l, k => by
    simp only [findI, fst0]
    by_cases h : e = 0
    · simp only [h, if_true]; exact findI_fst0 l (k + 1)
    · simp [h]
theorem for_first (l : List Int) (hl : l.length ≤ 1000000000) :
    (loopO (fun (s2 : Int) =>
      bif decide (s2 < (l.length : Int)) then
        (idx l s2).bind fun x3 =>
        bif !(decide (x3 = 0)) then
          some (.inr (.inr x3))
        else
          some (.inl (IntKind.wrap .i64 (s2 + 1)))
      else
        some (.inr (.inl ()))) 0).bind (Sum.elim (fun (p4 : Unit) => some 0) some) = some (fst0 l) := by
  rw [for_find l _ (fun _ e => if e = 0 then none else some e) (fun i a hi => by
    have := len_lt hi
    rw [idx_of hi]
    simp only [Option.bind_some]
    by_cases h : a = 0
    · simp only [h, decide_true, Bool.not_true, cond_false, if_true, stp]; rw [wrap_id (by omega) (by omega)]
    · simp [h, stp]), elim_toSum, findI_fst0]
  by_cases h : fst0 l = 0
  · simp [h]
  · simp [h]
end
end Go.Tx
end
section
set_option linter.unusedVariables false
namespace Go.Tx
open Go
theorem euclid_loop {f : Int × Int → Option ((Int × Int) ⊕ Int)} (hf : ∀ s, f s = if s.2 = 0 then some (.inr s.1) else some (.inl (s.2, s.1.tmod s.2))) : ∀ (n : Nat) (a b : Int), b.natAbs ≤ n → ∃ r, loopO f (a, b) = some r ∧ r.natAbs = Int.gcd a b := by
  intro n
  induction n with
  | zero =>
    intro a b hb
    have : b = 0 := by omega
    subst this
    exact ⟨a, loopO_inr (by rw [hf]; simp), by simp⟩
  | succ n ih =>
    intro a b hb
    by_cases h0 : b = 0
    · subst h0
      exact ⟨a, loopO_inr (by rw [hf]; simp), by simp⟩
    · have hlt : (a.tmod b).natAbs < b.natAbs := by
        rw [Int.natAbs_tmod]; exact Nat.mod_lt _ (by omega)
      obtain ⟨r, h1, h2⟩ := ih b (a.tmod b) (by omega)
      refine ⟨r, by rw [loopO_inl (s' := (b, a.tmod b)) (by rw [hf]; simp [h0])]; exact h1, ?_⟩
      rw [h2]
      unfold Int.gcd
      rw [Int.natAbs_tmod, Nat.gcd_comm, ← Nat.gcd_rec, Nat.gcd_comm]
def gcdF : Nat → List Int → Nat
  | g, [] => g
  | g, n :: l => gcdF (Nat.gcd g n.natAbs) l
def gcdL (l : List Int) : Nat := gcdF 0 l
theorem gcdF_snoc (g : Nat) (n : Int) : ∀ (l : List Int), gcdF g (l ++ [n]) = Nat.gcd (gcdF g l) n.natAbs := by
  intro l
  induction l generalizing g with
  | nil => rfl
  | cons m l ih => simp only [List.cons_append, gcdF]; exact ih _
theorem gcdL_two (a b : Int) : gcdL [a, b] = Int.gcd a b := by simp [gcdL, gcdF, Int.gcd]
theorem gcdF_le {B : Nat} : ∀ {l : List Int} {g : Nat}, g ≤ B → (∀ x ∈ l, x.natAbs ≤ B) → gcdF g l ≤ B
  | [], g, hg, _ => hg
  | n :: l, g, hg, h => by
    simp only [gcdF]
    refine gcdF_le ?_ fun x hx => h x (by simp [hx])
    have h1 := h n (by simp)
    by_cases hg0 : g = 0
    · subst hg0; simpa using h1
    · exact Nat.le_trans (Nat.le_of_dvd (by omega) (Nat.gcd_dvd_left g n.natAbs)) hg
theorem gcdF_zero : ∀ {l : List Int} {g : Nat}, gcdF g l = 0 ↔ g = 0 ∧ ∀ x ∈ l, x = 0
  | [], g => by simp [gcdF]
  | n :: l, g => by
    simp only [gcdF, gcdF_zero (l := l), Nat.gcd_eq_zero_iff, List.mem_cons, forall_eq_or_imp]
    constructor
    · rintro ⟨⟨h1, h2⟩, h3⟩; exact ⟨h1, by omega, h3⟩
    · rintro ⟨h1, h2, h3⟩; exact ⟨⟨h1, by omega⟩, h3⟩
theorem gcdF_dvd_start : ∀ (l : List Int) (g : Nat), gcdF g l ∣ g
  | [], g => Nat.dvd_refl g
  | n :: l, g => Nat.dvd_trans (gcdF_dvd_start l _) (Nat.gcd_dvd_left ..)
theorem gcdF_dvd : ∀ {l : List Int} {g : Nat} {x : Int}, x ∈ l → ((gcdF g l : Nat) : Int) ∣ x
  | n :: l, g, x, hx => by
    rcases List.mem_cons.1 hx with rfl | hx
    · have h1 := Nat.dvd_trans (gcdF_dvd_start l (Nat.gcd g x.natAbs)) (Nat.gcd_dvd_right ..)
      exact Int.ofNat_dvd_left.2 h1
    · exact gcdF_dvd (l := l) hx
theorem divisor_loop (l : List Int) (hl : l.length ≤ 1000000000) (hb : ∀ x ∈ l, x.natAbs ≤ 4611686018427387904) :
    (loopO (fun (s2 : (Int × Int)) =>
      bif decide (s2.2 < (l.length : Int)) then
        (idx l s2.2).bind fun x3 =>
        (loopO (fun (s5 : (Int × Int)) =>
            bif !(decide (s5.2 = 0)) then
              bif decide (s5.2 = 0) then
                none
              else
                some (.inl (s5.2, s5.1.tmod s5.2))
            else
              some (.inr s5.1)) (s2.1, x3)).bind fun (p6 : Int) =>
        some (.inl (p6, IntKind.wrap .i64 (s2.2 + 1)))
      else
        some (.inr s2.1)) (0, 0)).bind (fun (p7 : Int) => some (max p7 (IntKind.wrap .i64 (0 - p7)))) = some (gcdL l : Int) := by
  refine Ok.eq ?_
  rw [ok_bind]
  refine (loop_up l.length (fun i (s : Int × Int) => s.2 = (i : Int) ∧ s.1.natAbs = gcdL (l.take i)) (fun r : Int => r.natAbs = gcdL l) ⟨rfl, rfl⟩ ?_).mono ?_
  · rintro i ⟨g, s⟩ hi ⟨h1, h2⟩
    simp only at h1 h2
    subst h1
    by_cases hlt : i < l.length
    · have e0 : decide ((i : Int) < (l.length : Int)) = true := by simp <;> omega
      simp only [e0, cond_true]
      rw [idx_in 0 (by omega) (by omega)]
      simp only [Option.bind_some, Int.toNat_natCast]
      obtain ⟨r, h3, h4⟩ := euclid_loop (f := fun (s5 : (Int × Int)) => bif !(decide (s5.2 = 0)) then bif decide (s5.2 = 0) then none else some (.inl (s5.2, s5.1.tmod s5.2)) else some (.inr s5.1)) (fun s => by
        by_cases h : s.2 = 0 <;> simp [h]) (l.getD i 0).natAbs g (l.getD i 0) (Nat.le_refl _)
      rw [h3]
      simp only [Option.bind_some]
      rw [wrap_id (by omega) (by omega), rnd_inl]
      refine ⟨hlt, by simp, ?_⟩
      rw [h4, take_next 0 hlt]
      unfold gcdL at h2 ⊢
      rw [gcdF_snoc, ← h2]
      rfl
    · have : i = l.length := by omega
      subst this
      have e0 : decide ((l.length : Int) < (l.length : Int)) = false := by simp
      simp only [e0, cond_false]
      rw [rnd_inr]
      simpa using h2
  · intro r hr
    have hle : gcdL l ≤ 4611686018427387904 := gcdF_le (by omega) hb
    rw [wrap_id (by omega) (by omega), ok_some]
    omega
theorem Gcd_loop (a b : Int) (ha : a.natAbs ≤ 4611686018427387904) (hb : b.natAbs ≤ 4611686018427387904) :
    Ok (loopO (fun (s2 : (Int × Int)) =>
      bif !(decide (s2.2 = 0)) then
        bif decide (s2.2 = 0) then
          none
        else
          some (.inl (s2.2, s2.1.tmod s2.2))
      else
        some (.inr s2.1)) (a, b)) fun r => r.natAbs = Int.gcd a b := by
  obtain ⟨r, h1, h2⟩ := euclid_loop (f := fun (s2 : (Int × Int)) => bif !(decide (s2.2 = 0)) then bif decide (s2.2 = 0) then none else some (.inl (s2.2, s2.1.tmod s2.2)) else some (.inr s2.1)) (fun s => by
    by_cases h : s.2 = 0 <;> simp [h]) b.natAbs a b (Nat.le_refl _)
  exact ⟨r, h1, h2⟩
theorem gcd_le {a b : Int} {B : Nat} (ha : a.natAbs ≤ B) (hb : b.natAbs ≤ B) : Int.gcd a b ≤ B := by
  have := gcdF_le (B := B) (l := [a, b]) (g := 0) (by omega) (by simp [ha, hb])
  have e := gcdL_two a b
  unfold gcdL at e
  omega
end Go.Tx
end
section
set_option linter.unusedVariables false
namespace Go.Tx
open Go
section
variable {α : Type}
theorem abs_mul_le {a b A B : Int} (h1 : -A ≤ a ∧ a ≤ A) (h2 : -B ≤ b ∧ b ≤ B) : -(A * B) ≤ a * b ∧ a * b ≤ A * B := by
  have hA : 0 ≤ A := by omega
  have hB : 0 ≤ B := by omega
  have e : (a * b).natAbs = a.natAbs * b.natAbs := Int.natAbs_mul a b
  have h3 : a.natAbs * b.natAbs ≤ A.natAbs * B.natAbs := Nat.mul_le_mul (by omega) (by omega)
  have h4 : ((A.natAbs * B.natAbs : Nat) : Int) = A * B := by
    rw [Int.natCast_mul]; congr 1 <;> omega
  omega
end
end Go.Tx
end
section
set_option linter.unusedVariables false
namespace Go.Tx
open Go
section
variable {α β : Type}
def mkL (n : Nat) (f : Nat → α) : List α := (List.range n).map f
theorem mkL_len (n : Nat) (f : Nat → α) : (mkL n f).length = n := by simp [mkL]
theorem mkL_get {n : Nat} (f : Nat → α) {k : Nat} (h : k < n) : (mkL n f)[k]? = some (f k) := by simp [mkL, h]
theorem mkL_getD {n : Nat} (f : Nat → α) {k : Nat} (d : α) (h : k < n) : (mkL n f).getD k d = f k := getD_at (mkL_get f h)
theorem mkL_succ (n : Nat) (f : Nat → α) : mkL (n + 1) f = mkL n f ++ [f n] := by simp [mkL, List.range_succ]
theorem mkL_mem {n : Nat} {f : Nat → α} {x : α} (h : x ∈ mkL n f) : ∃ k, k < n ∧ x = f k := by
  obtain ⟨k, hk, rfl⟩ := List.mem_map.1 h
  exact ⟨k, by simpa using hk, rfl⟩
theorem getD_mem {l : List α} {i : Nat} {d : α} (h : i < l.length) : l.getD i d ∈ l := by
  have : l[i]? = some (l.getD i d) := by simp [h]
  exact List.mem_of_getElem? this
theorem at_getD {l : List α} {i : Nat} (d : α) (h : i < l.length) : l[i]? = some (l.getD i d) := by simp [h]
theorem for_mk {K : List β × Int → Option ((List β × Int) ⊕ List β)} (n : Nat) (f : Nat → β)
    (h : ∀ i, i < n → K (mkL i f, (i : Int)) = some (.inl (mkL i f ++ [f i], (i : Int) + 1))) (he : K (mkL n f, (n : Int)) = some (.inr (mkL n f))) : loopO K ([], 0) = some (mkL n f) := by
  refine Ok.eq (loop_up n (fun i (s : List β × Int) => s = (mkL i f, (i : Int))) (fun r => r = mkL n f) rfl ?_)
  rintro i s hi rfl
  by_cases hlt : i < n
  · rw [h i hlt, rnd_inl]
    exact ⟨hlt, by rw [mkL_succ]; rfl⟩
  · have : i = n := by omega
    subst this
    rw [he, rnd_inr]
theorem for_map {K : List β × Int → Option ((List β × Int) ⊕ List β)} (l : List α) (f : α → β)
    (h : ∀ (i : Nat) a out, l[i]? = some a → out.length = i → K (out, (i : Int)) = some (.inl (out ++ [f a], (i : Int) + 1))) (he : ∀ out, out.length = l.length → K (out, (l.length : Int)) = some (.inr out)) : loopO K ([], 0) = some (l.map f) := by
  refine Ok.eq (loop_up l.length (fun i (s : List β × Int) => s = ((l.take i).map f, (i : Int))) (fun r => r = l.map f) (by simp) ?_)
  rintro i s hi rfl
  by_cases hlt : i < l.length
  · have ha : l[i]? = some l[i] := by simp [hlt]
    rw [h i _ _ ha (by simp; omega), rnd_inl]
    refine ⟨hlt, ?_⟩
    have e : (l.take (i + 1)).map f = (l.take i).map f ++ [f l[i]] := by rw [List.take_add_one, ha]; simp only [List.map_append, Option.toList_some, List.map_cons, List.map_nil]
    rw [e]; rfl
  · have : i = l.length := by omega
    subst this
    rw [he _ (by simp), rnd_inr]
    simp
end
end Go.Tx
end
