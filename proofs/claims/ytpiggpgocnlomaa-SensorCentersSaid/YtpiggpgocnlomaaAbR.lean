/-
  TWO OPERATIONS THAT THE TEXT LEAVES UNORDERED: either order comes to the same.
-/
import Derived.Test.YtpiggpgocnlomaaAbQ
set_option linter.unusedVariables false
namespace Go.Ab
open Go
variable {P : Program} {H : Hints} {f : FuncId} {C : Orc}

/-! ### what an operation does hangs on the boxes alone -/
theorem box_withE (st : St) (E : List V) (r : Root) : ({ st with E := E } : St).box r = st.box r := rfl
theorem setBox_withE (st : St) (E : List V) (r : Root) (c : List V) : ({ st with E := E } : St).setBox r c = { st.setBox r c with E := E } := by
  unfold St.setBox; split <;> rfl

theorem vcall_E (g : FuncId) (args : List V) (st : St) (E : List V) : vcall C g args { st with E := E } = (vcall C g args st).map fun (v, s) => (v, { s with E := E }) := by
  unfold vcall
  simp only
  by_cases hp : (ptrsL args).isEmpty = true
  · rw [if_pos hp, if_pos hp]
    split <;> rfl
  · rw [if_neg hp, if_neg hp]
    cases C.call g (args.map V.hand) (st.L ++ [st.B]) with
    | none => rfl
    | some p =>
      obtain ⟨r, M⟩ := p
      simp only
      cases lastSplit M with
      | none => rfl
      | some q =>
        obtain ⟨L, B⟩ := q
        simp only
        split <;> rfl
theorem vround_E (r : Root) (args : List V) (st : St) (E : List V) : vround C r args { st with E := E } = (vround C r args st).map fun (v, s) => (v, { s with E := E }) := by
  unfold vround
  rw [box_withE]
  split
  · split
    · rfl
    · simp only
      split
      · split
        · split
          · split
            · split
              · split <;> rfl
              · rfl
            · rfl
          · rfl
        · rfl
      · rfl
  · rfl
theorem vcallV_E (fv : V) (args : List V) (st : St) (E : List V) : vcallV C fv args { st with E := E } = (vcallV C fv args st).map fun (v, s) => (v, { s with E := E }) := by
  unfold vcallV
  split
  · exact vcall_E ..
  · exact vround_E ..
  · rfl

def dfltM (P : Program) (H : Hints) (f : FuncId) (o : Oper) (xs : List V) (st : St) : Option (V × St × Fp) :=
  match rootOf o.op xs with
    | none => match opSem P H f (takes H f o) o.op o.type xs none with
      | some (v, none) => some (v, st, .none)
      | _ => none
    | some r => match opSem P H f (takes H f o) o.op o.type xs (st.box r) with
      | some (v, none) => some (v, st, .root r (rangeOf P o.op xs).1 (rangeOf P o.op xs).2 false)
      | some (v, some c) => if (wptrs o.op xs).all (fun p => decide (p.lvl ≤ r.lvl)) && decide ((rangeOf P o.op xs).1 + (rangeOf P o.op xs).2 ≤ c.length) then some (v, st.setBox r c, .root r (rangeOf P o.op xs).1 (rangeOf P o.op xs).2 true) else none
      | none => none

def isDflt : Op → Bool
  | .alloc _ | .box .. | .call { callee := .value _, .. } => false
  | _ => true
theorem stepM_dflt {o : Oper} (h : isDflt o.op = true) (xs : List V) (st : St) : stepM P H C f o xs st = dfltM P H f o xs st := by
  unfold stepM
  split
  · rename_i hop; rw [hop] at h; simp [isDflt] at h
  · rename_i hop; rw [hop] at h; simp [isDflt] at h
  · rename_i hop; rw [hop] at h; simp [isDflt] at h
  · rfl
theorem op_cases (o : Op) : (∃ t, o = .alloc t) ∨ (∃ t a, o = .box t a) ∨ (∃ c fo, o = .call c ∧ c.callee = .value fo) ∨ isDflt o = true := by
  cases o <;> first | exact .inr (.inr (.inr rfl)) | exact .inl ⟨_, rfl⟩ | exact .inr (.inl ⟨_, _, rfl⟩) | skip
  rename_i c
  cases hc : c.callee with
  | value fo => exact .inr (.inr (.inl ⟨c, fo, rfl, hc⟩))
  | _ => refine .inr (.inr (.inr ?_)); cases c; simp only at hc; subst hc; rfl

theorem stepM_call {o : Oper} {c : Call} {fo : Operand} (hop : o.op = .call c) (hc : c.callee = .value fo) (xs : List V) (st : St) :
    stepM P H C f o xs st = match xs with
      | fv :: args => (vcallV C fv args st).map fun (v, s) => (v, s, if pureCall fv args then .none else .all)
      | [] => none := by
  unfold stepM
  obtain ⟨cal, a1, a2⟩ := c
  simp only at hc
  subst hc
  simp only [hop]
  cases xs <;> rfl

theorem stepM_E (o : Oper) (xs : List V) (st : St) (E : List V) : stepM P H C f o xs { st with E := E } = (stepM P H C f o xs st).map fun (z, m, fp) => (z, { m with E := E }, fp) := by
  rcases op_cases o.op with ⟨t, hop⟩ | ⟨t, a, hop⟩ | ⟨c, fo, hop, hc⟩ | hd
  · unfold stepM; simp only [hop]
    split
    · split <;> rfl
    · rfl
  · unfold stepM; simp only [hop]
    split
    · split <;> rfl
    · rfl
  · rw [stepM_call hop hc, stepM_call hop hc]
    split
    · rw [vcallV_E]
      cases vcallV C _ _ st <;> rfl
    · rfl
  · rw [stepM_dflt hd, stepM_dflt hd]
    unfold dfltM
    simp only [box_withE, setBox_withE]
    split
    · split <;> rfl
    · split
      · rfl
      · split <;> rfl
      · rfl

theorem stepM_none {o : Oper} {xs : List V} {st m : St} {z : V} (h : stepM P H C f o xs st = some (z, m, .none)) : m = st ∧ ∀ st2, stepM P H C f o xs st2 = some (z, st2, .none) := by
  rcases op_cases o.op with ⟨t, hop⟩ | ⟨t, a, hop⟩ | ⟨c, fo, hop, hc⟩ | hd
  · unfold stepM at h; simp only [hop] at h
    split at h
    · split at h <;> simp at h
    · cases h
  · unfold stepM at h; simp only [hop] at h
    split at h
    · split at h <;> simp at h
    · cases h
  · rw [stepM_call hop hc] at h
    cases xs with
    | nil => cases h
    | cons fv args =>
      obtain ⟨⟨v, s⟩, h1, h2⟩ := Option.map_eq_some_iff.1 h
      obtain ⟨rfl, rfl, hp⟩ := some3 (congrArg some h2)
      have hp' : pureCall fv args = true := by
        by_cases hpc : pureCall fv args = true
        · exact hpc
        · rw [if_neg hpc] at hp; cases hp
      cases fv with
      | fn g first cap =>
        have hp2 : (ptrsL (first ++ args ++ cap)).isEmpty = true := hp'
        have h1' : vcall C g (first ++ args ++ cap) st = some (v, s) := h1
        unfold vcall at h1'
        rw [if_pos hp2] at h1'
        split at h1'
        · rename_i r hr
          obtain ⟨rfl, rfl⟩ := Prod.mk.inj (Option.some.inj h1')
          refine ⟨rfl, fun st2 => ?_⟩
          rw [stepM_call hop hc]
          have h3 : vcallV C (.fn g first cap) args st2 = some (if looseL (first ++ args ++ cap) = true then r.loosen else r, st2) := by
            show vcall C g (first ++ args ++ cap) st2 = _
            unfold vcall
            rw [if_pos hp2, hr]
          simp only [h3, Option.map_some, hp', if_true]
        · cases h1'
      | _ => simp [pureCall] at hp'
  · rw [stepM_dflt hd] at h
    unfold dfltM at h
    split at h
    · rename_i hr
      split at h
      · rename_i v hv
        obtain ⟨rfl, rfl, _⟩ := some3 h
        refine ⟨rfl, fun st2 => ?_⟩
        rw [stepM_dflt hd]
        unfold dfltM
        rw [hr, hv]
      · cases h
    · split at h
      · simp at h
      · split at h <;> simp at h
      · cases h

/-! ### ranges of a box's cells -/
theorem splice_at {cs new : List V} {off : Nat} (h : off + new.length ≤ cs.length) (i : Nat) : (splice cs off new)[i]? = if off ≤ i ∧ i < off + new.length then new[i - off]? else cs[i]? := by
  unfold splice
  have h1 : (cs.take off).length = off := by simp; omega
  by_cases hi : i < off
  · rw [if_neg (by omega), List.append_assoc, List.getElem?_append_left (by omega), List.getElem?_take, if_pos hi]
  · by_cases hj : i < off + new.length
    · rw [if_pos ⟨by omega, hj⟩, List.getElem?_append_left (by simp; omega), List.getElem?_append_right (by omega), h1]
    · rw [if_neg (by omega), List.getElem?_append_right (by simp; omega), List.getElem?_drop]
      congr 1
      simp; omega
theorem splice_length {cs new : List V} {off : Nat} (h : off + new.length ≤ cs.length) : (splice cs off new).length = cs.length := by
  unfold splice; simp; omega
theorem splice_keeps {cs new : List V} {off a n : Nat} (h : off + new.length ≤ cs.length) (hd : off + new.length ≤ a ∨ a + n ≤ off) : ((splice cs off new).drop a).take n = (cs.drop a).take n := by
  apply List.ext_getElem?
  intro i
  rw [List.getElem?_take, List.getElem?_take]
  split
  · rw [List.getElem?_drop, List.getElem?_drop, splice_at h, if_neg (by omega)]
  · rfl
theorem splice_comm {cs x y : List V} {a b : Nat} (hx : a + x.length ≤ cs.length) (hy : b + y.length ≤ cs.length) (hd : a + x.length ≤ b ∨ b + y.length ≤ a) : splice (splice cs a x) b y = splice (splice cs b y) a x := by
  apply List.ext_getElem?
  intro i
  rw [splice_at (by rw [splice_length hx]; exact hy), splice_at hx, splice_at (by rw [splice_length hy]; exact hx), splice_at hy]
  by_cases h1 : a ≤ i ∧ i < a + x.length
  · rw [if_pos h1, if_pos h1, if_neg (by omega)]
  · rw [if_neg h1, if_neg h1]
theorem isLp_splice {cs new : List V} {off : Nat} (h : off + new.length ≤ cs.length) (hc : isLp cs = false) (hn : off = 0 → isLp new = false) : isLp (splice cs off new) = false := by
  have key : ∀ l l' : List V, l[0]? = l'[0]? → isLp l' = false → isLp l = false := fun l l' e hl => by
    cases l with
    | nil => rfl
    | cons x l => cases l' with
      | nil => simp at e
      | cons y l' =>
        simp only [List.getElem?_cons_zero, Option.some.injEq] at e
        subst e
        cases x <;> first | rfl | (simp [isLp] at hl)
  by_cases h0 : off = 0 ∧ 0 < new.length
  · exact key _ new (by rw [splice_at h, if_pos (by omega), h0.1]) (hn h0.1)
  · exact key _ cs (by rw [splice_at h, if_neg (by omega)]) hc
theorem setB_setB (s : Nat) (c c' : List V) : ∀ B : Level, setB (setB B s c) s c' = setB B s c'
  | [] => rfl
  | (k, d) :: B => by
    simp only [setB]
    by_cases h1 : k = s
    · simp [setB, h1]
    · simp [setB, h1, setB_setB s c c' B]
theorem setBox_setBox (st : St) (r : Root) (c c' : List V) : (st.setBox r c).setBox r c' = st.setBox r c' := by
  obtain ⟨l, s⟩ := r
  unfold St.setBox
  by_cases h1 : l = st.L.length
  · simp only [h1, if_true, setB_setB]
  · simp only [h1, if_false, List.length_modify]
    congr 1
    apply List.ext_getElem?
    intro i
    simp only [List.getElem?_modify]
    by_cases h3 : l = i
    · subst h3
      cases st.L[l]? with
      | none => rfl
      | some B => simp [setB_setB]
    · simp [h3]

theorem ofCells_range {t : TypeId} {cs cs2 : List V} {off : Nat} (hl : cs2.length = cs.length) (h : (cs2.drop off).take (if isAggT P t then P.cellsOf t else 1) = (cs.drop off).take (if isAggT P t then P.cellsOf t else 1)) :
    ofCells P t (cs2.drop off) = ofCells P t (cs.drop off) := by
  unfold ofCells
  cases P.underlying t with
  | none => rfl
  | some d =>
    simp only
    by_cases ha : isAggT P t = true
    · simp only [ha, if_true] at h ⊢
      rw [h]
      simp only [List.length_drop, hl]
    · have ha' : isAggT P t = false := by simpa using ha
      simp only [ha', Bool.false_eq_true, if_false] at h ⊢
      have : ∀ l : List V, l.head? = (l.take 1).head? := fun l => by cases l <;> rfl
      rw [this, h, ← this]
theorem isLp_reflag {g : Fl → Fl} {l : List V} (h : isLp l = false) : isLp (reflagL g l) = false := by
  cases l with
  | nil => rfl
  | cons x l => cases x <;> first | rfl | (simp [isLp] at h)
theorem oks_notLp {x : V} (h : x.oks = true) : isLp x.cells = false := by
  unfold V.oks at h
  cases hc : x.cells with
  | nil => rfl
  | cons y l =>
    rw [hc] at h
    simp only [List.all_cons, Bool.and_eq_true] at h
    cases y <;> first | rfl | (simp [V.one] at h)

theorem splice_len {cs new : List V} {off : Nat} (h : new.length ≤ (cs.drop off).length) : (splice cs off new).length = cs.length := by
  unfold splice; simp only [List.length_drop] at h; simp; omega

/-- what a load or a store is -/
def RootSpec (P : Program) (H : Hints) (f : FuncId) (o : Oper) (xs : List V) (st m : St) (z : V) (r : Root) (off len : Nat) (wr : Bool) : Prop :=
  ∃ new cs, st.box r = some cs ∧ isLp cs = false ∧ (wr = true → new.length = len ∧ off + len ≤ cs.length ∧ (off = 0 → isLp new = false)) ∧ m = (if wr then st.setBox r (splice cs off new) else st) ∧
      ∀ (st2 : St) cs2, st2.box r = some cs2 → isLp cs2 = false → cs2.length = cs.length → (cs2.drop off).take len = (cs.drop off).take len → dfltM P H f o xs st2 = some (z, if wr then st2.setBox r (splice cs2 off new) else st2, .root r off len wr)

theorem isLp_take {l : List V} {n : Nat} (h : isLp l = false) : isLp (l.take n) = false := by
  cases l with
  | nil => simp [isLp]
  | cons x l => cases n with
    | zero => rfl
    | succ n => cases x <;> first | rfl | (simp [isLp] at h)

theorem load_root {o : Oper} {t : TypeId} {ao : Operand} (hop : o.op = .load t ao) {xs : List V} {st m : St} {z : V} {r : Root} {off len : Nat} {wr : Bool} (h : dfltM P H f o xs st = some (z, m, .root r off len wr)) : RootSpec P H f o xs st m z r off len wr := by
  have hun : ∀ st xs, dfltM P H f o xs st = match rootOf (.load t ao) xs with
      | none => (match opSem P H f (takes H f o) (.load t ao) o.type xs none with
        | some (v, none) => some (v, st, .none)
        | _ => none)
      | some r => match opSem P H f (takes H f o) (.load t ao) o.type xs (st.box r) with
        | some (v, none) => some (v, st, .root r (rangeOf P (.load t ao) xs).1 (rangeOf P (.load t ao) xs).2 false)
        | some (v, some c) => if (wptrs (.load t ao) xs).all (fun p => decide (p.lvl ≤ r.lvl)) && decide ((rangeOf P (.load t ao) xs).1 + (rangeOf P (.load t ao) xs).2 ≤ c.length) then some (v, st.setBox r c, .root r (rangeOf P (.load t ao) xs).1 (rangeOf P (.load t ao) xs).2 true) else none
        | none => none := fun st xs => by unfold dfltM; rw [hop]
  rw [hun] at h
  have hx : ∃ r' off', xs = [.ptr r' off'] := by
    split at h
    · split at h
      · simp at h
      · cases h
    · rename_i r' hr
      obtain ⟨off', rest, rfl, _⟩ := rootOf_some hr
      cases rest with
      | nil => exact ⟨_, _, rfl⟩
      | cons y l => simp [opSem] at h
  obtain ⟨r', off', rfl⟩ := hx
  simp only [rootOf] at h
  cases hbx : st.box r' with
  | none => rw [hbx] at h; simp [opSem] at h
  | some cs =>
    rw [hbx] at h
    simp only [opSem, rangeOf, wptrs, List.all_nil, Bool.true_and] at h
    have hrange : ∀ cs2 : List V, cs2.length = cs.length → (cs2.drop off').take (if isAggT P t then P.cellsOf t else 1) = (cs.drop off').take (if isAggT P t then P.cellsOf t else 1) → ofCells P t (cs2.drop off') = ofCells P t (cs.drop off') := fun cs2 hl heq => ofCells_range hl heq
    have hun2 : ∀ (st2 : St) cs2, st2.box r' = some cs2 → isLp cs2 = false → dfltM P H f o [.ptr r' off'] st2 = match (if takes H f o then (ofCells P t (cs2.drop off')).map fun x => (x, some (splice cs2 off' (reflagL flDull ((cs2.drop off').take (if isAggT P t then P.cellsOf t else 1)))))
        else ((ofCells P t (cs2.drop off')).map V.dull).map fun x => (x, none)) with
      | some (v, none) => some (v, st2, .root r' off' (if isAggT P t then P.cellsOf t else 1) false)
      | some (v, some c) => if decide (off' + (if isAggT P t then P.cellsOf t else 1) ≤ c.length) = true then some (v, st2.setBox r' c, .root r' off' (if isAggT P t then P.cellsOf t else 1) true) else none
      | none => none := fun st2 cs2 hb2 hlp2 => by
        rw [hun]
        simp only [rootOf, hb2, opSem, rangeOf, wptrs, List.all_nil, Bool.true_and, hlp2, Bool.false_eq_true, if_false]
        rfl
    obtain ⟨n, hn⟩ : ∃ n, (if isAggT P t = true then P.cellsOf t else 1) = n := ⟨_, rfl⟩
    simp only [hn] at h hrange hun2
    cases hlp : isLp cs with
    | true => rw [hlp] at h; simp at h
    | false =>
      rw [hlp] at h
      simp only [Bool.false_eq_true, if_false] at h
      cases htk : takes H f o with
      | true =>
        simp only [htk, if_true] at h hun2
        cases hof : ofCells P t (cs.drop off') with
        | none => rw [hof] at h; simp at h
        | some y =>
          rw [hof] at h
          simp only [Option.map_some] at h
          split at h
          · rename_i hle
            simp only [decide_eq_true_eq] at hle
            rw [splice_len (by rw [length_reflagL]; simp; omega)] at hle
            simp only [Option.some.injEq, Prod.mk.injEq, Fp.root.injEq] at h
            obtain ⟨h1, h2, h3, h4, h5, h6⟩ := h
            subst h1; subst h2; subst h3; subst h4; subst h5; subst h6
            refine ⟨reflagL flDull ((cs.drop off').take n), cs, hbx, hlp, fun _ => ⟨by rw [length_reflagL, List.length_take, List.length_drop]; omega, hle, fun h0 => ?_⟩, rfl, ?_⟩
            · subst h0; exact isLp_reflag (isLp_take (by simpa using hlp))
            · intro st2 cs2 hb2 hlp2 hl2 heq
              rw [hun2 st2 cs2 hb2 hlp2, hrange cs2 hl2 heq, hof, heq]
              simp only [Option.map_some]
              rw [if_pos]
              · rfl
              · simp only [decide_eq_true_eq]
                rw [splice_len (by rw [length_reflagL, ← heq]; simp; omega)]
                omega
          · cases h
      | false =>
        simp only [htk, Bool.false_eq_true, if_false] at h hun2
        cases hof : ofCells P t (cs.drop off') with
        | none => rw [hof] at h; simp at h
        | some y =>
          rw [hof] at h
          simp only [Option.map_some, Option.some.injEq, Prod.mk.injEq, Fp.root.injEq] at h
          obtain ⟨h1, h2, h3, h4, h5, h6⟩ := h
          subst h1; subst h2; subst h3; subst h4; subst h5; subst h6
          refine ⟨[], cs, hbx, hlp, (fun h => by simp at h), rfl, ?_⟩
          intro st2 cs2 hb2 hlp2 hl2 heq
          rw [hun2 st2 cs2 hb2 hlp2, hrange cs2 hl2 heq, hof]
          rfl

theorem store_root {o : Oper} {t : TypeId} {ao xo : Operand} (hop : o.op = .store t ao xo) {xs : List V} {st m : St} {z : V} {r : Root} {off len : Nat} {wr : Bool} (h : dfltM P H f o xs st = some (z, m, .root r off len wr)) : RootSpec P H f o xs st m z r off len wr := by
  have hun : ∀ st xs, dfltM P H f o xs st = match rootOf (.store t ao xo) xs with
      | none => (match opSem P H f (takes H f o) (.store t ao xo) o.type xs none with
        | some (v, none) => some (v, st, .none)
        | _ => none)
      | some r => match opSem P H f (takes H f o) (.store t ao xo) o.type xs (st.box r) with
        | some (v, none) => some (v, st, .root r (rangeOf P (.store t ao xo) xs).1 (rangeOf P (.store t ao xo) xs).2 false)
        | some (v, some c) => if (wptrs (.store t ao xo) xs).all (fun p => decide (p.lvl ≤ r.lvl)) && decide ((rangeOf P (.store t ao xo) xs).1 + (rangeOf P (.store t ao xo) xs).2 ≤ c.length) then some (v, st.setBox r c, .root r (rangeOf P (.store t ao xo) xs).1 (rangeOf P (.store t ao xo) xs).2 true) else none
        | none => none := fun st xs => by unfold dfltM; rw [hop]
  rw [hun] at h
  have hx : ∃ r' off' x, xs = [.ptr r' off', x] := by
    split at h
    · split at h
      · simp at h
      · cases h
    · rename_i r' hr
      obtain ⟨off', rest, rfl, _⟩ := rootOf_some hr
      match rest with
      | [x] => exact ⟨_, _, _, rfl⟩
      | [] => simp [opSem] at h
      | _ :: _ :: _ => simp [opSem] at h
  obtain ⟨r', off', x, rfl⟩ := hx
  simp only [rootOf] at h
  cases hbx : st.box r' with
  | none => rw [hbx] at h; simp [opSem] at h
  | some cs =>
    rw [hbx] at h
    simp only [opSem, rangeOf, wptrs] at h
    by_cases hc : isLp cs = false ∧ P.cellsOf t ≠ 0 ∧ x.cells.length = P.cellsOf t ∧ off' + x.cells.length ≤ cs.length ∧ x.oks = true
    · rw [if_pos hc] at h
      have h : (if ((x.ptrs.all fun p => decide (p.lvl ≤ r'.lvl)) && decide (off' + x.cells.length ≤ (splice cs off' x.cells).length)) = true then some (V.undef, st.setBox r' (splice cs off' x.cells), Fp.root r' off' x.cells.length true) else none) = some (z, m, Fp.root r off len wr) := h
      by_cases hall : ((x.ptrs.all fun p => decide (p.lvl ≤ r'.lvl)) && decide (off' + x.cells.length ≤ (splice cs off' x.cells).length)) = true
      · rw [if_pos hall] at h
        simp only [Option.some.injEq, Prod.mk.injEq, Fp.root.injEq] at h
        obtain ⟨h1, h2, h3, h4, h5, h6⟩ := h
        subst h1; subst h2; subst h3; subst h4; subst h5; subst h6
        refine ⟨x.cells, cs, hbx, hc.1, fun _ => ⟨rfl, hc.2.2.2.1, fun _ => oks_notLp hc.2.2.2.2⟩, rfl, ?_⟩
        intro st2 cs2 hb2 hlp2 hl2 heq
        rw [hun]
        simp only [rootOf, hb2, opSem, rangeOf, wptrs]
        rw [if_pos ⟨hlp2, hc.2.1, hc.2.2.1, by rw [hl2]; exact hc.2.2.2.1, hc.2.2.2.2⟩]
        show (if ((x.ptrs.all fun p => decide (p.lvl ≤ r'.lvl)) && decide (off' + x.cells.length ≤ (splice cs2 off' x.cells).length)) = true then some (V.undef, st2.setBox r' (splice cs2 off' x.cells), Fp.root r' off' x.cells.length true) else none) = _
        have hall2 : ((x.ptrs.all fun p => decide (p.lvl ≤ r'.lvl)) && decide (off' + x.cells.length ≤ (splice cs2 off' x.cells).length)) = true := by
          simp only [Bool.and_eq_true, decide_eq_true_eq] at hall ⊢
          refine ⟨hall.1, ?_⟩
          rw [splice_length (by rw [hl2]; exact hc.2.2.2.1), hl2]; exact hc.2.2.2.1
        rw [if_pos hall2]
        rfl
      · rw [if_neg hall] at h; cases h
    · rw [if_neg hc] at h; cases h

theorem stepM_root {o : Oper} {xs : List V} {st m : St} {z : V} {r : Root} {off len : Nat} {wr : Bool} (h : stepM P H C f o xs st = some (z, m, .root r off len wr)) :
    isDflt o.op = true ∧ RootSpec P H f o xs st m z r off len wr := by
  rcases op_cases o.op with ⟨t, hop⟩ | ⟨t, a, hop⟩ | ⟨c, fo, hop, hc⟩ | hd
  · unfold stepM at h; simp only [hop] at h
    split at h
    · split at h <;> simp at h
    · cases h
  · unfold stepM at h; simp only [hop] at h
    split at h
    · split at h <;> simp at h
    · cases h
  · rw [stepM_call hop hc] at h
    cases xs with
    | nil => cases h
    | cons fv args =>
      obtain ⟨⟨v, s⟩, h1, h2⟩ := Option.map_eq_some_iff.1 h
      obtain ⟨_, _, hp⟩ := some3 (congrArg some h2)
      split at hp <;> cases hp
  · rw [stepM_dflt hd] at h
    refine ⟨hd, ?_⟩
    cases hr : rootOf o.op xs with
    | none =>
      unfold dfltM at h
      rw [hr] at h
      simp only at h
      split at h
      · simp at h
      · cases h
    | some r' =>
      obtain ⟨_, _, _, hop⟩ := rootOf_some hr
      rcases hop with ⟨t, a, hop⟩ | ⟨t, a, x, hop⟩
      · exact load_root hop h
      · exact store_root hop h

theorem setB_comm (s s' : Nat) (hne : s ≠ s') (c c' : List V) : ∀ B : Level, setB (setB B s c) s' c' = setB (setB B s' c') s c
  | [] => rfl
  | (k, d) :: B => by
    simp only [setB]
    by_cases h1 : k = s
    · subst h1
      simp [setB, hne]
    · by_cases h2 : k = s'
      · subst h2; simp [setB, h1]
      · simp [setB, h1, h2, setB_comm s s' hne c c' B]

theorem setBox_comm (st : St) (r r' : Root) (hne : r ≠ r') (c c' : List V) : (st.setBox r c).setBox r' c' = (st.setBox r' c').setBox r c := by
  obtain ⟨l, s⟩ := r
  obtain ⟨l', s'⟩ := r'
  unfold St.setBox
  by_cases h1 : l = st.L.length
  · by_cases h2 : l' = st.L.length
    · subst h1
      simp only [h2, if_true]
      congr 1
      exact setB_comm s s' (fun e => hne (by simp [e, h2])) c c' st.B
    · simp only [h1, h2, if_true, if_false, List.length_modify]
  · by_cases h2 : l' = st.L.length
    · simp only [h1, h2, if_true, if_false, List.length_modify]
    · simp only [h1, h2, if_false, List.length_modify]
      congr 1
      apply List.ext_getElem?
      intro i
      simp only [List.getElem?_modify]
      by_cases h3 : l' = i
      · by_cases h4 : l = i
        · subst h3; subst h4
          cases st.L[l]? with
          | none => rfl
          | some B => simp [setB_comm s s' (fun e => hne (by simp [e])) c c' B]
        · simp [h3, h4]
      · by_cases h4 : l = i
        · simp [h3, h4]
        · simp [h3, h4]

theorem stepM_swap {o o' : Oper} {xs xs' : List V} {st m m' : St} {z z' : V} {fp fp' : Fp} (h : stepM P H C f o xs st = some (z, m, fp)) (h' : stepM P H C f o' xs' m = some (z', m', fp')) (hc : fp.conflict fp' = false) :
    ∃ m1, stepM P H C f o' xs' st = some (z', m1, fp') ∧ stepM P H C f o xs m1 = some (z, m', fp) := by
  cases fp with
  | none =>
    obtain ⟨rfl, h2⟩ := stepM_none h
    exact ⟨m', h', h2 m'⟩
  | root r off len wr =>
    cases fp' with
    | none =>
      obtain ⟨rfl, h2⟩ := stepM_none h'
      exact ⟨st, h2 st, h⟩
    | root r' off' len' wr' =>
      obtain ⟨hd, new, cs, hb, hlp, hw, hm, hK⟩ := stepM_root h
      obtain ⟨hd', new', cs', hb', hlp', hw', hm', hK'⟩ := stepM_root h'
      simp only [Fp.conflict, Bool.and_eq_false_iff, decide_eq_false_iff_not, Bool.or_eq_false_iff, Bool.not_eq_false', Bool.or_eq_true, decide_eq_true_eq] at hc
      by_cases hr : r = r'
      · subst hr
        by_cases hww : wr = false ∧ wr' = false
        · obtain ⟨rfl, rfl⟩ := hww
          simp only [Bool.false_eq_true, if_false] at hm hm'
          subst hm; subst hm'
          exact ⟨_, h', h⟩
        · have hdis : off + len ≤ off' ∨ off' + len' ≤ off := by
            rcases hc with (hc | hc) | hc
            · exact absurd rfl hc
            · exact absurd hc hww
            · exact hc
          have hmb : m.box r = some (if wr then splice cs off new else cs) := by
            rw [hm]; cases wr <;> simp [box_setBox, hb]
          have hcs' : cs' = if wr then splice cs off new else cs := by rw [hmb] at hb'; exact (Option.some.inj hb').symm
          have hl : cs.length = cs'.length := by
            rw [hcs']; cases wr with
            | false => rfl
            | true => obtain ⟨h1, h2, _⟩ := hw rfl; simp only [if_true]; rw [splice_length (by omega)]
          have hk : (cs.drop off').take len' = (cs'.drop off').take len' := by
            rw [hcs']; cases wr with
            | false => rfl
            | true => obtain ⟨h1, h2, _⟩ := hw rfl; simp only [if_true]; rw [splice_keeps (by omega) (by omega)]
          have s1 := hK' st cs hb hlp hl hk
          have hm1b : (if wr' then st.setBox r (splice cs off' new') else st).box r = some (if wr' then splice cs off' new' else cs) := by
            cases wr' <;> simp [box_setBox, hb]
          have hlp1 : isLp (if wr' then splice cs off' new' else cs) = false := by
            cases wr' with
            | false => exact hlp
            | true => obtain ⟨h1, h2, h3⟩ := hw' rfl; simp only [if_true]; exact isLp_splice (by omega) hlp h3
          have hl1 : (if wr' then splice cs off' new' else cs).length = cs.length := by
            cases wr' with
            | false => rfl
            | true => obtain ⟨h1, h2, h3⟩ := hw' rfl; simp only [if_true]; exact splice_length (by omega)
          have hk1 : ((if wr' then splice cs off' new' else cs).drop off).take len = (cs.drop off).take len := by
            cases wr' with
            | false => rfl
            | true => obtain ⟨h1, h2, h3⟩ := hw' rfl; simp only [if_true]; exact splice_keeps (by omega) (by omega)
          have s2 := hK _ _ hm1b hlp1 hl1 hk1
          refine ⟨_, by rw [stepM_dflt hd']; exact s1, ?_⟩
          rw [stepM_dflt hd, s2]
          congr 2
          rw [Prod.mk.injEq]
          refine ⟨?_, rfl⟩
          rw [hm', hm, hcs']
          cases wr <;> cases wr' <;> simp only [Bool.false_eq_true, if_false, if_true, setBox_setBox]
          obtain ⟨h1, h2, _⟩ := hw rfl
          obtain ⟨h3, h4, _⟩ := hw' rfl
          rw [splice_comm (by omega) (by omega) (by omega)]
      · have e1 : ∀ (st : St) d, (st.setBox r d).box r' = st.box r' := fun st d => by rw [box_setBox, if_neg (Ne.symm hr)]
        have e2 : ∀ (st : St) d, (st.setBox r' d).box r = st.box r := fun st d => by rw [box_setBox, if_neg hr]
        have hbs : st.box r' = some cs' := by rw [← hb', hm]; cases wr <;> simp [e1]
        have s1 := hK' st cs' hbs hlp' rfl rfl
        have s2 := hK (if wr' then st.setBox r' (splice cs' off' new') else st) cs (by cases wr' <;> simp [e2, hb]) hlp rfl rfl
        refine ⟨_, by rw [stepM_dflt hd']; exact s1, ?_⟩
        rw [stepM_dflt hd, s2, hm', hm]
        cases wr <;> cases wr' <;> simp [setBox_comm _ _ _ hr]
    | all => simp [Fp.conflict] at hc
  | all =>
    cases fp' with
    | none =>
      obtain ⟨rfl, h2⟩ := stepM_none h'
      exact ⟨st, h2 st, h⟩
    | _ => simp [Fp.conflict] at hc
end Go.Ab
