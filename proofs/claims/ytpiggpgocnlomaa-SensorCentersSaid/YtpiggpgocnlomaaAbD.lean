/-
  ONE OPERATION, second part: the operations that leave memory as it is, one by one.
-/
import Derived.Test.YtpiggpgocnlomaaAbC
import Derived.Laws.Entries
import Derived.Laws.Strings
set_option linter.unusedVariables false
namespace Go.Ab
open Go
variable {P : Program} {H : Hints} {f : FuncId} {w : World} {X : Cx}

theorem repL_one {x : V} {vals : List Value} {O : List Nat} (h : RepL w X [x] vals O) : ∃ u, vals = [u] ∧ Rep w X x u O := by
  simp only [RepL] at h
  obtain ⟨u, vs, O1, O2, rfl, rfl, h1, rfl, rfl⟩ := h
  exact ⟨u, rfl, by simpa using h1⟩
theorem repL_two {x y : V} {vals : List Value} {O : List Nat} (h : RepL w X [x, y] vals O) : ∃ u v O1 O2, vals = [u, v] ∧ O = O1 ++ O2 ∧ Rep w X x u O1 ∧ Rep w X y v O2 := by
  simp only [RepL] at h
  obtain ⟨u, vs, O1, O2, rfl, rfl, h1, v, vs', O3, O4, rfl, rfl, h2, rfl, rfl⟩ := h
  exact ⟨u, v, O1, O3, rfl, by simp, h1, h2⟩
theorem repL_three {x y z : V} {vals : List Value} {O : List Nat} (h : RepL w X [x, y, z] vals O) : ∃ u v t O1 O2 O3, vals = [u, v, t] ∧ O = O1 ++ (O2 ++ O3) ∧ Rep w X x u O1 ∧ Rep w X y v O2 ∧ Rep w X z t O3 := by
  simp only [RepL] at h
  obtain ⟨u, vs, O1, O2, rfl, rfl, h1, v, vs', O3, O4, rfl, rfl, h2, t, vs'', O5, O6, rfl, rfl, h3, rfl, rfl⟩ := h
  exact ⟨u, v, t, O1, O3, O5, rfl, by simp, h1, h2, h3⟩

theorem flags_dull (X : Cx) : Flags flDull X X (fun _ => True) true where
  β := rfl
  own := fun f => by cases f <;> simp [flDull]
  dul := fun _ _ => rfl
  ω := fun _ b e fz h => ⟨fz, h⟩
  sh := fun f b e fz h _ hs _ hg => by cases f <;> simp [flDull] at hg; rw [hs rfl] at h; exact h
theorem rep_dull {x : V} {v : Value} {O : List Nat} (h : Rep w X x v O) : Rep w X x.dull v [] := Rep.flags (flags_dull X) x v O (fun _ _ => trivial) (fun _ => rfl) h
theorem repL_dull {l : List V} {vs : List Value} {O : List Nat} (h : RepL w X l vs O) : RepL w X (reflagL flDull l) vs [] := RepL.flags (flags_dull X) l vs O (fun _ _ => trivial) (fun _ => rfl) h

theorem info_of_underlying {t : TypeId} {d : TypeDesc} (h : P.underlying t = some d) : ∃ i, P.info? t = some i := by
  unfold Program.underlying at h
  cases hi : P.info? t with
  | none => simp [hi] at h
  | some i => exact ⟨i, rfl⟩
theorem info_of_cells {t : TypeId} (h : P.cellsOf t ≠ 0) : ∃ i, P.info? t = some i ∧ i.size = P.cellsOf t := by
  unfold Program.cellsOf at h ⊢
  cases hi : P.info? t with
  | none => simp [hi] at h
  | some i => exact ⟨i, rfl, by simp⟩
theorem run_sizeOf' {t : TypeId} (h : P.cellsOf t ≠ 0) : (sizeOf t).run P w = .ok (P.cellsOf t) w := by
  obtain ⟨i, hi, hs⟩ := info_of_cells h
  simp [sizeOf, typeInfo, hi, hs]
theorem run_sizeOf'' {t : TypeId} {d : TypeDesc} (h : P.underlying t = some d) : (sizeOf t).run P w = .ok (P.cellsOf t) w := by
  obtain ⟨i, hi⟩ := info_of_underlying h
  simp [sizeOf, typeInfo, hi, Program.cellsOf]
theorem run_isAgg' {t : TypeId} {d : TypeDesc} (h : P.underlying t = some d) : (isAgg t).run P w = .ok (isAggT P t) w := by
  simp only [isAgg, Sem.run_bind, run_underlying h, Result.andThen_ok, isAggT, h]
  cases d <;> simp

theorem sem_v {s : Sem Value} {v : Value} {w' : World} (h : s.run P w = .ok v w') : (do pure (Next.value (← s)) : Sem Next).run P w = .ok (.value v) w' := by
  simp [h]

theorem ok_v {s : Sem Value} {x : V} {Oin O' : List Nat} {v : Value} (hd : Dom w X) (h : s.run P w = .ok v w) (hx : Rep w X x v O') (hl : Lin O') (hs : ∀ b ∈ O', b ∈ Oin) : OpOk P (do pure (Next.value (← s))) w X x Oin :=
  opOk_pure hd (sem_v h) hx hl hs

/-! ### cells -/
theorem rep_ofCells {t : TypeId} {cs : List V} {x : V} {vals : List Value} {O : List Nat} (hx : ofCells P t cs = some x) (h : RepL w X cs vals O) :
    ∃ v O', Rep w X x v O' ∧ (∀ b, O'.count b ≤ O.count b) ∧ (if isAggT P t then P.cellsOf t ≤ vals.length ∧ v = .agg (vals.take (P.cellsOf t)).toArray else vals.head? = some v) ∧ ∃ d, P.underlying t = some d := by
  unfold ofCells at hx
  cases hu : P.underlying t with
  | none => simp [hu] at hx
  | some d =>
    simp only [hu] at hx
    by_cases ha : isAggT P t = true
    · simp only [ha, if_true] at hx ⊢
      split at hx
      · rename_i hle
        simp only [Option.some.injEq] at hx
        subst hx
        obtain ⟨O1, O2, rfl, h1, _⟩ := repL_split (P.cellsOf t) h
        refine ⟨_, O1, by simp only [Rep]; exact ⟨_, rfl, h1⟩, fun b => by rw [List.count_append]; omega, ⟨by rw [← repL_length _ _ _ h]; exact hle, rfl⟩, d, rfl⟩
      · simp at hx
    · have ha' : isAggT P t = false := by simpa using ha
      simp only [ha', Bool.false_eq_true, if_false] at hx ⊢
      cases cs with
      | nil => simp at hx
      | cons y cs =>
        simp at hx; subst hx
        simp only [RepL] at h
        obtain ⟨u, vs, O1, O2, rfl, rfl, h1, h2⟩ := h
        exact ⟨u, O1, h1, fun b => by rw [List.count_append]; omega, by simp, d, rfl⟩

theorem run_loadVar' {t : TypeId} {b off : Nat} {vals : List Value} {v : Value} {d : TypeDesc} (hu : P.underlying t = some d) (hs : Seg w b off vals)
    (hv : if isAggT P t then P.cellsOf t ≤ vals.length ∧ v = .agg (vals.take (P.cellsOf t)).toArray else vals.head? = some v) :
    (loadVar t ⟨b, off, none⟩).run P w = .ok v w := by
  simp only [loadVar, Sem.run_bind, run_isAgg' hu, Result.andThen_ok]
  by_cases ha : isAggT P t = true
  · simp only [ha, if_true] at hv ⊢
    obtain ⟨hle, rfl⟩ := hv
    have hl := run_loadCells_list (P := P) (w := w) ⟨b, off, none⟩ (vals.take (P.cellsOf t)) (fun j u hj => by
      rw [Addr.add_lit]
      rw [List.getElem?_take] at hj
      split at hj
      · exact hs j u hj
      · simp at hj)
    rw [List.length_take, Nat.min_eq_left hle] at hl
    simp [run_sizeOf'' hu, hl]
  · have ha' : isAggT P t = false := by simpa using ha
    simp only [ha', Bool.false_eq_true, if_false] at hv ⊢
    have h0 := hs 0 v (by cases vals <;> simp_all)
    simp only [Nat.add_zero] at h0
    simp [h0]

theorem repE_get {s : Nat} : ∀ {l : List V} {vals : List Value} {O : List Nat} (i : Nat) {x : V}, RepE w X s l vals O → l[i]? = some x →
    ∃ u Oi, Rep w X x u Oi ∧ u.cells.size = s ∧ (∀ j v, u.cells.toList[j]? = some v → vals[i * s + j]? = some v) ∧ i * s + s ≤ vals.length ∧ (∀ b, Oi.count b ≤ O.count b)
  | [], vals, O, i, x, h, hi => by simp at hi
  | y :: l, vals, O, 0, x, h, hi => by
    simp only [RepE] at h
    obtain ⟨u, vs, O1, O2, rfl, hs, rfl, h1, h2⟩ := h
    simp at hi; subst hi
    refine ⟨u, O1, h1, hs, fun j v hj => ?_, by simp [hs], fun b => by rw [List.count_append]; omega⟩
    rw [Nat.zero_mul, Nat.zero_add, List.getElem?_append_left (List.getElem?_eq_some_iff.1 hj).1]; exact hj
  | y :: l, vals, O, i + 1, x, h, hi => by
    simp only [RepE] at h
    obtain ⟨u, vs, O1, O2, rfl, hs, rfl, h1, h2⟩ := h
    obtain ⟨u', Oi, hr, hs', hj, hl, hc⟩ := repE_get (i := i) h2 (by simpa using hi)
    have e : u.cells.toList.length = s := by simpa using hs
    refine ⟨u', Oi, hr, hs', fun j v hv => ?_, ?_, fun b => by rw [List.count_append]; have := hc b; omega⟩
    · rw [show (i + 1) * s + j = s + (i * s + j) by rw [Nat.succ_mul]; omega, List.getElem?_append_right (by omega), e, Nat.add_sub_cancel_left]; exact hj j v hv
    · rw [List.length_append, e, Nat.succ_mul]; omega

/-! ### the operations -/
theorem cptr_drop {cs : List V} {b off n : Nat} {vals : List Value} (hs : Seg w b off vals) (hω : ∃ e fz, X.ω b = some (e, fz) ∧ off + vals.length ≤ e) (hl : RepL w X cs vals []) (hn : n ≤ cs.length) :
    Rep w X (.cptr (cs.drop n)) (.pointer (some ⟨b, off + n, none⟩)) [] := by
  obtain ⟨e, fz, hω, hle⟩ := hω
  obtain ⟨O1, O2, hO, _, h2⟩ := repL_split n hl
  have hO2 : O2 = [] := (List.append_eq_nil_iff.1 hO.symm).2
  subst hO2
  rw [repL_length _ _ _ hl] at hn
  simp only [Rep]
  refine ⟨trivial, b, off + n, vals.drop n, rfl, fun i u hi => ?_, ⟨e, fz, hω, by rw [List.length_drop]; omega⟩, h2⟩
  rw [List.getElem?_drop] at hi
  rw [Nat.add_assoc]; exact hs _ u hi

theorem op_fieldAddr {t : TypeId} {x y : V} {fd : Nat} {v : Value} {O : List Nat} (hy : vfieldAddr P t x fd = some y) (h : Rep w X x v O) :
    ∃ v', (Instr.fieldAt t v fd).run P w = .ok v' w ∧ Rep w X y v' [] := by
  unfold vfieldAddr at hy
  split at hy
  · rename_i fields hu
    split at hy
    · rename_i g hf
      by_cases hz : P.cellsOf g.type = 0
      · simp [hz] at hy
      · simp only [hz, if_false] at hy
        split at hy
        · rename_i r off
          simp only [Option.some.injEq] at hy; subst hy
          simp only [Rep] at h
          obtain ⟨_, b, hb, rfl⟩ := h
          refine ⟨.pointer (some ⟨b, off + g.offset, none⟩), ?_, by simp only [Rep]; exact ⟨trivial, b, hb, rfl⟩⟩
          simp [Instr.fieldAt, run_underlying hu, hf, Instr.sureAddr, fieldPlace, run_sizeOf' hz, hz, Addr.add_lit]
        · rename_i cs
          split at hy
          · rename_i hle
            simp only [Option.some.injEq] at hy; subst hy
            simp only [Rep] at h
            obtain ⟨_, b, off, vals, rfl, hs, hω, hl⟩ := h
            refine ⟨.pointer (some ⟨b, off + g.offset, none⟩), ?_, cptr_drop hs hω hl hle⟩
            simp [Instr.fieldAt, run_underlying hu, hf, Instr.sureAddr, fieldPlace, run_sizeOf' hz, hz, Addr.add_lit]
          · simp at hy
        · simp at hy
    · simp at hy
  · simp at hy

theorem op_field {t : TypeId} {x y : V} {fd : Nat} {v : Value} {O : List Nat} (hy : vfield P t x fd = some y) (h : Rep w X x v O) :
    ∃ v' O', (Instr.field t v fd).run P w = .ok v' w ∧ Rep w X y v' O' ∧ (∀ b, O'.count b ≤ O.count b) := by
  unfold vfield at hy
  split at hy
  · rename_i fields cs hu
    split at hy
    · rename_i g hf
      simp only [Rep] at h
      obtain ⟨vals, rfl, hl⟩ := h
      obtain ⟨O1, O2, rfl, _, h2⟩ := repL_split g.offset hl
      obtain ⟨v', O', hr, hc, hv, d, hd⟩ := rep_ofCells hy h2
      refine ⟨v', O', ?_, hr, fun b => by have := hc b; rw [List.count_append]; omega⟩
      simp only [Instr.field, Sem.run_bind, run_underlying hu, Result.andThen_ok, hf, asAgg, Sem.run_pure, part, run_isAgg' hd]
      by_cases ha : isAggT P g.type = true
      · simp only [ha, if_true] at hv ⊢
        obtain ⟨hle, rfl⟩ := hv
        simp [run_sizeOf'' hd]
      · have ha' : isAggT P g.type = false := by simpa using ha
        simp only [ha', Bool.false_eq_true, if_false] at hv ⊢
        have : vals[g.offset]? = some v' := by
          rw [List.head?_drop] at hv; exact hv
        simp [this]
    · simp at hy
  · simp at hy

theorem op_indexAddr {t : TypeId} {x i y : V} {v vi : Value} {O Oi : List Nat} (hy : vindexAddr P t x i = some y) (h : Rep w X x v O) (hi : Rep w X i vi Oi) :
    ∃ v', (Instr.indexAt t v vi).run P w = .ok v' w ∧ Rep w X y v' [] := by
  unfold vindexAddr at hy
  split at hy
  · rename_i k n
    simp only [Rep] at hi
    obtain ⟨rfl, _⟩ := hi
    split at hy
    · rename_i len elem r off hu
      split at hy
      · rename_i hc
        obtain ⟨h0, h1, hz⟩ := hc
        simp only [Option.some.injEq] at hy; subst hy
        simp only [Rep] at h
        obtain ⟨_, b, hb, rfl⟩ := h
        refine ⟨.pointer (some ⟨b, off + n.toNat * P.cellsOf elem, none⟩), ?_, by simp only [Rep]; exact ⟨trivial, b, hb, rfl⟩⟩
        simp [Instr.indexAt, asIntOf, run_underlying hu, Instr.sureAddr, h0, h1, run_sizeOf' hz, Addr.add_lit]
      · simp at hy
    · rename_i len elem cs hu
      split at hy
      · rename_i hc
        obtain ⟨h0, h1, hz, hle⟩ := hc
        simp only [Option.some.injEq] at hy; subst hy
        simp only [Rep] at h
        obtain ⟨_, b, off, vals, rfl, hs, hω, hl⟩ := h
        refine ⟨.pointer (some ⟨b, off + n.toNat * P.cellsOf elem, none⟩), ?_, cptr_drop hs hω hl hle⟩
        simp [Instr.indexAt, asIntOf, run_underlying hu, Instr.sureAddr, h0, h1, run_sizeOf' hz, Addr.add_lit]
      · simp at hy
    · rename_i elem fl c l hu
      split at hy
      · rename_i h0
        split at hy
        · rename_i e he
          split at hy
          · rename_i hc
            obtain ⟨hlen, hok, hz, _⟩ := hc
            simp only [Option.some.injEq] at hy; subst hy
            simp only [Rep] at h
            obtain ⟨_, h⟩ := h
            rcases h with ⟨rfl, _⟩ | ⟨b, off, cap, s, vals, O', rfl, hcap, _, hvl, hs0, hxs, hs, hf, hE, _⟩
            · simp at he
            · have hes : s = P.cellsOf elem := by rw [← hlen]; exact (hxs e (List.mem_of_getElem? he)).symm
              obtain ⟨u, Oe, hr, husz, hj, hle, _⟩ := repE_get n.toNat hE he
              obtain ⟨hcells, _⟩ := rep_cells hok hr
              have hlt : n < (l.length : Int) := by have := (List.getElem?_eq_some_iff.1 he).1; omega
              refine ⟨.pointer (some ⟨b, off + n.toNat * P.cellsOf elem, none⟩), ?_, ?_⟩
              · simp [Instr.indexAt, asIntOf, run_underlying hu, h0, hlt, run_sizeOf' hz, Addr.add_lit]
              · obtain ⟨e', fz, hω, hle', _⟩ := hf
                simp only [Rep]
                refine ⟨trivial, b, off + n.toNat * P.cellsOf elem, u.cells.toList, rfl, fun j v' hv' => ?_, ⟨e', fz, hω, ?_⟩, repL_dull hcells⟩
                · have := hs _ v' (hj j v' hv')
                  rw [← hes, Nat.add_assoc]; exact this
                · rw [Array.length_toList, husz, ← hes]; omega
          · simp at hy
        · simp at hy
      · simp at hy
    · simp at hy
  · simp at hy

theorem op_index {t : TypeId} {x i y : V} {v vi : Value} {O Oi : List Nat} (hy : vindex P t x i = some y) (h : Rep w X x v O) (hi : Rep w X i vi Oi) :
    ∃ v' O', (Instr.index t v vi).run P w = .ok v' w ∧ Rep w X y v' O' ∧ (∀ b, O'.count b ≤ O.count b) := by
  unfold vindex at hy
  split at hy
  · rename_i k n len elem cs hu
    simp only [Rep] at hi
    obtain ⟨rfl, _⟩ := hi
    split at hy
    · rename_i hc
      obtain ⟨h0, h1, hz⟩ := hc
      simp only [Rep] at h
      obtain ⟨vals, rfl, hl⟩ := h
      obtain ⟨O1, O2, rfl, _, h2⟩ := repL_split (n.toNat * P.cellsOf elem) hl
      obtain ⟨v', O', hr, hc, hv, d, hd⟩ := rep_ofCells hy h2
      refine ⟨v', O', ?_, hr, fun b => by have := hc b; rw [List.count_append]; omega⟩
      simp only [Instr.index, Sem.run_bind, asIntOf, Sem.run_pure, run_underlying hu, Result.andThen_ok, h0, h1, and_self, if_true, run_sizeOf' hz, part, run_isAgg' hd]
      by_cases ha : isAggT P elem = true
      · simp only [ha, if_true] at hv ⊢
        obtain ⟨hle, rfl⟩ := hv
        simp [run_sizeOf'' hd]
      · have ha' : isAggT P elem = false := by simpa using ha
        simp only [ha', Bool.false_eq_true, if_false] at hv ⊢
        have : vals[n.toNat * P.cellsOf elem]? = some v' := by
          rw [List.head?_drop] at hv; exact hv
        simp [this]
    · simp at hy
  · rename_i k n s hu
    simp only [Rep] at hi h
    obtain ⟨rfl, _⟩ := hi
    obtain ⟨rfl, rfl⟩ := h
    split at hy
    · rename_i h0
      cases hb : s[n.toNat]? with
      | none => simp [hb] at hy
      | some c =>
        simp [hb] at hy
        subst hy
        refine ⟨.int .u8 c.toNat, [], ?_, by simp [Rep], fun b => by simp⟩
        simp [Instr.index, asIntOf, run_underlying hu, h0, hb]
    · simp at hy
  · simp at hy

theorem op_extract {l : List V} {i : Nat} {y : V} {v : Value} {O : List Nat} (hy : l[i]? = some y) (h : Rep w X (.tuple l) v O) :
    ∃ v' O', (Instr.extract v i).run P w = .ok v' w ∧ Rep w X y v' O' ∧ (∀ b, O'.count b ≤ O.count b) := by
  simp only [Rep] at h
  obtain ⟨vals, rfl, hl⟩ := h
  obtain ⟨v', Oi, hv, hr, hc⟩ := repL_get i hl hy
  exact ⟨v', Oi, by simp [Instr.extract, hv], hr, hc⟩

theorem not_nil_eq {d : TypeDesc} {t : TypeId} {x y : V} {u v : Value} {O1 O2 : List Nat} (hu : P.underlying t = some d) (hn : notNil d x y = true) (h1 : Rep w X x u O1) (h2 : Rep w X y v O2) (n : Nat) :
    (Op.equalIn (n + 1) t u v).run P w = .ok false w ∧ (∀ op xo yo, (eqGuard op t xo yo u v).run P w = .ok () w) ∧
      Go.binOp .eql t u v = (do pure (.bool (← Op.equal t u v))) ∧ Go.binOp .neq t u v = (do pure (.bool (!(← Op.equal t u v)))) := by
  unfold notNil at hn
  split at hn
  · simp only [Rep] at h1 h2
    obtain ⟨rfl, _⟩ := h2
    rcases h1.2 with ⟨hcons, _⟩ | ⟨b, off, cap, s, vals, O', rfl, _⟩
    · simp at hcons
    · exact ⟨by simp [Op.equalIn, run_underlying hu], fun op xo yo => by unfold eqGuard; split <;> simp, by simp [Go.binOp], by simp [Go.binOp]⟩
  · simp only [Rep] at h1 h2
    obtain ⟨rfl, _⟩ := h2
    obtain ⟨_, b, _, rfl⟩ := h1
    exact ⟨by simp [Op.equalIn, run_underlying hu], fun op xo yo => by unfold eqGuard; split <;> simp, by simp [Go.binOp], by simp [Go.binOp]⟩
  · simp only [Rep] at h1 h2
    obtain ⟨rfl, _⟩ := h2
    obtain ⟨_, b, off, vals, rfl, _⟩ := h1
    exact ⟨by simp [Op.equalIn, run_underlying hu], fun op xo yo => by unfold eqGuard; split <;> simp, by simp [Go.binOp], by simp [Go.binOp]⟩
  · simp only [Rep] at h1 h2
    obtain ⟨rfl, _⟩ := h2
    obtain ⟨va, vc, O1, O2, rfl, _⟩ := h1
    exact ⟨by simp [Op.equalIn, run_underlying hu], fun op xo yo => by unfold eqGuard; split <;> simp, by simp [Go.binOp], by simp [Go.binOp]⟩
  · simp at hn

theorem equal_step (t : TypeId) (u v : Value) : Op.equal t u v = Op.equalIn (9999 + 1) t u v := rfl

theorem op_bin {op : BinOp} {t : TypeId} {xo yo : Operand} {x y z : V} {u v : Value} {O1 O2 : List Nat} (hz : vbin P op t xo yo x y = some z) (h1 : Rep w X x u O1) (h2 : Rep w X y v O2) :
    ∃ v', (do eqGuard op t xo yo u v; Go.binOp op t u v : Sem Value).run P w = .ok v' w ∧ Rep w X z v' [] := by
  unfold vbin at hz
  split at hz
  · rename_i a b ha hb
    obtain ⟨rfl, rfl⟩ := rep_toVal x u O1 a ha h1
    obtain ⟨rfl, rfl⟩ := rep_toVal y v O2 b hb h2
    cases hv : valOf P (do eqGuard op t xo yo u v; Go.binOp op t u v : Sem Value) with
    | none => simp [hv] at hz
    | some r => simp [hv] at hz; subst hz; exact ⟨r, run_valOf hv, rep_ofVal r⟩
  · split at hz
    · rename_i d hu
      split at hz
      · rename_i hn
        have key : ∃ r : Bool, z = .val (.bool r) ∧ ((op = .eql ∧ r = false) ∨ (op = .neq ∧ r = true)) := by
          split at hz
          · simp only [Option.some.injEq] at hz; exact ⟨false, hz.symm, .inl ⟨rfl, rfl⟩⟩
          · simp only [Option.some.injEq] at hz; exact ⟨true, hz.symm, .inr ⟨rfl, rfl⟩⟩
          · simp at hz
        obtain ⟨r, rfl, hr⟩ := key
        obtain ⟨he, hg, hb1, hb2⟩ := not_nil_eq hu hn h1 h2 9999
        rw [← equal_step] at he
        refine ⟨.bool r, ?_, by simp [Rep]⟩
        simp only [Sem.run_bind, hg, Result.andThen_ok]
        rcases hr with ⟨rfl, rfl⟩ | ⟨rfl, rfl⟩
        · rw [hb1]; simp only [Sem.run_bind, he, Result.andThen_ok, Sem.run_pure]
        · rw [hb2]; simp only [Sem.run_bind, he, Result.andThen_ok, Sem.run_pure, Bool.not_false]
      · simp at hz
    · simp at hz
end Go.Ab
