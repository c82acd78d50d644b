/-
  ONE OPERATION, sixth part: all of those that touch no box.
-/
import Derived.Test.YtpiggpgocnlomaaAbG
set_option linter.unusedVariables false
namespace Go.Ab
open Go
variable {P : Program} {H : Hints} {f : FuncId} {w : World} {X : Cx}

theorem repL_of_le {x : V} {v : Value} {O O' : List Nat} (hl : Lin O) (hc : ∀ b, O'.count b ≤ O.count b) : Lin O' ∧ ∀ b ∈ O', b ∈ O := ⟨lin_of_le hl hc, mem_of_le hc⟩

theorem op_valL {argTypes : Array TypeId} {ty : TypeId} {xs : List V} {z : V} {vals : List Value} {O : List Nat} {s : Array TypeId → TypeId → Array Value → Sem Value}
    (hz : ((toValL xs).bind fun vs => (valOf P (s argTypes ty vs.toArray)).map ofVal) = some z) (h : RepL w X xs vals O) : ∃ v, (s argTypes ty vals.toArray).run P w = .ok v w ∧ Rep w X z v [] := by
  cases hv : toValL xs with
  | none => simp [hv] at hz
  | some vs =>
    obtain ⟨rfl, rfl⟩ := repL_toVal xs vals O vs hv h
    simp only [hv, Option.bind_some] at hz
    cases hr : valOf P (s argTypes ty vals.toArray) with
    | none => simp [hr] at hz
    | some r => simp [hr] at hz; subst hz; exact ⟨r, run_valOf hr, rep_ofVal r⟩

theorem ok_v0 {s : Sem Value} {x : V} {Oin : List Nat} {v : Value} (hd : Dom w X) (h : s.run P w = .ok v w) (hx : Rep w X x v []) : OpOk P (do pure (Next.value (← s))) w X x Oin :=
  ok_v hd h hx Lin.nil (by simp)

theorem op_len {argTypes : Array TypeId} {ty : TypeId} {fl : Fl} {c : Bool} {l : List V} {q : TypeId} {vals : List Value} {O : List Nat} (ht : (argTypes[0]?).bind P.underlying = some (.slice q)) (h : RepL w X [.sl fl c l] vals O) :
    (Builtin.len_ argTypes ty vals.toArray).run P w = .ok (.int .i64 l.length) w := by
  obtain ⟨u, rfl, hr⟩ := repL_one h
  obtain ⟨t, h0, ht⟩ := Option.bind_eq_some_iff.1 ht
  simp only [Rep] at hr
  rcases hr.2 with ⟨rfl, _, rfl | ⟨_, a, rfl⟩⟩ | ⟨b, off, cap, s, vals, O', rfl, _⟩
  · simp [Builtin.len_, h0, run_underlying ht, goInt]
  · simp [Builtin.len_, h0, run_underlying ht, goInt]
  · simp [Builtin.len_, h0, run_underlying ht, goInt]

theorem builtin_ok {b : Builtin} {argTypes : Array TypeId} {type : TypeId} {consts : Array Bool} {xs : List V} {z : V} {vals : List Value} {O : List Nat} (hd : Dom w X) (hl : Lin O) (hz : vbuiltin P b argTypes type xs = some z) (h : RepL w X xs vals O) :
    OpOk P (builtin b argTypes type consts vals.toArray) w X z O := by
  unfold vbuiltin at hz
  split at hz
  · split at hz
    · rename_i q ht
      simp only [Option.some.injEq] at hz; subst hz
      exact ok_v0 hd (op_len (ty := type) ht h) (by simp [Rep])
    · simp at hz
  · obtain ⟨u, v, O1, O2, rfl, rfl, h1, h2⟩ := repL_two h
    exact op_append hd hl hz h1 h2
  · simp at hz
  · simp at hz
  · obtain ⟨v, hr, hx⟩ := op_valL (s := Builtin.len_) hz h; exact ok_v0 hd hr hx
  · obtain ⟨v, hr, hx⟩ := op_valL (s := Builtin.max_) hz h; exact ok_v0 hd hr hx
  · obtain ⟨v, hr, hx⟩ := op_valL (s := Builtin.min_) hz h; exact ok_v0 hd hr hx
  · obtain ⟨v, hr, hx⟩ := op_valL (s := Builtin.real_) hz h; exact ok_v0 hd hr hx
  · obtain ⟨v, hr, hx⟩ := op_valL (s := Builtin.imag_) hz h; exact ok_v0 hd hr hx
  · obtain ⟨v, hr, hx⟩ := op_valL (s := Builtin.complex_) hz h; exact ok_v0 hd hr hx
  · simp at hz

theorem optRep_head {xs : List V} {ops : List Operand} {ρ : Operand → Value} {O : List Nat} {lo : Option Operand} (h : RepL w X xs ((lo.toList ++ ops).map ρ) O) :
    OptRep w X (if lo.isSome then xs.head? else none) (lo.map ρ) ∧ ∃ O', RepL w X (if lo.isSome then xs.tail else xs) (ops.map ρ) O' := by
  cases lo with
  | none => exact ⟨.inl ⟨rfl, rfl⟩, O, by simpa using h⟩
  | some a =>
    cases xs with
    | nil => simp [RepL] at h
    | cons x xs =>
      simp only [Option.toList_some, List.cons_append, List.nil_append, List.map_cons, RepL] at h
      obtain ⟨u, vs, O1, O2, he, rfl, h1, h2⟩ := h
      simp at he
      obtain ⟨rfl, rfl⟩ := he
      exact ⟨.inr ⟨x, ρ a, O1, rfl, rfl, h1⟩, O2, by simpa using h2⟩

theorem toVal_iface {t : TypeId} {x : V} {v : Value} {O : List Nat} (h : Rep w X x v O) : Rep w X (match x.toVal with | some a => .val (.iface t a) | none => .iface t x) (.iface t v) O := by
  cases hx : x.toVal with
  | none => simp only [Rep]; exact ⟨v, rfl, h⟩
  | some a =>
    obtain ⟨rfl, rfl⟩ := rep_toVal x v O a hx h
    simp [Rep]

theorem opSem_ok {o : Oper} {tk : Bool} {xs : List V} {z : V} {ρ : Operand → Value} {O : List Nat} (hd : Dom w X) (hl : Lin O) (hx : opSem P H f tk o.op o.type xs none = some (z, none)) (h : RepL w X xs (o.op.operands.toList.map ρ) O) :
    OpOk P (execOp ρ o) w X z O := by
  obtain ⟨dst, op, type, pos, after, guard⟩ := o
  simp only at hx h
  unfold opSem at hx
  simp only at hx
  split at hx
  · -- move
    obtain rfl : _ = z := by simpa using hx
    obtain ⟨u, hu, hr⟩ := repL_one h
    simp [Op.operands] at hu
    subst hu
    exact opOk_pure hd (by simp [execOp]) hr hl (fun b hb => hb)
  · obtain rfl : _ = z := by simpa using hx
    obtain ⟨u, hu, hr⟩ := repL_one h
    simp [Op.operands] at hu
    subst hu
    exact opOk_pure hd (by simp [execOp]) hr hl (fun b hb => hb)
  · -- pick
    rename_i oc oa ob c a b
    obtain rfl : _ = z := by simpa using hx
    obtain ⟨u, v, t, O1, O2, O3, hu, rfl, h1, h2, h3⟩ := repL_three h
    simp [Op.operands] at hu
    obtain ⟨hc, rfl, rfl⟩ := hu
    simp only [Rep] at h1
    obtain ⟨rfl, rfl⟩ := h1
    cases c with
    | true => exact opOk_pure (O' := O2) hd (by simp [execOp, hc, asBool]) h2 (by simpa using hl.right.left) (fun b hb => by simp [hb])
    | false => exact opOk_pure (O' := O3) hd (by simp [execOp, hc, asBool]) h3 (by simpa using hl.right.right) (fun b hb => by simp [hb])
  · -- build
    rename_i xs' t parts
    obtain ⟨z', hz, he⟩ := Option.map_eq_some_iff.1 hx
    obtain rfl : z' = z := by simpa using he
    have hop : (Op.build t parts).operands.toList = parts.toList.map (·.2) := by simp [Op.operands]
    rw [hop] at h
    obtain ⟨v, O', hr, hrep, hc⟩ := op_build hz h
    exact ok_v hd (by simpa [execOp] using hr) hrep (lin_of_le hl hc) (mem_of_le hc)
  · -- buildSlice
    rename_i xs' t len parts
    obtain ⟨z', hz, he⟩ := Option.map_eq_some_iff.1 hx
    obtain rfl : z' = z := by simpa using he
    have hop : (Op.buildSlice t len parts).operands.toList = parts.toList.map (·.2) := by simp [Op.operands]
    rw [hop] at h
    exact op_buildSlice hd hl hz h
  · -- load from elements
    rename_i t a cs
    obtain ⟨z', hz, he⟩ := Option.map_eq_some_iff.1 hx
    obtain rfl : z' = z := by simpa using he
    obtain ⟨y, hy, rfl⟩ := Option.map_eq_some_iff.1 hz
    obtain ⟨u, hu, hr⟩ := repL_one h
    simp [Op.operands] at hu
    simp only [Rep] at hr
    obtain ⟨rfl, b, off, vals, hv, hs, hω, hl'⟩ := hr
    obtain ⟨v, O', hrep, hc, hvv, d, hud⟩ := rep_ofCells hy hl'
    refine ok_v0 hd (v := v) ?_ (rep_dull hrep)
    rw [show ρ a = .pointer (some ⟨b, off, none⟩) by rw [hu, hv]]
    simp only [Instr.loadAt, Instr.sureAddr, Sem.run_bind, Sem.run_pure, Result.andThen_ok]
    exact run_loadVar' hud hs hvv
  · -- load from a box: not here
    simp at hx
  · simp at hx
  · -- nilCheck
    obtain rfl : _ = z := by simpa using hx
    obtain ⟨u, hu, hr⟩ := repL_one h
    simp [Op.operands] at hu
    subst hu
    have hr' := hr
    simp only [Rep] at hr
    obtain ⟨_, b, _, he⟩ := hr
    exact opOk_pure hd (by simp [execOp, he]) hr' hl (fun b hb => hb)
  · obtain rfl : _ = z := by simpa using hx
    obtain ⟨u, hu, hr⟩ := repL_one h
    simp [Op.operands] at hu
    subst hu
    have hr' := hr
    simp only [Rep] at hr
    obtain ⟨_, b, off, vals, he, _⟩ := hr
    exact opOk_pure hd (by simp [execOp, he]) hr' hl (fun b hb => hb)
  · obtain rfl : _ = z := by simpa using hx
    obtain ⟨u, hu, hr⟩ := repL_one h
    simp [Op.operands] at hu
    subst hu
    have hr' := hr
    simp only [Rep] at hr
    obtain ⟨va, vc, O1, O2, he, _⟩ := hr
    exact opOk_pure hd (by simp [execOp, he]) hr' hl (fun b hb => hb)
  · -- binOp
    obtain ⟨z', hz, he⟩ := Option.map_eq_some_iff.1 hx
    obtain rfl : z' = z := by simpa using he
    obtain ⟨u, v, O1, O2, hu, rfl, h1, h2⟩ := repL_two h
    simp [Op.operands] at hu
    obtain ⟨rfl, rfl⟩ := hu
    obtain ⟨v', hr, hrep⟩ := op_bin hz h1 h2
    exact ok_v0 hd hr hrep
  · -- unOp
    obtain ⟨z', hz, he⟩ := Option.map_eq_some_iff.1 hx
    obtain rfl : z' = z := by simpa using he
    obtain ⟨u, hu, hr⟩ := repL_one h
    simp [Op.operands] at hu
    subst hu
    obtain ⟨a, ha, hz⟩ := Option.bind_eq_some_iff.1 hz
    obtain ⟨r, hr', rfl⟩ := Option.map_eq_some_iff.1 hz
    obtain ⟨he, _⟩ := rep_toVal _ _ _ a ha hr
    exact ok_v0 hd (by rw [he]; exact run_valOf hr') (rep_ofVal r)
  · -- convert
    obtain ⟨z', hz, he⟩ := Option.map_eq_some_iff.1 hx
    obtain rfl : z' = z := by simpa using he
    obtain ⟨u, hu, hr⟩ := repL_one h
    simp [Op.operands] at hu
    subst hu
    unfold vconvert at hz
    split at hz
    · rename_i a ha
      obtain ⟨r, hr', rfl⟩ := Option.map_eq_some_iff.1 hz
      obtain ⟨he, _⟩ := rep_toVal _ _ _ a ha hr
      exact ok_v0 hd (by rw [he]; exact run_valOf hr') (rep_ofVal r)
    · simp at hz
  · -- makeInterface
    rename_i t _ x
    split at hx
    · simp at hx
    · simp at hx
    · rename_i d hni hu
      split at hx
      · rename_i hp
        obtain rfl : _ = z := by simpa using hx
        obtain ⟨u, hu', hr⟩ := repL_one h
        simp [Op.operands] at hu'
        subst hu'
        cases hd' : P.underlying t with
        | none => exact absurd hd' hu
        | some d =>
          refine ok_v (O' := O) hd ?_ (toVal_iface hr) hl (fun b hb => hb)
          have : ∀ ms, d ≠ .interface ms := fun ms e => hni ms (by rw [hd', e])
          simp only [Instr.makeInterface, Sem.run_bind, run_underlying hd', Result.andThen_ok]
          cases d <;> first | rfl | exact absurd rfl (this _)
      · simp at hx
  · -- makeFunc
    rename_i xs' g first captured
    obtain rfl : _ = z := by simpa using hx
    have hop : (Op.makeFunc (.func g) first captured).operands.toList = first.toList ++ captured.toList := by simp [Op.operands]
    rw [hop, List.map_append] at h
    obtain ⟨O1, O2, rfl, h1, h2⟩ := repL_split first.size h
    have e1 : (first.toList.map ρ ++ captured.toList.map ρ).take first.size = first.toList.map ρ := by
      rw [List.take_append_of_le_length (by simp), List.take_of_length_le (by simp)]
    have e2 : (first.toList.map ρ ++ captured.toList.map ρ).drop first.size = captured.toList.map ρ := by
      rw [List.drop_append_of_le_length (by simp), List.drop_eq_nil_of_le (by simp)]; rfl
    rw [e1] at h1; rw [e2] at h2
    refine ok_v (O' := O1 ++ O2) (v := .func (.func g) (first.map ρ) (captured.map ρ)) hd (by simp [Instr.makeFunc]) ?_ hl (fun b hb => hb)
    simp only [Rep]
    exact ⟨_, _, O1, O2, by congr 1 <;> (apply Array.ext'; simp), rfl, h1, h2⟩
  · -- makeSlice
    obtain ⟨z', hz, he⟩ := Option.map_eq_some_iff.1 hx
    obtain rfl : z' = z := by simpa using he
    obtain ⟨u, v, O1, O2, hu, rfl, h1, h2⟩ := repL_two h
    simp [Op.operands] at hu
    obtain ⟨rfl, rfl⟩ := hu
    exact op_makeSlice hd hz h1 h2 _
  · -- slice
    rename_i t xo lo hi mx x rest
    obtain ⟨z', hz, he⟩ := Option.map_eq_some_iff.1 hx
    obtain rfl : z' = z := by simpa using he
    have hop : (Op.slice t xo lo hi mx).operands.toList = xo :: (lo.toList ++ (hi.toList ++ mx.toList)) := by
      simp [Op.operands]
    rw [hop] at h
    simp only [List.map_cons, RepL] at h
    obtain ⟨u, vs, O1, O2, he', rfl, h1, h2⟩ := h
    simp only [List.cons.injEq] at he'
    obtain ⟨rfl, rfl⟩ := he'
    obtain ⟨r1, O3, h3⟩ := optRep_head h2
    obtain ⟨r2, O4, h4⟩ := optRep_head h3
    have h4' : RepL w X (if hi.isSome then (if lo.isSome then rest.tail else rest).tail else (if lo.isSome then rest.tail else rest)) ((mx.toList ++ []).map ρ) O4 := by simpa using h4
    obtain ⟨r3, _, _⟩ := optRep_head h4'
    obtain ⟨v', hr, hrep⟩ := op_slice hz h1 r1 r2 r3
    exact ok_v0 hd hr hrep
  · -- fieldAddr
    obtain ⟨z', hz, he⟩ := Option.map_eq_some_iff.1 hx
    obtain rfl : z' = z := by simpa using he
    obtain ⟨u, hu, hr⟩ := repL_one h
    simp [Op.operands] at hu
    subst hu
    obtain ⟨v', hr', hrep⟩ := op_fieldAddr hz hr
    exact ok_v0 hd hr' hrep
  · -- field
    obtain ⟨z', hz, he⟩ := Option.map_eq_some_iff.1 hx
    obtain rfl : z' = z := by simpa using he
    obtain ⟨u, hu, hr⟩ := repL_one h
    simp [Op.operands] at hu
    subst hu
    obtain ⟨v', O', hr', hrep, hc⟩ := op_field hz hr
    exact ok_v hd hr' hrep (lin_of_le hl hc) (mem_of_le hc)
  · -- indexAddr
    obtain ⟨z', hz, he⟩ := Option.map_eq_some_iff.1 hx
    obtain rfl : z' = z := by simpa using he
    obtain ⟨u, v, O1, O2, hu, rfl, h1, h2⟩ := repL_two h
    simp [Op.operands] at hu
    obtain ⟨rfl, rfl⟩ := hu
    obtain ⟨v', hr, hrep⟩ := op_indexAddr hz h1 h2
    exact ok_v0 hd hr hrep
  · -- index
    obtain ⟨z', hz, he⟩ := Option.map_eq_some_iff.1 hx
    obtain rfl : z' = z := by simpa using he
    obtain ⟨u, v, O1, O2, hu, rfl, h1, h2⟩ := repL_two h
    simp [Op.operands] at hu
    obtain ⟨rfl, rfl⟩ := hu
    obtain ⟨v', O', hr, hrep, hc⟩ := op_index hz h1 h2
    exact ok_v hd hr hrep (lin_of_le hl.left hc) (fun b hb => by simp [mem_of_le hc b hb])
  · -- extract
    obtain ⟨z', hz, he⟩ := Option.map_eq_some_iff.1 hx
    obtain rfl : z' = z := by simpa using he
    obtain ⟨u, hu, hr⟩ := repL_one h
    simp [Op.operands] at hu
    subst hu
    obtain ⟨v', O', hr', hrep, hc⟩ := op_extract hz hr
    exact ok_v hd hr' hrep (lin_of_le hl hc) (mem_of_le hc)
  · -- builtin
    rename_i xs' b args argTypes
    obtain ⟨z', hz, he⟩ := Option.map_eq_some_iff.1 hx
    obtain rfl : z' = z := by simpa using he
    have hop : (Op.call { callee := .builtin b, args, argTypes }).operands.toList = args.toList := by simp [Op.operands, Call.operands]
    rw [hop] at h
    have e : (args.toList.map ρ).toArray = args.map ρ := by apply Array.ext'; simp
    show OpOk P (builtin b argTypes type _ (args.map ρ)) w X z' O
    rw [← e]
    exact builtin_ok hd hl hz h
  · simp at hx
end Go.Ab
