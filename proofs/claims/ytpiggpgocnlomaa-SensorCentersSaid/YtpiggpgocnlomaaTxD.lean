/-
  ONE OPERATION (second part): made slices, appends, operators, conversions, builtins; all operations.
-/
import Derived.Test.YtpiggpgocnlomaaTxC
set_option linter.unusedVariables false
namespace Go.Tx
open Go Go.Ab
variable {P : Program} {H : Hints} {f : FuncId}

theorem tmakeSlice_ok {t : TypeId} {len cap : TV} {len' cap' : V} {R : Type} {k : TV → Option R} {r : R} (hl : RV len len') (hc : RV cap cap') (h : tmakeSlice P H f t len cap R k = some r) :
    ∃ y u, k y = some r ∧ vmakeSlice P H f t len' cap' = some u ∧ RV y u := by
  unfold tmakeSlice at h
  split at h
  · rename_i elem hu
    split at h
    · rename_i z τ n c hz hτ hn hcc
      obtain ⟨z', hz', hzr, hzc⟩ := zeroT_ok hz
      obtain ⟨k1, rfl⟩ := tint_ok hn hl
      obtain ⟨k2, rfl⟩ := tint_ok hcc hc
      split at h
      · rename_i hcond
        obtain ⟨h0, hcl, hok, hby, _, _, hup⟩ := hcond
        obtain ⟨hup1, hup2⟩ := nx_up hup
        split at h
        · rename_i x hx
          obtain ⟨q, hq, hk⟩ := Option.bind_eq_some_iff.1 h
          obtain ⟨hcn, hk1⟩ := bcond hk
          subst hcn
          obtain ⟨h1, h2, rfl⟩ := mkS_some hq
          have hrt := asTy_ok _ _ _ _ _ hx hzr
          refine ⟨_, .sl .own false (List.replicate c.toNat z'), hk1, ?_, ?_⟩
          · unfold vmakeSlice
            rw [hu]; simp only
            rw [hz', natOf_int h1, natOf_int h1]
            simp only
            have hbb : P.bytesOf elem * c.toNat ≤ 8192 * 4294967296 := Nat.mul_le_mul hby (by omega)
            rw [if_pos ⟨Nat.le_refl _, fun h => h, h0, by rw [hzc.length]; exact hcl, (RV.cells hok hzr).2, by rw [rty_ptrs _ _ _ _ hrt]; rfl, by omega, by omega⟩]
          · simp only [RV, RTy]
            exact ⟨.own, false, _, rfl, flr_own hup, by rw [hup1]; exact All2.replicate hrt _⟩
        · cases h
      · cases h
    · cases h
  · cases h

theorem big {s b : Nat} (h1 : s ≤ 4294967296) (h2 : b ≤ 8192) : (s + 512) * b ≤ 70368744177664 := by
  have := Nat.mul_le_mul (Nat.add_le_add_right h1 512) h2
  omega

def tailV (yt : TypeDesc) (y : V) : Option (List V) := match yt, y with
  | .slice _, .sl _ _ l => some l
  | .slice _, .val (.slice none 0 0) => some []
  | .string, .val (.string b) => some (b.data.toList.map fun c => .val (.int .u8 c.toNat))
  | _, _ => none
theorem vappend_eq {argTypes : Array TypeId} {elem : TypeId} {yt : TypeDesc} {x y : V} (h0 : (argTypes[0]?).bind P.underlying = some (.slice elem)) (h1 : (argTypes[1]?).bind P.underlying = some yt) :
    vappend P argTypes x y = match tailV yt y with
    | none => none
    | some l2 =>
      if P.cellsOf elem = 0 ∨ ((P.info? elem).bind (·.zero)).map (fun z => z.cells.size) ≠ some (P.cellsOf elem) ∨ l2.all (fun e => decide (e.cells.length = P.cellsOf elem) && e.oks) = false ∨ (ptrsL l2).isEmpty = false then none else
      match x with
      | .val (.slice none 0 0) => if l2.isEmpty then some x else if (l2.length + 512) * P.bytesOf elem ≤ 70368744177664 ∧ l2.length ≤ 70368744177664 then some (.sl .own false l2) else none
      | .sl fl c l =>
        if l.all (fun e => decide (e.cells.length = P.cellsOf elem)) = true ∧ (l.length + l2.length + 512) * P.bytesOf elem ≤ 70368744177664 ∧ l.length + l2.length ≤ 70368744177664 then
          (if fl = .own then some (.sl .own false (l ++ l2))
          else if c then (if l2.isEmpty then some x else some (.sl .own false (l ++ l2)))
          else none)
        else none
      | _ => none := by
  unfold vappend
  rw [h0, h1]
  rfl

theorem tail_ok {yt : TypeDesc} {y : TV} {τ : Ty} {o : Nat} {l : List τ.den} {v : V} (h : tail? yt y = some ⟨τ, (o, l)⟩) (hy : RV y v) :
    ∃ l', tailV yt v = some l' ∧ All2 (RTy τ o) l l' := by
  unfold tail? at h
  split at h
  · split at h
    · simp only [Option.some.injEq, Sigma.mk.injEq] at h
      obtain ⟨rfl, h⟩ := h
      obtain ⟨rfl, rfl⟩ := Prod.mk.inj (eq_of_heq h)
      simp only [RV, RTy] at hy; obtain ⟨f, c, l', rfl, _, hall⟩ := hy
      exact ⟨l', rfl, hall⟩
    · cases h
  · split at h
    · simp only [Option.some.injEq, Sigma.mk.injEq] at h
      obtain ⟨rfl, h⟩ := h
      obtain ⟨rfl, rfl⟩ := Prod.mk.inj (eq_of_heq h)
      simp only [RV] at hy; obtain ⟨f, l', rfl, _, hall⟩ := hy
      exact ⟨l', rfl, hall⟩
    · cases h
  · rename_i s
    split at h
    · simp only [Option.some.injEq, Sigma.mk.injEq] at h
      obtain ⟨rfl, h⟩ := h
      obtain ⟨rfl, rfl⟩ := Prod.mk.inj (eq_of_heq h)
      simp only [RV, RTy] at hy; subst hy
      refine ⟨_, rfl, ?_⟩
      simp only
      clear h
      have : ∀ s' : List UInt8, All2 (RTy (.int .u8) 0) (s'.map fun c => (c.toNat : Int)) (s'.map fun c => V.val (.int .u8 c.toNat)) := fun s' => by
        induction s' with
        | nil => exact .nil
        | cons c s ih => exact .cons (by simp [RTy]) ih
      simpa using this s
    · cases h
  · cases h

/-- the length of what is appended, and what it is like -/
theorem vappend_own {argTypes : Array TypeId} {elem : TypeId} {yt : TypeDesc} {l l2 : List V} {y : V}
    (h0 : (argTypes[0]?).bind P.underlying = some (.slice elem)) (h1 : (argTypes[1]?).bind P.underlying = some yt)
    (hy : tailV yt y = some l2)
    (hs0 : P.cellsOf elem ≠ 0) (hz : ((P.info? elem).bind (·.zero)).map (fun z => z.cells.size) = some (P.cellsOf elem))
    (hl2 : ∀ e ∈ l2, e.cells.length = P.cellsOf elem ∧ e.oks = true ∧ e.ptrs = []) (hl : ∀ e ∈ l, e.cells.length = P.cellsOf elem)
    (hn : l.length + l2.length ≤ 4294967296) (hb : P.bytesOf elem ≤ 8192) :
    (∀ c, vappend P argTypes (.sl .own c l) y = some (.sl .own false (l ++ l2))) ∧ (l2 ≠ [] → ∀ f, f ≠ .own → vappend P argTypes (.sl f true l) y = some (.sl .own false (l ++ l2))) := by
  have hp : ptrsL l2 = [] := by
    apply List.eq_nil_iff_forall_not_mem.2
    intro r hr
    obtain ⟨v, hv, hrv⟩ := ptrsL_mem.1 hr
    rw [(hl2 v hv).2.2] at hrv; cases hrv
  have hall2 : l2.all (fun e => decide (e.cells.length = P.cellsOf elem) && e.oks) = true := by
    rw [List.all_eq_true]; intro e he; simp [(hl2 e he).1, (hl2 e he).2.1]
  have hall : l.all (fun e => decide (e.cells.length = P.cellsOf elem)) = true := by
    rw [List.all_eq_true]; intro e he; simp [hl e he]
  have hbig := big (s := l.length + l2.length) hn hb
  have hun : ∀ (f : Fl) (c : Bool), vappend P argTypes (.sl f c l) y = if l.all (fun e => decide (e.cells.length = P.cellsOf elem)) = true ∧ (l.length + l2.length + 512) * P.bytesOf elem ≤ 70368744177664 ∧ l.length + l2.length ≤ 70368744177664 then
          (if f = .own then some (.sl .own false (l ++ l2))
          else if c then (if l2.isEmpty then some (.sl f c l) else some (.sl .own false (l ++ l2)))
          else none)
        else none := fun f c => by
    rw [vappend_eq h0 h1, hy]; simp only
    rw [if_neg (by simp only [not_or, Decidable.not_not, Bool.not_eq_false]; exact ⟨hs0, hz, hall2, by rw [hp]; rfl⟩)]
  refine ⟨fun c => ?_, fun hne f hf => ?_⟩
  · rw [hun, if_pos ⟨hall, hbig, by omega⟩, if_pos rfl]
  · rw [hun, if_pos ⟨hall, hbig, by omega⟩, if_neg hf, if_pos rfl, if_neg (by simpa using hne)]

theorem tappend_ok {argTypes : Array TypeId} {x y : TV} {x' y' : V} {R : Type} {k : TV → Option R} {r : R} (hx : RV x x') (hy : RV y y') (h : tappend P argTypes x y R k = some r) :
    ∃ z u, k z = some r ∧ vappend P argTypes x' y' = some u ∧ RV z u := by
  unfold tappend at h
  split at h
  · rename_i elem yt h0 h1
    split at h
    · -- nothing is appended
      rename_i ow
      simp only [RV] at hy; obtain ⟨fy, cy, rfl, _⟩ := hy
      split at h
      · rename_i e τ o l
        split at h
        · rename_i hc
          obtain ⟨ho, hcl, hs0, hz, hb, hok, hel⟩ := hc
          obtain ⟨q, hq, hk⟩ := Option.bind_eq_some_iff.1 h
          obtain ⟨hn, rfl⟩ := app_some hq
          simp only [RV, RTy] at hx; obtain ⟨fx, cx, l', rfl, hfx, hall⟩ := hx
          have hfo : fx = .own := hfx.own ho
          subst hfo
          have hv := (vappend_own (l := l') (l2 := []) (y := .sl fy cy []) h0 h1 rfl hs0 hz (by simp) (fun e he => by rw [(all2_cells hel hall e he).1, hcl]) (by rw [hall.length]; exact hn) hb).1 cx
          refine ⟨_, _, hk, hv, ?_⟩
          simp only [RV, RTy]
          exact ⟨.own, false, _, rfl, flr_own ho, by simpa using hall⟩
        · cases h
      · rename_i e
        split at h
        · rename_i hc
          obtain ⟨hoe, hs0, hz, hb⟩ := hc
          simp only [RV] at hx; obtain ⟨fx, cx, rfl, hfx⟩ := hx
          have hfo : fx = .own := hfx.own hoe
          subst hfo
          have hv := (vappend_own (l := []) (l2 := []) (y := .sl fy cy []) h0 h1 rfl hs0 hz (by simp) (by simp) (by simp) hb).1 cx
          exact ⟨_, _, h, hv, by simp only [RV]; exact ⟨_, _, rfl, hfx⟩⟩
        · cases h
      · cases h
    · split at h
      · cases h
      · rename_i τ o2 l2 ht
        obtain ⟨l2', hl2', hall2⟩ := tail_ok ht hy
        split at h
        · rename_i hc
          obtain ⟨hcl, hs0, hz, hb, hok, hel⟩ := hc
          have hc2 : ∀ e ∈ l2', e.cells.length = P.cellsOf elem ∧ e.oks = true ∧ e.ptrs = [] := fun e he => by
            obtain ⟨h1, h2, h3⟩ := all2_cells hel hall2 e he
            exact ⟨by rw [h1, hcl], h2, h3⟩
          split at h
          · rename_i τ' o l
            split at h
            · rename_i he
              subst he
              split at h
              · rename_i hoo
                obtain ⟨q, hq, hk⟩ := Option.bind_eq_some_iff.1 h
                obtain ⟨hn, rfl⟩ := app_some hq
                simp only [RV, RTy] at hx; obtain ⟨fx, cx, l', rfl, hfx, hall⟩ := hx
                have hfo : fx = .own := hfx.own hoo.1
                subst hfo
                have hv := (vappend_own (l := l') (l2 := l2') h0 h1 hl2' hs0 hz hc2 (fun e he => by rw [(all2_cells hel hall e he).1, hcl]) (by rw [hall.length, hall2.length]; exact hn) hb).1 cx
                refine ⟨_, _, hk, hv, ?_⟩
                simp only [RV, RTy]
                exact ⟨.own, false, _, rfl, flr_own hoo.1, hall.append (hall2.mono fun a b hab => rty_lev _ _ _ _ _ hoo.2 hab)⟩
              · cases h
            · cases h
          · split at h
            · rename_i hup0
              obtain ⟨hoe, hup⟩ := hup0
              obtain ⟨hup1, hup2⟩ := nx_up hup
              obtain ⟨q, hq, hk⟩ := Option.bind_eq_some_iff.1 h
              obtain ⟨hn, rfl⟩ := app_some hq
              simp only [RV] at hx; obtain ⟨fx, cx, rfl, hfx⟩ := hx
              have hfo : fx = .own := hfx.own hoe
              subst hfo
              have hv := (vappend_own (l := []) (l2 := l2') h0 h1 hl2' hs0 hz hc2 (by simp) (by rw [hall2.length]; simpa using hn) hb).1 cx
              refine ⟨_, _, hk, hv, ?_⟩
              simp only [RV, RTy]
              exact ⟨.own, false, _, rfl, flr_own hup, by rw [hup1]; simpa using hall2⟩
            · cases h
          · rename_i τ' l
            split at h
            · rename_i he
              subst he
              split at h
              · rename_i hoo
                split at h
                · cases h
                · rename_i e l3
                  obtain ⟨q, hq, hk⟩ := Option.bind_eq_some_iff.1 h
                  obtain ⟨hn, rfl⟩ := app_some hq
                  simp only [RV] at hx; obtain ⟨fx, l', rfl, hfx, hall⟩ := hx
                  have hne : l2' ≠ [] := by cases hall2; simp
                  have hv := (vappend_own (l := l') (l2 := l2') h0 h1 hl2' hs0 hz hc2 (fun e he => by rw [(all2_cells hel hall e he).1, hcl]) (by rw [hall.length, hall2.length]; exact hn) hb).2 hne fx hfx
                  refine ⟨_, _, hk, hv, ?_⟩
                  simp only [RV, RTy]
                  refine ⟨.own, false, _, rfl, flr_own rfl, hall.append (hall2.mono fun a b hab => ?_)⟩
                  show RTy _ 0 a b
                  rcases hoo with hoo | hoo
                  · exact rty_lev _ _ _ _ _ (by rw [hoo]; rfl) hab
                  · refine rty_dl0 _ o2 a b ?_
                    rcases isOwn_not.1 hoo.1 with h | h | h
                    · subst h; exact hab
                    · subst h; exact hab
                    · exact absurd h hoo.2
              · cases h
            · cases h
          · cases h
        · cases h
  · cases h

/-! ### operators -/
theorem toVal_int (k : IntKind) (n : Int) : (V.val (.int k n)).toVal = some (.int k n) := rfl
theorem vbin_val {op : BinOp} {t : TypeId} {xo yo : Operand} {a b u : Value} (h : Ab.valOf P (do eqGuard op t xo yo a b; Go.binOp op t a b) = some u) : vbin P op t xo yo (.val a) (.val b) = some (ofVal u) := by
  unfold vbin
  simp only [V.toVal, h, Option.map_some]
theorem valOf_bind {α β : Type} (s : Sem α) (g : α → Sem β) : Ab.valOf P (s >>= g) = (Ab.valOf P s).bind fun a => Ab.valOf P (g a) := by
  induction s with
  | pure a => rfl
  | program k ih => exact ih P
  | mark m k ih => exact ih
  | _ => rfl
theorem valOf_pure {α : Type} (a : α) : Ab.valOf P (pure a) = some a := rfl

theorem tbin_int {op : BinOp} {t : TypeId} {xo yo : Operand} {k1 : IntKind} {a b : Int} {R : Type} {k : TV → Option R} {r : R} {o1 o2 : Nat} (h : tbin P op t (.t (.int k1) o1 a) (.t (.int k1) o2 b) R k = some r) :
    ∃ z u, k z = some r ∧ vbin P op t xo yo (.val (.int k1 a)) (.val (.int k1 b)) = some u ∧ RV z u := by
  have hrem : ∀ {z : TV}, (bif decide (b = 0) then none else k z) = some r → b ≠ 0 ∧ k z = some r := fun {z} h => by
    cases hd : decide (b = 0) with
    | true => rw [hd] at h; cases h
    | false => rw [hd] at h; exact ⟨of_decide_eq_false hd, h⟩
  cases op <;> simp only [tbin, if_true] at h <;> try (cases h; done)
  case quo =>
    obtain ⟨h0, h⟩ := hrem h
    refine ⟨_, .val (.int k1 (k1.wrap (a.tdiv b))), h, ?_, by simp [RV, RTy]⟩
    exact vbin_val (u := .int k1 (k1.wrap (a.tdiv b))) (by simp [eqGuard, Go.binOp, Op.intDiv, h0, valOf_pure])
  case rem =>
    obtain ⟨h0, h⟩ := hrem h
    refine ⟨_, .val (.int k1 (a.tmod b)), h, ?_, by simp [RV, RTy]⟩
    exact vbin_val (u := .int k1 (a.tmod b)) (by simp [eqGuard, Go.binOp, Op.intDiv, h0, valOf_pure])
  case add =>
    refine ⟨_, .val (.int k1 (k1.wrap (a + b))), h, ?_, by simp [RV, RTy]⟩
    exact vbin_val (u := .int k1 (k1.wrap (a + b))) (by simp [eqGuard, Go.binOp, Op.intArith, valOf_pure])
  case sub =>
    refine ⟨_, .val (.int k1 (k1.wrap (a - b))), h, ?_, by simp [RV, RTy]⟩
    exact vbin_val (u := .int k1 (k1.wrap (a - b))) (by simp [eqGuard, Go.binOp, Op.intArith, valOf_pure])
  case mul =>
    refine ⟨_, .val (.int k1 (k1.wrap (a * b))), h, ?_, by simp [RV, RTy]⟩
    exact vbin_val (u := .int k1 (k1.wrap (a * b))) (by simp [eqGuard, Go.binOp, Op.intArith, valOf_pure])
  case eql =>
    refine ⟨_, .val (.bool (decide (a = b))), h, ?_, by simp [RV, RTy]⟩
    exact vbin_val (u := .bool (decide (a = b))) (by simp [eqGuard, Go.binOp, Op.intCmp, valOf_pure]; rfl)
  case neq =>
    refine ⟨_, .val (.bool (!decide (a = b))), h, ?_, by simp [RV, RTy]⟩
    exact vbin_val (u := .bool (!decide (a = b))) (by simp [eqGuard, Go.binOp, Op.intCmp, valOf_pure, bne]; rfl)
  case lss =>
    refine ⟨_, .val (.bool (decide (a < b))), h, ?_, by simp [RV, RTy]⟩
    exact vbin_val (u := .bool (decide (a < b))) (by simp [eqGuard, Go.binOp, Op.intCmp, valOf_pure])
  case leq =>
    refine ⟨_, .val (.bool (decide (a ≤ b))), h, ?_, by simp [RV, RTy]⟩
    exact vbin_val (u := .bool (decide (a ≤ b))) (by simp [eqGuard, Go.binOp, Op.intCmp, valOf_pure])
  case gtr =>
    refine ⟨_, .val (.bool (decide (a > b))), h, ?_, by simp [RV, RTy]⟩
    exact vbin_val (u := .bool (decide (a > b))) (by simp [eqGuard, Go.binOp, Op.intCmp, valOf_pure])
  case geq =>
    refine ⟨_, .val (.bool (decide (a ≥ b))), h, ?_, by simp [RV, RTy]⟩
    exact vbin_val (u := .bool (decide (a ≥ b))) (by simp [eqGuard, Go.binOp, Op.intCmp, valOf_pure])
theorem lit_toList (s : List UInt8) : (⟨s.toArray⟩ : ByteArray).toList = s := ByteArray.toList_mk s
theorem tbin_str {op : BinOp} {t : TypeId} {xo yo : Operand} {a b : List UInt8} {R : Type} {k : TV → Option R} {r : R} {o1 o2 : Nat} (h : tbin P op t (.t .str o1 a) (.t .str o2 b) R k = some r) :
    ∃ z u, k z = some r ∧ vbin P op t xo yo (.val (.string ⟨a.toArray⟩)) (.val (.string ⟨b.toArray⟩)) = some u ∧ RV z u := by
  cases op <;> simp only [tbin] at h <;> try (cases h; done)
  case eql =>
    refine ⟨_, .val (.bool (decide (a = b))), h, ?_, by simp [RV, RTy]⟩
    exact vbin_val (u := .bool (decide (a = b))) (by simp [eqGuard, binOp_string_eql, valOf_pure]; rw [Bool.eq_iff_iff]; simp)
  case neq =>
    refine ⟨_, .val (.bool (!decide (a = b))), h, ?_, by simp [RV, RTy]⟩
    exact vbin_val (u := .bool (!decide (a = b))) (by simp [eqGuard, binOp_string_neq, valOf_pure]; rw [Bool.eq_iff_iff]; simp)
  case lss =>
    refine ⟨_, .val (.bool (Op.bytesLess a b)), h, ?_, by simp [RV, RTy]⟩
    exact vbin_val (u := .bool (Op.bytesLess a b)) (by simp [eqGuard, binOp_string_lss, valOf_pure])
  case add =>
    obtain ⟨q, hq, hk⟩ := Option.bind_eq_some_iff.1 h
    obtain ⟨hn, rfl⟩ := app_some hq
    refine ⟨_, .val (.string ⟨(a ++ b).toArray⟩), hk, ?_, by simp [RV, RTy]⟩
    refine vbin_val (u := .string ⟨(a ++ b).toArray⟩) ?_
    have h1 : (⟨a.toArray⟩ : ByteArray).size = a.length := by simp [ByteArray.size]
    have h2 : (⟨b.toArray⟩ : ByteArray).size = b.length := by simp [ByteArray.size]
    have h3 : (⟨a.toArray⟩ ++ ⟨b.toArray⟩ : ByteArray) = ⟨(a ++ b).toArray⟩ := by apply ByteArray.ext; simp
    have h4 : ¬ (((⟨a.toArray⟩ : ByteArray).size + (⟨b.toArray⟩ : ByteArray).size : Nat) : Int) > IntKind.i64.max := by
      rw [h1, h2]; simp only [IntKind.max, IntKind.signed, IntKind.bits, if_true]; omega
    have h5 : Go.binOp .add t (.string ⟨a.toArray⟩) (.string ⟨b.toArray⟩) = pure (.string ⟨(a ++ b).toArray⟩) := by
      simp only [Go.binOp, Op.stringOp]
      rw [if_neg h4, h3]
    simp only [eqGuard]
    rw [h5]
    rfl

theorem valOf_underlying {t : TypeId} {d : TypeDesc} (h : P.underlying t = some d) : Ab.valOf P (underlying t) = some d := by
  unfold Go.underlying
  simp only [valOf_bind]
  have h1 : Ab.valOf P Go.program = some P := rfl
  simp only [h1, Option.bind_some, h]
  rfl

/-! ### equality -/
theorem equalIn_bool {n : Nat} {t : TypeId} (h : P.underlying t = some .bool) (a b : Bool) : Ab.valOf P (Op.equalIn (n + 1) t (.bool a) (.bool b)) = some (a == b) := by
  unfold Op.equalIn
  rw [valOf_bind, valOf_underlying h]
  rfl
theorem equalIn_int {n : Nat} {t : TypeId} {k0 : IntKind} (h : P.underlying t = some (.int k0)) (k : IntKind) (a b : Int) : Ab.valOf P (Op.equalIn (n + 1) t (.int k a) (.int k b)) = some (decide (a = b)) := by
  unfold Op.equalIn
  rw [valOf_bind, valOf_underlying h]
  simp only [Option.bind_some, if_true]
  rfl
theorem equalIn_str {n : Nat} {t : TypeId} (h : P.underlying t = some .string) (a b : List UInt8) : Ab.valOf P (Op.equalIn (n + 1) t (.string ⟨a.toArray⟩) (.string ⟨b.toArray⟩)) = some (decide (a = b)) := by
  unfold Op.equalIn
  rw [valOf_bind, valOf_underlying h]
  simp only [Option.bind_some]
  show some ((⟨a.toArray⟩ : ByteArray) == ⟨b.toArray⟩) = _
  rw [Option.some.injEq, Bool.eq_iff_iff]
  first
  | (show (a.toArray == b.toArray) = true ↔ decide (a = b) = true; simp)
  | (show decide ((⟨a.toArray⟩ : ByteArray) = ⟨b.toArray⟩) = true ↔ decide (a = b) = true; simp)

/-- scalars as values -/
def RelV (x : TV) (u : Value) : Prop := (scal x = true ∧ RV x (.val u)) ∨ ∃ (l : List TV) (vs : List Value), x = .agg l ∧ u = .agg vs.toArray ∧ l.all scal = true ∧ RVL l (vs.map .val)
theorem scal_val {x : TV} {v : V} (h : scal x = true) (hr : RV x v) : ∃ u, v = .val u := by
  cases x with
  | t τ o x => cases τ <;> simp only [RV, RTy] at hr <;> first | exact ⟨_, hr⟩ | simp [scal] at h
  | _ => simp [scal] at h
theorem scal_vals : ∀ {l : List TV} {l' : List V}, l.all scal = true → RVL l l' → ∃ vs : List Value, l' = vs.map .val
  | [], l', _, h => by simp only [RVL] at h; exact ⟨[], by simp [h]⟩
  | x :: l, l', h1, h => by
    simp only [RVL] at h; obtain ⟨v, m, rfl, h2, h3⟩ := h
    simp only [List.all_cons, Bool.and_eq_true] at h1
    obtain ⟨u, rfl⟩ := scal_val h1.1 h2
    obtain ⟨vs, rfl⟩ := scal_vals h1.2 h3
    exact ⟨u :: vs, rfl⟩
theorem toValL_vals : ∀ vs : List Value, toValL (vs.map .val) = some vs
  | [] => rfl
  | u :: vs => by simp [toValL, V.toVal, toValL_vals vs]
theorem valOf_typeInfo {t : TypeId} {i : TypeInfo} (h : P.info? t = some i) : Ab.valOf P (typeInfo t) = some i := by
  unfold typeInfo
  simp only [valOf_bind]
  have h1 : Ab.valOf P Go.program = some P := rfl
  simp only [h1, Option.bind_some, h]
  rfl
theorem underlying_info {t : TypeId} {d : TypeDesc} (h : P.underlying t = some d) : ∃ i, P.info? t = some i := by
  unfold Program.underlying at h
  cases hi : P.info? t with
  | none => rw [hi] at h; cases h
  | some i => exact ⟨i, rfl⟩
theorem part_ok {t : TypeId} {xs : List TV} {vs : List Value} {off : Nat} {u : TV} (hs : xs.all scal = true) (hr : RVL xs (vs.map .val)) (h : ofCellsT P t (xs.drop off) = some u) :
    ∃ w, Ab.valOf P (part t vs.toArray off) = some w ∧ RelV u w := by
  unfold ofCellsT at h
  split at h
  · cases h
  · rename_i d hd
    obtain ⟨i, hi⟩ := underlying_info hd
    have hsz : Ab.valOf P (sizeOf t) = some (P.cellsOf t) := by
      unfold sizeOf
      rw [valOf_bind, valOf_typeInfo hi]
      simp [Program.cellsOf, hi, valOf_pure]
    have hag : Ab.valOf P (isAgg t) = some (isAggT P t) := by
      unfold isAgg isAggT
      rw [valOf_bind, valOf_underlying hd, hd]
      cases d <;> rfl
    unfold part
    rw [valOf_bind, hag]
    simp only [Option.bind_some]
    split at h
    · rename_i ha
      rw [if_pos ha]
      split at h
      · rename_i hl
        cases h
        rw [valOf_bind, hsz]
        refine ⟨_, rfl, .inr ⟨_, (vs.drop off).take (P.cellsOf t), rfl, ?_, ?_, ?_⟩⟩
        · congr 1
          apply Array.ext'
          simp [List.take_drop]
        · rw [List.all_eq_true] at hs ⊢
          exact fun y hy => hs y (List.mem_of_mem_drop (List.mem_of_mem_take hy))
        · rw [List.map_take, List.map_drop]
          exact (hr.drop off).take _
      · cases h
    · rename_i ha
      rw [if_neg ha]
      have hx : xs[off]? = some u := by simpa [List.head?_drop] using h
      obtain ⟨v, hv, hrv⟩ := hr.get hx
      rw [List.getElem?_map] at hv
      obtain ⟨w, hw, rfl⟩ := Option.map_eq_some_iff.1 hv
      have hw' : vs.toArray[off]? = some w := by simpa using hw
      rw [hw']
      refine ⟨w, rfl, .inl ⟨?_, hrv⟩⟩
      rw [List.all_eq_true] at hs
      exact hs u (List.mem_of_getElem? hx)

theorem teq_ok : ∀ (d : Nat) (t : TypeId) (x y : TV) (b : Bool), teq P d t x y = some b → ∀ n, d ≤ n → ∀ u v, RelV x u → RelV y v → Ab.valOf P (Op.equalIn n t u v) = some b
  | 0, t, x, y, b, h, n, hn, u, v, hu, hv => by simp [teq] at h
  | d + 1, t, x, y, b, h, n, hn, u, v, hu, hv => by
    obtain ⟨n, rfl⟩ : ∃ m, n = m + 1 := ⟨n - 1, by omega⟩
    unfold teq at h
    split at h
    · rename_i k0 k o a k' o' a' ht
      split at h
      · rename_i hk
        subst hk
        cases h
        rcases hu with ⟨_, hu⟩ | ⟨_, _, hu, _⟩
        · rcases hv with ⟨_, hv⟩ | ⟨_, _, hv, _⟩
          · simp only [RV, RTy, V.val.injEq] at hu hv
            subst hu; subst hv
            exact equalIn_int ht _ _ _
          · cases hv
        · cases hu
      · cases h
    · rename_i o a o' a' ht
      cases h
      rcases hu with ⟨_, hu⟩ | ⟨_, _, hu, _⟩
      · rcases hv with ⟨_, hv⟩ | ⟨_, _, hv, _⟩
        · simp only [RV, RTy, V.val.injEq] at hu hv
          subst hu; subst hv
          exact equalIn_bool ht _ _
        · cases hv
      · cases hu
    · rename_i o a o' a' ht
      cases h
      rcases hu with ⟨_, hu⟩ | ⟨_, _, hu, _⟩
      · rcases hv with ⟨_, hv⟩ | ⟨_, _, hv, _⟩
        · simp only [RV, RTy, V.val.injEq] at hu hv
          subst hu; subst hv
          exact equalIn_str ht _ _
        · cases hv
      · cases hu
    · rename_i fields xs ys ht
      split at h
      · cases h
      · rename_i hheld
        rcases hu with ⟨hu, _⟩ | ⟨l, vs, hl, rfl, hsx, hrx⟩
        · simp [scal] at hu
        · rcases hv with ⟨hv, _⟩ | ⟨m, ws, hm, rfl, hsy, hry⟩
          · simp [scal] at hv
          · cases hl; cases hm
            unfold Op.equalIn
            rw [valOf_bind, valOf_underlying ht]
            simp only [Option.bind_some]
            rw [valOf_bind]
            have h1 : Ab.valOf P Go.program = some P := rfl
            simp only [h1, Option.bind_some]
            rw [if_neg hheld, valOf_bind, ← Array.forIn_toList]
            have key : ∀ (fs : List Field) (b : Bool), fs.foldr (fun fd acc => if fd.name = "_" then none else
                match ofCellsT P fd.type (xs.drop fd.offset), ofCellsT P fd.type (ys.drop fd.offset), acc with
                | some u, some v, some b => (teq P d fd.type u v).map fun a => bif a then b else false
                | _, _, _ => none) (some true) = some b →
                Ab.valOf P (forIn fs ((none : Option Bool), ()) fun f __s => (
                  if f.name ≠ "_" then do
                    let __do_lift ← part f.type vs.toArray f.offset
                    let __do_lift_1 ← part f.type ws.toArray f.offset
                    let __do_lift ← Op.equalIn n f.type __do_lift __do_lift_1
                    if (!__do_lift) = true then pure (ForInStep.done (some false, ()))
                      else pure (ForInStep.yield (none, ()))
                  else pure (ForInStep.yield (none, ())) : Sem _)) = some (if b then (none, ()) else (some false, ())) := by
              intro fs
              induction fs with
              | nil => intro b hb; simp only [List.foldr_nil, Option.some.injEq] at hb; subst hb; rfl
              | cons fd fs ih =>
                intro b hb
                simp only [List.foldr_cons] at hb
                split at hb
                · cases hb
                · rename_i hname
                  split at hb
                  · rename_i u v b' hu hv hacc
                    obtain ⟨a, ha, rfl⟩ := Option.map_eq_some_iff.1 hb
                    obtain ⟨w1, hw1, hr1⟩ := part_ok hsx hrx hu
                    obtain ⟨w2, hw2, hr2⟩ := part_ok hsy hry hv
                    have he := teq_ok d fd.type u v a ha n (by omega) w1 w2 hr1 hr2
                    have ih' := ih b' hacc
                    rw [List.forIn_cons, valOf_bind, if_pos hname, valOf_bind, hw1]
                    simp only [Option.bind_some]
                    rw [valOf_bind, hw2]
                    simp only [Option.bind_some]
                    rw [valOf_bind, he]
                    simp only [Option.bind_some]
                    cases a with
                    | true =>
                      simp only [Bool.not_true, Bool.false_eq_true, if_false, valOf_pure, Option.bind_some, cond_true]
                      exact ih'
                    | false =>
                      simp only [Bool.not_false, if_true, valOf_pure, Option.bind_some, cond_false, Bool.false_eq_true, if_false]
                  · cases hb
            have hkey := key fields.toList b h
            rw [hkey]
            simp only [Option.bind_some]
            cases b <;> rfl
    · cases h

theorem maxDepth_le : 9 ≤ Op.maxDepth := by unfold Op.maxDepth; omega
theorem tbin_agg {op : BinOp} {t : TypeId} {xo yo : Operand} {l m : List TV} {l' m' : List V} {R : Type} {k : TV → Option R} {r : R} (hl : RVL l l') (hm : RVL m m') (h : tbin P op t (.agg l) (.agg m) R k = some r) :
    ∃ z u, k z = some r ∧ vbin P op t xo yo (.agg l') (.agg m') = some u ∧ RV z u := by
  simp only [tbin] at h
  split at h
  · cases h
  · rename_i hc
    simp only [Bool.or_eq_true, Bool.not_eq_true', not_or, Bool.not_eq_true, Bool.not_eq_false, Bool.and_eq_true] at hc
    obtain ⟨hg, hs1, hs2⟩ := hc
    split at h
    · rename_i b hb
      obtain ⟨vs, rfl⟩ := scal_vals hs1 hl
      obtain ⟨ws, rfl⟩ := scal_vals hs2 hm
      have he := teq_ok 9 t _ _ b hb Op.maxDepth maxDepth_le _ _ (.inr ⟨l, vs, rfl, rfl, hs1, hl⟩) (.inr ⟨m, ws, rfl, rfl, hs2, hm⟩)
      have hv : ∀ u, Ab.valOf P (do eqGuard op t xo yo (.agg vs.toArray) (.agg ws.toArray); Go.binOp op t (.agg vs.toArray) (.agg ws.toArray)) = some u → vbin P op t xo yo (.agg (vs.map .val)) (.agg (ws.map .val)) = some (ofVal u) := fun u hu => by
        unfold vbin
        simp only [V.toVal, toValL_vals, Option.map_some, hu]
      have hguard : ∀ op, (op = .eql ∨ op = .neq) → Ab.valOf P (eqGuard op t xo yo (.agg vs.toArray) (.agg ws.toArray)) = some () := fun op hop => by
        have h1 : Ab.valOf P Go.program = some P := rfl
        rcases hop with rfl | rfl <;> simp only [eqGuard] <;> (simp only [Bool.not_true, Bool.false_eq_true, if_false, valOf_bind, h1, Option.bind_some, hg, Bool.not_false, if_true]; rfl)
      split at h
      · refine ⟨_, .val (.bool b), h, ?_, by simp [RV, RTy]⟩
        refine hv (.bool b) ?_
        rw [valOf_bind, hguard .eql (.inl rfl)]
        simp only [Option.bind_some]
        show Ab.valOf P (Op.equal t _ _ >>= fun x => (pure (Value.bool x) : Sem Value)) = _
        rw [valOf_bind]; unfold Op.equal; rw [he]; rfl
      · refine ⟨_, .val (.bool (!b)), h, ?_, by simp [RV, RTy]⟩
        refine hv (.bool (!b)) ?_
        rw [valOf_bind, hguard .neq (.inr rfl)]
        simp only [Option.bind_some]
        show Ab.valOf P (Op.equal t _ _ >>= fun x => (pure (Value.bool (!x)) : Sem Value)) = _
        rw [valOf_bind]; unfold Op.equal; rw [he]; rfl
      · cases h
    · cases h

theorem equal_bool {t : TypeId} (h : P.underlying t = some .bool) (a b : Bool) : Ab.valOf P (Op.equal t (.bool a) (.bool b)) = some (a == b) := by
  unfold Op.equal
  obtain ⟨n, hn⟩ : ∃ n, Op.maxDepth = n + 1 := ⟨Op.maxDepth - 1, by have := maxDepth_le; omega⟩
  rw [hn]; exact equalIn_bool h a b
theorem tbin_bool {op : BinOp} {t : TypeId} {xo yo : Operand} {a b : Bool} {R : Type} {k : TV → Option R} {r : R} {o1 o2 : Nat} (h : tbin P op t (.t .bool o1 a) (.t .bool o2 b) R k = some r) :
    ∃ z u, k z = some r ∧ vbin P op t xo yo (.val (.bool a)) (.val (.bool b)) = some u ∧ RV z u := by
  simp only [tbin] at h
  split at h
  · rename_i hu
    refine ⟨_, .val (.bool (a == b)), h, ?_, by simp [RV, RTy]⟩
    refine vbin_val (u := .bool (a == b)) ?_
    show Ab.valOf P (Op.equal t _ _ >>= fun x => (pure (Value.bool x) : Sem Value)) = _
    rw [valOf_bind, equal_bool hu]; rfl
  · rename_i hu
    refine ⟨_, .val (.bool (!(a == b))), h, ?_, by simp [RV, RTy]⟩
    refine vbin_val (u := .bool (!(a == b))) ?_
    show Ab.valOf P (Op.equal t _ _ >>= fun x => (pure (Value.bool (!x)) : Sem Value)) = _
    rw [valOf_bind, equal_bool hu]; rfl
  · cases h
end Go.Tx
