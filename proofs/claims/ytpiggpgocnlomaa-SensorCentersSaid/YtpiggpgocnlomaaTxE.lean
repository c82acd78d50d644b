/-
  ONE OPERATION (third part): all operations.
-/
import Derived.Test.YtpiggpgocnlomaaTxD
set_option linter.unusedVariables false
namespace Go.Tx
open Go Go.Ab
variable {P : Program} {H : Hints} {f : FuncId}

theorem equal_nil {t : TypeId} {d : TypeDesc} (hd : P.underlying t = some d) {x y : Value} (h : (∃ e, d = .slice e ∧ x = .slice none 0 0 ∧ y = .slice none 0 0) ∨ (∃ e, d = .pointer e ∧ x = .pointer none ∧ y = .pointer none) ∨ (∃ a b c, d = .func a b c ∧ x = .nilFunc ∧ y = .nilFunc)) :
    Ab.valOf P (Op.equal t x y) = some true := by
  unfold Op.equal
  obtain ⟨n, hn⟩ : ∃ n, Op.maxDepth = n + 1 := ⟨Op.maxDepth - 1, by have := maxDepth_le; omega⟩
  rw [hn]
  unfold Op.equalIn
  rw [valOf_bind, valOf_underlying hd]
  rcases h with ⟨e, rfl, rfl, rfl⟩ | ⟨e, rfl, rfl, rfl⟩ | ⟨a, b, c, rfl, rfl, rfl⟩ <;> rfl

theorem tbin_ok {op : BinOp} {t : TypeId} {xo yo : Operand} {x y : TV} {x' y' : V} {R : Type} {k : TV → Option R} {r : R} (hx : RV x x') (hy : RV y y') (h : tbin P op t x y R k = some r) :
    ∃ z u, k z = some r ∧ vbin P op t xo yo x' y' = some u ∧ RV z u := by
  by_cases h1 : ∃ k1 o1 a k2 o2 b, x = .t (.int k1) o1 a ∧ y = .t (.int k2) o2 b
  · obtain ⟨k1, o1, a, k2, o2, b, rfl, rfl⟩ := h1
    simp only [RV, RTy] at hx hy
    subst hx; subst hy
    by_cases hk : k1 = k2
    · subst hk; exact tbin_int h
    · unfold tbin at h
      cases op <;> simp [hk] at h
  by_cases h2 : ∃ o1 a o2 b, x = .t .str o1 a ∧ y = .t .str o2 b
  · obtain ⟨o1, a, o2, b, rfl, rfl⟩ := h2
    simp only [RV, RTy] at hx hy
    subst hx; subst hy
    exact tbin_str h
  by_cases h3 : ∃ o1 a o2 b, x = .t .bool o1 a ∧ y = .t .bool o2 b
  · obtain ⟨o1, a, o2, b, rfl, rfl⟩ := h3
    simp only [RV, RTy] at hx hy
    subst hx; subst hy
    exact tbin_bool h
  by_cases h4 : ∃ l m, x = .agg l ∧ y = .agg m
  · obtain ⟨l, m, rfl, rfl⟩ := h4
    simp only [RV] at hx hy
    obtain ⟨l', rfl, hl⟩ := hx
    obtain ⟨m', rfl, hm⟩ := hy
    exact tbin_agg hl hm h
  unfold tbin at h
  split at h
  · exact absurd ⟨_, _, _, _, _, _, rfl, rfl⟩ h1
  · exact absurd ⟨_, _, _, _, rfl, rfl⟩ h2
  · exact absurd ⟨_, _, _, _, rfl, rfl⟩ h3
  · exact absurd ⟨_, _, rfl, rfl⟩ h4
  · rename_i τ o e l
    simp only [RV, RTy] at hx hy
    obtain ⟨fx, cx, l', rfl, _, hall⟩ := hx
    subst hy
    split at h
    · rename_i el hu
      cases hall with
      | cons ha hb =>
        have hv : ∀ v m op, vbin P op t xo yo (.sl fx cx (v :: m)) (.val (.slice none 0 0)) = (match op with
            | .eql => some (.val (.bool false))
            | .neq => some (.val (.bool true))
            | _ => none) := fun v m op => by
          unfold vbin
          simp only [V.toVal, hu, notNil, if_true]
          cases op <;> rfl
        split at h
        · exact ⟨_, _, h, hv _ _ _, by simp [RV, RTy]⟩
        · exact ⟨_, _, h, hv _ _ _, by simp [RV, RTy]⟩
        · cases h
    · cases h
  · split at h
    · rename_i d hd
      split at h
      · rename_i hn
        have hv : x'.toVal = none ∧ notNil d x' y' = true := by
          unfold notNilT at hn
          split at hn
          · simp only [RV] at hx hy; subst hx; subst hy; exact ⟨rfl, rfl⟩
          · simp only [RV] at hx hy; obtain ⟨l', rfl, _⟩ := hx; subst hy; exact ⟨rfl, rfl⟩
          · simp only [RV] at hx hy; obtain ⟨a', b', rfl, _⟩ := hx; subst hy; exact ⟨rfl, rfl⟩
          · cases hn
        have hv2 : ∀ op, vbin P op t xo yo x' y' = (match op with
            | .eql => some (.val (.bool false))
            | .neq => some (.val (.bool true))
            | _ => none) := fun op => by
          unfold vbin
          simp only [hv.1, hd, hv.2, if_true]
          cases op <;> rfl
        split at h
        · exact ⟨_, _, h, hv2 _, by simp [RV, RTy]⟩
        · exact ⟨_, _, h, hv2 _, by simp [RV, RTy]⟩
        · cases h
      · split at h
        · rename_i hn
          have hv : ∃ u v, x' = .val u ∧ y' = .val v ∧ Ab.valOf P (Op.equal t u v) = some true ∧ (∀ op, op = .eql ∨ op = .neq → Ab.valOf P (do eqGuard op t xo yo u v; Go.binOp op t u v) = Ab.valOf P (Op.equal t u v >>= fun b => (pure (Value.bool (if op = .eql then b else !b)) : Sem Value))) := by
            unfold isNilT at hn
            split at hn
            · simp only [RV] at hx hy; subst hx; subst hy
              refine ⟨_, _, rfl, rfl, equal_nil hd (.inl ⟨_, rfl, rfl, rfl⟩), ?_⟩
              rintro op (rfl | rfl) <;> rfl
            · simp only [RV] at hx hy; subst hx; subst hy
              refine ⟨_, _, rfl, rfl, equal_nil hd (.inr (.inl ⟨_, rfl, rfl, rfl⟩)), ?_⟩
              rintro op (rfl | rfl) <;> rfl
            · simp only [RV] at hx hy; subst hx; subst hy
              refine ⟨_, _, rfl, rfl, equal_nil hd (.inr (.inr ⟨_, _, _, rfl, rfl, rfl⟩)), ?_⟩
              rintro op (rfl | rfl) <;> rfl
            · cases hn
          obtain ⟨u, v, rfl, rfl, he, hg⟩ := hv
          split at h
          · refine ⟨_, .val (.bool true), h, ?_, by simp [RV, RTy]⟩
            refine vbin_val (u := .bool true) ?_
            rw [hg _ (.inl rfl), valOf_bind, he]; rfl
          · refine ⟨_, .val (.bool false), h, ?_, by simp [RV, RTy]⟩
            refine vbin_val (u := .bool false) ?_
            rw [hg _ (.inr rfl), valOf_bind, he]; rfl
          · cases h
        · cases h
    · cases h

theorem tun_ok {op : UnOp} {x y : TV} {v : V} (hx : RV x v) (h : tun op x = some y) : ∃ u, v.toVal.bind (fun a => (Ab.valOf P (Go.Op.unary op a)).map ofVal) = some u ∧ RV y u := by
  unfold tun at h
  split at h
  · cases h
    simp only [RV, RTy] at hx; subst hx
    exact ⟨_, rfl, by simp [RV, RTy, ofVal]⟩
  · cases h
    simp only [RV, RTy] at hx; subst hx
    exact ⟨_, rfl, by simp [RV, RTy, ofVal]⟩
  · cases h

theorem tconv_ok {src dst : TypeId} {x y : TV} {v : V} (hx : RV x v) (h : tconv P src dst x = some y) : ∃ u, vconvert P src dst v = some u ∧ RV y u := by
  unfold tconv at h
  split at h
  · rename_i d1 k k0 o n h1 h2
    cases h
    simp only [RV, RTy] at hx; subst hx
    refine ⟨.val (.int k (k.wrap n)), ?_, by simp [RV, RTy]⟩
    unfold vconvert
    simp only [V.toVal]
    unfold Go.convert
    rw [valOf_bind, valOf_underlying h1]
    simp only [Option.bind_some]
    rw [valOf_bind, valOf_underlying h2]
    rfl
  · rename_i d1 o s h1 h2
    cases h
    simp only [RV, RTy] at hx; subst hx
    refine ⟨.val (.string ⟨s.toArray⟩), ?_, by simp [RV, RTy]⟩
    unfold vconvert
    simp only [V.toVal]
    unfold Go.convert
    rw [valOf_bind, valOf_underlying h1]
    simp only [Option.bind_some]
    rw [valOf_bind, valOf_underlying h2]
    rfl
  · cases h

theorem tints_ok {k : IntKind} : ∀ {xs : List TV} {ys : List V} {l : List Int}, tints k xs = some l → RVL xs ys → ys = l.map fun n => .val (.int k n)
  | [], ys, l, h, hr => by simp only [tints, Option.some.injEq] at h; simp only [RVL] at hr; subst h; subst hr; rfl
  | x :: xs, ys, l, h, hr => by
    simp only [RVL] at hr; obtain ⟨v, m, rfl, h1, h2⟩ := hr
    cases x with
    | t τ o x =>
      cases τ with
      | int k' =>
        simp only [tints] at h
        split at h
        · rename_i hk
          subst hk
          obtain ⟨l', hl', rfl⟩ := Option.map_eq_some_iff.1 h
          simp only [RV, RTy] at h1; subst h1
          rw [tints_ok hl' h2]; rfl
        · cases h
      | _ => simp [tints] at h
    | _ => simp [tints] at h
theorem toValL_ints (k : IntKind) : ∀ l : List Int, toValL (l.map fun n => V.val (.int k n)) = some (l.map fun n => Value.int k n)
  | [] => rfl
  | n :: l => by simp [toValL, V.toVal, toValL_ints k l]
theorem maxL_ok (k : IntKind) : ∀ (l : List Int) (n : Int), Ab.valOf P ((l.map fun n => Value.int k n).foldlM Go.Builtin.max2 (.int k n)) = some (.int k (l.foldl max n))
  | [], n => rfl
  | m :: l, n => by
    simp only [List.map_cons, List.foldlM_cons, List.foldl_cons]
    rw [valOf_bind]
    have : Ab.valOf P (Go.Builtin.max2 (.int k n) (.int k m)) = some (.int k (max n m)) := by
      show some (Value.int k (if m > n then m else n)) = _
      congr 2; split <;> omega
    rw [this]
    exact maxL_ok k l _
theorem minL_ok (k : IntKind) : ∀ (l : List Int) (n : Int), Ab.valOf P ((l.map fun n => Value.int k n).foldlM Go.Builtin.min2 (.int k n)) = some (.int k (l.foldl min n))
  | [], n => rfl
  | m :: l, n => by
    simp only [List.map_cons, List.foldlM_cons, List.foldl_cons]
    rw [valOf_bind]
    have : Ab.valOf P (Go.Builtin.min2 (.int k n) (.int k m)) = some (.int k (min n m)) := by
      show some (Value.int k (if m < n then m else n)) = _
      congr 2; split <;> omega
    rw [this]
    exact minL_ok k l _

theorem tbuiltin_ok {b : Builtin} {argTypes : Array TypeId} {ty : TypeId} {xs : List TV} {ys : List V} {R : Type} {k : TV → Option R} {r : R} (hx : RVL xs ys) (h : tbuiltin P b argTypes xs R k = some r) :
    ∃ z u, k z = some r ∧ vbuiltin P b argTypes ty ys = some u ∧ RV z u := by
  unfold tbuiltin at h
  split at h
  · rename_i τ o l
    simp only [RVL] at hx; obtain ⟨v, m, rfl, h1, rfl⟩ := hx
    simp only [RV, RTy] at h1; obtain ⟨fx, c, l', rfl, _, hall⟩ := h1
    split at h
    · rename_i e he
      refine ⟨_, .val (.int .i64 l'.length), h, ?_, by simp [RV, RTy, hall.length]⟩
      simp only [vbuiltin, he]
    · cases h
  · rename_i τ l
    simp only [RVL] at hx; obtain ⟨v, m, rfl, h1, rfl⟩ := hx
    simp only [RV] at h1; obtain ⟨fx, l', rfl, _, hall⟩ := h1
    split at h
    · rename_i e he
      refine ⟨_, .val (.int .i64 l'.length), h, ?_, by simp [RV, RTy, hall.length]⟩
      simp only [vbuiltin, he]
    · cases h
  · rename_i ow
    simp only [RVL] at hx; obtain ⟨v, m, rfl, h1, rfl⟩ := hx
    simp only [RV] at h1; obtain ⟨fx, c, rfl, _⟩ := h1
    split at h
    · rename_i e he
      refine ⟨_, .val (.int .i64 ([] : List V).length), h, ?_, by simp [RV, RTy]⟩
      simp only [vbuiltin, he]
    · cases h
  · rename_i o s
    simp only [RVL] at hx; obtain ⟨v, m, rfl, h1, rfl⟩ := hx
    simp only [RV, RTy] at h1; subst h1
    split at h
    · rename_i he
      refine ⟨_, .val (.int .i64 s.length), h, ?_, by simp [RV, RTy]⟩
      obtain ⟨t, ht, hu⟩ := Option.bind_eq_some_iff.1 he
      have hl : Ab.valOf P (Go.Builtin.len_ argTypes ty #[.string ⟨s.toArray⟩]) = some (.int .i64 s.length) := by
        unfold Go.Builtin.len_
        have ha : (#[Value.string ⟨s.toArray⟩] : Array Value)[0]? = some (.string ⟨s.toArray⟩) := rfl
        simp only [ht, ha]
        rw [valOf_bind, valOf_underlying hu]
        simp only [Option.bind_some]
        show some (goInt (⟨s.toArray⟩ : ByteArray).size) = _
        simp [goInt, ByteArray.size]
      show ((toValL [V.val (.string ⟨s.toArray⟩)]).bind fun vs => (Ab.valOf P (Go.Builtin.len_ argTypes ty vs.toArray)).map ofVal) = _
      simp only [toValL, V.toVal, Option.bind_some]
      rw [show [Value.string ⟨s.toArray⟩].toArray = #[Value.string ⟨s.toArray⟩] from rfl, hl]
      rfl
    · cases h
  · rename_i x y
    simp only [RVL] at hx; obtain ⟨v, m, rfl, h1, v2, m2, rfl, h2, rfl⟩ := hx
    obtain ⟨z, u, hz, hu, hr⟩ := tappend_ok h1 h2 h
    exact ⟨z, u, hz, hu, hr⟩
  · rename_i kk o n xs
    split at h
    · rename_i l hl
      simp only [RVL] at hx; obtain ⟨v, m, rfl, h1, h2⟩ := hx
      simp only [RV, RTy] at h1; subst h1
      rw [tints_ok hl h2]
      refine ⟨_, .val (.int kk (l.foldl max n)), h, ?_, by simp [RV, RTy]⟩
      show ((toValL ((n :: l).map fun n => V.val (.int kk n))).bind fun vs => (Ab.valOf P (Go.Builtin.max_ argTypes ty vs.toArray)).map ofVal) = _
      rw [toValL_ints]
      simp only [Option.bind_some]
      have : Ab.valOf P (Go.Builtin.max_ argTypes ty ((n :: l).map fun n => Value.int kk n).toArray) = some (.int kk (l.foldl max n)) := maxL_ok kk l n
      rw [this]; rfl
    · cases h
  · rename_i kk o n xs
    split at h
    · rename_i l hl
      simp only [RVL] at hx; obtain ⟨v, m, rfl, h1, h2⟩ := hx
      simp only [RV, RTy] at h1; subst h1
      rw [tints_ok hl h2]
      refine ⟨_, .val (.int kk (l.foldl min n)), h, ?_, by simp [RV, RTy]⟩
      show ((toValL ((n :: l).map fun n => V.val (.int kk n))).bind fun vs => (Ab.valOf P (Go.Builtin.min_ argTypes ty vs.toArray)).map ofVal) = _
      rw [toValL_ints]
      simp only [Option.bind_some]
      have : Ab.valOf P (Go.Builtin.min_ argTypes ty ((n :: l).map fun n => Value.int kk n).toArray) = some (.int kk (l.foldl min n)) := minL_ok kk l n
      rw [this]; rfl
    · cases h
  · cases h

/-- what a box's cells are -/
def BxR : Option (List TV) → Option (List V) → Prop
  | none, b => True
  | some c, b => ∃ c', b = some c' ∧ RVL c c'
/-- what the box then holds -/
def BxO : Option (List TV) → Option (List V) → Prop
  | none, b => b = none
  | some c, b => ∃ c', b = some c' ∧ RVL c c'

theorem topSem_ok {tk : Bool} {o : Op} {ty : TypeId} {xs : List TV} {ys : List V} {bx : Option (List TV)} {bx' : Option (List V)} {R : Type} {k : TV → Option (List TV) → Option R} {r : R} (hx : RVL xs ys) (hb : BxR bx bx')
    (h : topSem P H f tk o xs bx R k = some r) : ∃ z c u c', k z c = some r ∧ opSem P H f tk o ty ys bx' = some (u, c') ∧ RV z u ∧ BxO c c' := by
  have fin : ∀ {x : Option TV} {y : Option V}, (match x with | some x => k x none | none => none) = some r → (∀ z, x = some z → ∃ u, y = some u ∧ RV z u) → ∃ z c u c', k z c = some r ∧ (y.map fun x => (x, (none : Option (List V)))) = some (u, c') ∧ RV z u ∧ BxO c c' := by
    intro x y h1 h2
    cases x with
    | none => cases h1
    | some z =>
      obtain ⟨u, hu, hr⟩ := h2 z rfl
      exact ⟨z, none, u, none, h1, by rw [hu]; rfl, hr, rfl⟩
  have fin2 : ∀ {y : Option V}, (∃ z u, k z none = some r ∧ y = some u ∧ RV z u) → ∃ z c u c', k z c = some r ∧ (y.map fun x => (x, (none : Option (List V)))) = some (u, c') ∧ RV z u ∧ BxO c c' := by
    rintro y ⟨z, u, h1, rfl, hr⟩
    exact ⟨z, none, u, none, h1, rfl, hr, rfl⟩
  unfold topSem at h
  simp only at h
  split at h
  · simp only [RVL] at hx; obtain ⟨v, m, rfl, h1, rfl⟩ := hx
    exact ⟨_, none, v, none, h, rfl, h1, rfl⟩
  · simp only [RVL] at hx; obtain ⟨v, m, rfl, h1, rfl⟩ := hx
    exact ⟨_, none, v, none, h, rfl, h1, rfl⟩
  · rename_i o' c a b
    simp only [RVL] at hx; obtain ⟨v, m, rfl, h1, va, ma, rfl, ha, vb, mb, rfl, hb', rfl⟩ := hx
    simp only [RV, RTy] at h1; subst h1
    cases c with
    | true => exact ⟨_, none, va, none, h, rfl, ha, rfl⟩
    | false => exact ⟨_, none, vb, none, h, rfl, hb', rfl⟩
  · rename_i t parts xs
    exact fin h fun z hz => tbuild_ok hx hz
  · rename_i t len parts xs
    exact fin h fun z hz => tbuildSlice_ok hx hz
  · rename_i t a cs
    simp only [RVL] at hx; obtain ⟨v, m, rfl, h1, rfl⟩ := hx
    simp only [RV] at h1; obtain ⟨cs', rfl, hc⟩ := h1
    refine fin h fun z hz => ?_
    obtain ⟨w, hw, rfl⟩ := Option.map_eq_some_iff.1 hz
    obtain ⟨u, hu, hr⟩ := ofCellsT_ok hw hc
    exact ⟨u.dull, by rw [hu]; rfl, hr.dull⟩
  · rename_i t a q off
    simp only [RVL] at hx; obtain ⟨v, m, rfl, h1, rfl⟩ := hx
    simp only [RV] at h1; subst h1
    split at h
    · rename_i cs
      obtain ⟨cs', rfl, hc⟩ := hb
      have hlp := rvl_notLp hc
      split at h
      · rename_i htk
        split at h
        · rename_i x hxx
          obtain ⟨u, hu, hr⟩ := ofCellsT_ok hxx (hc.drop off)
          refine ⟨_, _, u, _, h, ?_, hr, ⟨_, rfl, splice_ok hc (RVL.dull ((hc.drop off).take _))⟩⟩
          simp only [opSem, hlp, Bool.false_eq_true, if_false, htk, if_true, hu, Option.map_some]
        · cases h
      · rename_i htk
        obtain ⟨z, c, u, c', h1, h2, h3, h4⟩ := fin (y := (ofCells P t (cs'.drop off)).map V.dull) h fun z hz => by
          obtain ⟨w, hw, rfl⟩ := Option.map_eq_some_iff.1 hz
          obtain ⟨u, hu, hr⟩ := ofCellsT_ok hw (hc.drop off)
          exact ⟨u.dull, by rw [hu]; rfl, hr.dull⟩
        refine ⟨z, c, u, c', h1, ?_, h3, h4⟩
        simp only [opSem, hlp, Bool.false_eq_true, if_false]
        rw [if_neg htk]
        exact h2
    · cases h
  · rename_i t a b q off x
    simp only [RVL] at hx; obtain ⟨v, m, rfl, h1, v2, m2, rfl, h2, rfl⟩ := hx
    simp only [RV] at h1; subst h1
    split at h
    · rename_i cs
      obtain ⟨cs', rfl, hc⟩ := hb
      have hlp := rvl_notLp hc
      split at h
      · rename_i hcond
        obtain ⟨h0, hl, ho, hk⟩ := hcond
        obtain ⟨hcells, hko⟩ := RV.cells hk h2
        refine ⟨_, _, .undef, _, h, ?_, rv_undef [], ⟨_, rfl, splice_ok hc hcells⟩⟩
        simp only [opSem]
        rw [if_pos ⟨hlp, h0, by rw [hcells.length]; exact hl, by rw [hcells.length, hc.length]; exact ho, hko⟩]
      · cases h
    · cases h
  · simp only [RVL] at hx; obtain ⟨v, m, rfl, h1, rfl⟩ := hx
    simp only [RV] at h1; subst h1
    exact ⟨_, none, _, none, h, rfl, by simp [RV], rfl⟩
  · simp only [RVL] at hx; obtain ⟨v, m, rfl, h1, rfl⟩ := hx
    have h1' := h1
    simp only [RV] at h1; obtain ⟨l', rfl, h1⟩ := h1
    exact ⟨_, none, _, none, h, rfl, h1', rfl⟩
  · simp only [RVL] at hx; obtain ⟨v, m, rfl, h1, rfl⟩ := hx
    have h1' := h1
    simp only [RV] at h1; obtain ⟨a', b', rfl, _⟩ := h1
    exact ⟨_, none, _, none, h, rfl, h1', rfl⟩
  · simp only [RVL] at hx; obtain ⟨v, m, rfl, h1, v2, m2, rfl, h2, rfl⟩ := hx
    exact fin2 (tbin_ok h1 h2 h)
  · simp only [RVL] at hx; obtain ⟨v, m, rfl, h1, rfl⟩ := hx
    exact fin h fun z hz => tun_ok h1 hz
  · simp only [RVL] at hx; obtain ⟨v, m, rfl, h1, rfl⟩ := hx
    exact fin h fun z hz => tconv_ok h1 hz
  · refine ⟨_, none, _, none, h, rfl, ?_, rfl⟩
    simp only [RV]
    exact ⟨_, _, rfl, hx.take _, hx.drop _⟩
  · simp only [RVL] at hx; obtain ⟨v, m, rfl, h1, v2, m2, rfl, h2, rfl⟩ := hx
    exact fin2 (tmakeSlice_ok h1 h2 h)
  · rename_i t a lo hi mx x rest
    simp only [RVL] at hx; obtain ⟨v, m, rfl, h1, h2⟩ := hx
    have hhead : ∀ {l : List TV} {l' : List V}, RVL l l' → RVO l.head? l'.head? := fun {l l'} h => by
      cases l with
      | nil => simp only [RVL] at h; subst h; trivial
      | cons y l => simp only [RVL] at h; obtain ⟨u, n, rfl, h3, _⟩ := h; exact h3
    have htail : ∀ {l : List TV} {l' : List V}, RVL l l' → RVL l.tail l'.tail := fun {l l'} h => by
      rw [← List.drop_one, ← List.drop_one]; exact h.drop 1
    have hr1 : RVL (if lo.isSome = true then rest.tail else rest) (if lo.isSome = true then m.tail else m) := by
      split
      · exact htail h2
      · exact h2
    have hr2 : RVL (if hi.isSome = true then (if lo.isSome = true then rest.tail else rest).tail else (if lo.isSome = true then rest.tail else rest)) (if hi.isSome = true then (if lo.isSome = true then m.tail else m).tail else (if lo.isSome = true then m.tail else m)) := by
      split
      · exact htail hr1
      · exact hr1
    have ho : ∀ {q : Bool} {l : List TV} {l' : List V}, RVL l l' → RVO (if q = true then l.head? else none) (if q = true then l'.head? else none) := fun {q l l'} h => by
      split
      · exact hhead h
      · trivial
    exact fin2 (tslice_ok h1 (ho h2) (ho hr1) (ho hr2) h)
  · simp only [RVL] at hx; obtain ⟨v, m, rfl, h1, rfl⟩ := hx
    exact fin h fun z hz => tfieldAddr_ok hz h1
  · simp only [RVL] at hx; obtain ⟨v, m, rfl, h1, rfl⟩ := hx
    exact fin h fun z hz => tfield_ok hz h1
  · simp only [RVL] at hx; obtain ⟨v, m, rfl, h1, v2, m2, rfl, h2, rfl⟩ := hx
    simp only [RV, RTy] at h2; subst h2
    obtain ⟨y, u, hk, hu, hr⟩ := tindexAddr_ok h h1
    exact fin2 ⟨y, u, hk, hu, hr⟩
  · simp only [RVL] at hx; obtain ⟨v, m, rfl, h1, v2, m2, rfl, h2, rfl⟩ := hx
    simp only [RV, RTy] at h2; subst h2
    split at h
    · rename_i len elem cs hu
      simp only [RV] at h1; obtain ⟨cs', rfl, hc⟩ := h1
      obtain ⟨y, u, hk, hv, hr⟩ := tindex_ok hu h hc
      exact fin2 ⟨y, u, hk, hv, hr⟩
    · rename_i o s hu
      simp only [RV, RTy] at h1; subst h1
      obtain ⟨b, hb', hk⟩ := Option.bind_eq_some_iff.1 h
      obtain ⟨h0, hi⟩ := idx_some hb'
      refine fin2 ⟨_, .val (.int .u8 b.toNat), hk, ?_, by simp [RV, RTy]⟩
      simp only [vindex, hu]
      rw [if_pos h0]
      have key : ∀ j : Nat, s[j]? = some b → (⟨s.toArray⟩ : ByteArray)[j]? = some b := fun j hj => by
        have hlt := (List.getElem?_eq_some_iff.1 hj).1
        rw [getElem?_pos (⟨s.toArray⟩ : ByteArray) j (by simpa [ByteArray.size] using hlt)]
        have := (List.getElem?_eq_some_iff.1 hj).2
        simp only [Option.some.injEq]
        rw [← this]
        rfl
      rw [key _ hi]
      rfl
    · cases h
  · simp only [RVL] at hx; obtain ⟨v, m, rfl, h1, rfl⟩ := hx
    simp only [RV] at h1; obtain ⟨l', rfl, hl⟩ := h1
    exact fin h fun z hz => hl.get hz
  · exact fin2 (tbuiltin_ok hx h)
  · cases h
end Go.Tx
