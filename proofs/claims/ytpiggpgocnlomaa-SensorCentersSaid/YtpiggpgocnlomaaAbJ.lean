/-
  WHERE AN OPERATION's RESULT POINTS: nowhere but where its operands point.
-/
import Derived.Test.YtpiggpgocnlomaaAbI
set_option linter.unusedVariables false
namespace Go.Ab
open Go
variable {P : Program} {H : Hints} {f : FuncId}

theorem mem_ptrsL {r : Root} : ∀ {l : List V}, r ∈ ptrsL l ↔ ∃ x ∈ l, r ∈ x.ptrs
  | [] => by simp [ptrsL]
  | x :: l => by simp [ptrsL, mem_ptrsL (l := l)]

theorem mem_cells {r : Root} {x : V} : r ∈ ptrsL x.cells → r ∈ x.ptrs := by
  cases x <;> simp [V.cells, ptrsL, V.ptrs]
theorem mem_cells' {r : Root} {x : V} : r ∈ x.ptrs → r ∈ ptrsL x.cells := by
  cases x <;> simp [V.cells, ptrsL, V.ptrs]
theorem mem_take {r : Root} {n : Nat} {l : List V} (h : r ∈ ptrsL (l.take n)) : r ∈ ptrsL l := by
  obtain ⟨x, hx, hr⟩ := mem_ptrsL.1 h; exact mem_ptrsL.2 ⟨x, List.mem_of_mem_take hx, hr⟩
theorem mem_drop {r : Root} {n : Nat} {l : List V} (h : r ∈ ptrsL (l.drop n)) : r ∈ ptrsL l := by
  obtain ⟨x, hx, hr⟩ := mem_ptrsL.1 h; exact mem_ptrsL.2 ⟨x, List.mem_of_mem_drop hx, hr⟩
theorem mem_app {r : Root} {a b : List V} : r ∈ ptrsL (a ++ b) ↔ r ∈ ptrsL a ∨ r ∈ ptrsL b := by rw [ptrsL_append]; exact List.mem_append

theorem ptrs_ofVal (u : Value) : (ofVal u).ptrs = [] := by
  have h0 : ∀ l : List Value, ptrsL (l.map V.val) = [] := fun l => by induction l <;> simp_all [ptrsL, V.ptrs]
  unfold ofVal
  split
  · simp [V.ptrs, h0]
  · rename_i vs
    simp only [V.ptrs]
    induction vs.toList with
    | nil => rfl
    | cons v l ih =>
      simp only [List.map_cons, ptrsL, ih, List.append_nil]
      split
      · simp [V.ptrs, h0]
      · rfl
  · rfl
theorem ptrs_ofZero (p : Bool) (u : Value) : (ofZero p u).ptrs = [] := by
  unfold ofZero nilSlice; split
  · cases p <;> rfl
  · rfl
theorem ptrs_ofConst (p : Bool) (u : Value) : (ofConst p u).ptrs = [] := by
  unfold ofConst
  split
  · rename_i cs
    simp only [V.ptrs]
    induction cs.toList with
    | nil => rfl
    | cons v l ih => simp [ptrsL, ptrs_ofZero, ih]
  · exact ptrs_ofZero p u
theorem ptrs_dull (x : V) : x.dull.ptrs = x.ptrs := ptrs_reflag _ x

theorem ptrs_ofCells {t : TypeId} {cs : List V} {x : V} (h : ofCells P t cs = some x) : ∀ r ∈ x.ptrs, r ∈ ptrsL cs := by
  unfold ofCells at h
  split at h
  · simp at h
  · split at h
    · split at h
      · simp only [Option.some.injEq] at h; subst h
        intro r hr; simp only [V.ptrs] at hr; exact mem_take hr
      · simp at h
    · cases cs with
      | nil => simp at h
      | cons y cs => simp at h; subst h; intro r hr; simp [ptrsL, hr]

theorem ptrs_splice {cs vs : List V} {off : Nat} : ∀ r ∈ ptrsL (splice cs off vs), r ∈ ptrsL cs ∨ r ∈ ptrsL vs := by
  intro r hr
  unfold splice at hr
  rcases mem_app.1 hr with hr | hr
  · rcases mem_app.1 hr with hr | hr
    · exact .inl (mem_take hr)
    · exact .inr hr
  · exact .inl (mem_drop hr)

theorem ptrs_fill {place : Nat → Option (Nat × Nat)} : ∀ (is : List Nat) (xs cs cs' : List V), fillV place cs (is.zip xs) = some cs' → ∀ r ∈ ptrsL cs', r ∈ ptrsL cs ∨ r ∈ ptrsL xs
  | [], xs, cs, cs', h => by simp only [List.zip_nil_left, fillV, Option.some.injEq] at h; subst h; exact fun r hr => .inl hr
  | i :: is, [], cs, cs', h => by simp only [List.zip_nil_right, fillV, Option.some.injEq] at h; subst h; exact fun r hr => .inl hr
  | i :: is, x :: xs, cs, cs', h => by
    simp only [List.zip_cons_cons, fillV] at h
    split at h
    · simp at h
    · split at h
      · simp at h
      · intro r hr
        rcases ptrs_fill is xs _ cs' h r hr with hr | hr
        · rcases ptrs_splice r hr with hr | hr
          · exact .inl hr
          · exact .inr (by simp [ptrsL, mem_cells hr])
        · exact .inr (by simp [ptrsL, hr])

theorem ptrs_slice {t : TypeId} {x z : V} {lo hi mx : Option V} (hz : vslice P t x lo hi mx = some z) : z.ptrs = [] := by
  unfold vslice at hz
  split at hz
  · split at hz
    · simp at hz
    · split at hz
      · split at hz
        · split at hz
          · simp only [Option.some.injEq] at hz; subst hz; rfl
          · simp at hz
        · split at hz
          · simp only [Option.some.injEq] at hz; subst hz; rfl
          · simp at hz
      · simp at hz
  · split at hz
    · simp at hz
    · split at hz
      · split at hz
        · simp at hz
        · simp only [Option.some.injEq] at hz; subst hz; rfl
      · simp at hz
  · split at hz
    · split at hz
      · simp only [Option.some.injEq] at hz; subst hz; rfl
      · simp at hz
    · simp at hz
  · simp at hz

theorem opSem_ptrs {o : Op} {type : TypeId} {tk : Bool} {xs : List V} {bx : Option (List V)} {z : V} {c : Option (List V)} (hx : opSem P H f tk o type xs bx = some (z, c)) : ∀ r ∈ z.ptrs, r ∈ ptrsL xs ∨ ∃ cs, bx = some cs ∧ r ∈ ptrsL cs := by
  have hval : ∀ {s : Sem Value} {z' : V}, (valOf P s).map ofVal = some z' → z'.ptrs = [] := fun h => by
    obtain ⟨v, _, rfl⟩ := Option.map_eq_some_iff.1 h; exact ptrs_ofVal v
  unfold opSem at hx
  simp only at hx
  split at hx
  · obtain ⟨rfl, _⟩ := Prod.mk.inj (Option.some.inj hx); intro r hr; exact .inl (by simp [ptrsL, hr])
  · obtain ⟨rfl, _⟩ := Prod.mk.inj (Option.some.inj hx); intro r hr; exact .inl (by simp [ptrsL, hr])
  · obtain ⟨rfl, _⟩ := Prod.mk.inj (Option.some.inj hx)
    intro r hr; left
    split at hr <;> simp [ptrsL, hr]
  · obtain ⟨z', hz, he⟩ := Option.map_eq_some_iff.1 hx
    obtain ⟨rfl, _⟩ := Prod.mk.inj he
    unfold vbuild at hz
    intro r hr
    split at hz
    · rename_i z0 fields hzero hu
      obtain ⟨i, u, hi, hiz, rfl⟩ := zero_info hzero
      split at hz
      · obtain ⟨cs', hfv, rfl⟩ := Option.map_eq_some_iff.1 hz
        simp only [V.ptrs] at hr
        rcases ptrs_fill _ _ _ _ hfv r hr with hr | hr
        · have := mem_cells hr; rw [ptrs_ofConst] at this; simp at this
        · exact .inl hr
      · simp at hz
    · rename_i z0 len elem hzero hu
      obtain ⟨i, u, hi, hiz, rfl⟩ := zero_info hzero
      split at hz
      · obtain ⟨cs', hfv, rfl⟩ := Option.map_eq_some_iff.1 hz
        simp only [V.ptrs] at hr
        rcases ptrs_fill _ _ _ _ hfv r hr with hr | hr
        · have := mem_cells hr; rw [ptrs_ofConst] at this; simp at this
        · exact .inl hr
      · simp at hz
    · simp at hz
  · obtain ⟨z', hz, he⟩ := Option.map_eq_some_iff.1 hx
    obtain ⟨rfl, _⟩ := Prod.mk.inj he
    unfold vbuildSlice at hz
    intro r hr
    split at hz
    · split at hz
      · split at hz
        · simp at hz
        · split at hz
          · split at hz
            · simp only [Option.some.injEq] at hz; subst hz; simp [V.ptrs] at hr
            · simp at hz
          · simp at hz
      · simp at hz
    · simp at hz
  · obtain ⟨z', hz, he⟩ := Option.map_eq_some_iff.1 hx
    obtain ⟨rfl, _⟩ := Prod.mk.inj he
    obtain ⟨y, hy, rfl⟩ := Option.map_eq_some_iff.1 hz
    intro r hr
    rw [ptrs_dull] at hr
    exact .inl (by simpa [ptrsL, V.ptrs] using ptrs_ofCells hy r hr)
  · split at hx
    · rename_i cs
      split at hx
      · simp at hx
      split at hx
      · obtain ⟨y, hy, he⟩ := Option.map_eq_some_iff.1 hx
        obtain ⟨rfl, _⟩ := Prod.mk.inj he
        intro r hr
        exact .inr ⟨cs, rfl, mem_drop (ptrs_ofCells hy r hr)⟩
      · obtain ⟨z', hz, he⟩ := Option.map_eq_some_iff.1 hx
        obtain ⟨rfl, _⟩ := Prod.mk.inj he
        obtain ⟨y, hy, rfl⟩ := Option.map_eq_some_iff.1 hz
        intro r hr
        rw [ptrs_dull] at hr
        exact .inr ⟨cs, rfl, mem_drop (ptrs_ofCells hy r hr)⟩
    · simp at hx
  · split at hx
    · split at hx
      · obtain ⟨rfl, _⟩ := Prod.mk.inj (Option.some.inj hx); intro r hr; simp [V.ptrs] at hr
      · simp at hx
    · simp at hx
  · obtain ⟨rfl, _⟩ := Prod.mk.inj (Option.some.inj hx); intro r hr; exact .inl (by simp [ptrsL, hr])
  · obtain ⟨rfl, _⟩ := Prod.mk.inj (Option.some.inj hx); intro r hr; exact .inl (by simp [ptrsL, hr])
  · obtain ⟨rfl, _⟩ := Prod.mk.inj (Option.some.inj hx); intro r hr; exact .inl (by simp [ptrsL, hr])
  · obtain ⟨z', hz, he⟩ := Option.map_eq_some_iff.1 hx
    obtain ⟨rfl, _⟩ := Prod.mk.inj he
    unfold vbin at hz
    intro r hr
    split at hz
    · rw [hval hz] at hr; simp at hr
    · split at hz
      · split at hz
        · split at hz
          · simp only [Option.some.injEq] at hz; subst hz; simp [V.ptrs] at hr
          · simp only [Option.some.injEq] at hz; subst hz; simp [V.ptrs] at hr
          · simp at hz
        · simp at hz
      · simp at hz
  · obtain ⟨z', hz, he⟩ := Option.map_eq_some_iff.1 hx
    obtain ⟨rfl, _⟩ := Prod.mk.inj he
    obtain ⟨a, ha, hz⟩ := Option.bind_eq_some_iff.1 hz
    intro r hr; rw [hval hz] at hr; simp at hr
  · obtain ⟨z', hz, he⟩ := Option.map_eq_some_iff.1 hx
    obtain ⟨rfl, _⟩ := Prod.mk.inj he
    unfold vconvert at hz
    intro r hr
    split at hz
    · rw [hval hz] at hr; simp at hr
    · simp at hz
  · rename_i t _ x
    split at hx
    · simp at hx
    · simp at hx
    · split at hx
      · rename_i hp
        obtain ⟨rfl, _⟩ := Prod.mk.inj (Option.some.inj hx)
        intro r hr
        split at hr
        · simp [V.ptrs] at hr
        · simp only [V.ptrs] at hr
          rw [show x.ptrs = [] by simpa using hp] at hr; simp at hr
      · simp at hx
  · obtain ⟨rfl, _⟩ := Prod.mk.inj (Option.some.inj hx)
    intro r hr
    simp only [V.ptrs, List.mem_append] at hr
    rcases hr with hr | hr
    · exact .inl (mem_take hr)
    · exact .inl (mem_drop hr)
  · obtain ⟨z', hz, he⟩ := Option.map_eq_some_iff.1 hx
    obtain ⟨rfl, _⟩ := Prod.mk.inj he
    unfold vmakeSlice at hz
    intro r hr
    split at hz
    · split at hz
      · split at hz
        · simp only [Option.some.injEq] at hz; subst hz; simp [V.ptrs] at hr
        · simp at hz
      · simp at hz
    · simp at hz
  · obtain ⟨z', hz, he⟩ := Option.map_eq_some_iff.1 hx
    obtain ⟨rfl, _⟩ := Prod.mk.inj he
    intro r hr; rw [ptrs_slice hz] at hr; simp at hr
  · obtain ⟨z', hz, he⟩ := Option.map_eq_some_iff.1 hx
    obtain ⟨rfl, _⟩ := Prod.mk.inj he
    unfold vfieldAddr at hz
    intro r hr
    split at hz
    · split at hz
      · split at hz
        · simp at hz
        · split at hz
          · simp only [Option.some.injEq] at hz; subst hz; left; simpa [ptrsL, V.ptrs] using hr
          · split at hz
            · simp only [Option.some.injEq] at hz; subst hz; left; simp only [V.ptrs] at hr; simpa [ptrsL, V.ptrs] using mem_drop hr
            · simp at hz
          · simp at hz
      · simp at hz
    · simp at hz
  · obtain ⟨z', hz, he⟩ := Option.map_eq_some_iff.1 hx
    obtain ⟨rfl, _⟩ := Prod.mk.inj he
    unfold vfield at hz
    intro r hr
    split at hz
    · split at hz
      · left; simpa [ptrsL, V.ptrs] using mem_drop (ptrs_ofCells hz r hr)
      · simp at hz
    · simp at hz
  · obtain ⟨z', hz, he⟩ := Option.map_eq_some_iff.1 hx
    obtain ⟨rfl, _⟩ := Prod.mk.inj he
    unfold vindexAddr at hz
    intro r hr
    split at hz
    · split at hz
      · split at hz
        · simp only [Option.some.injEq] at hz; subst hz; left; simp only [ptrsL, V.ptrs] at hr ⊢; simpa using hr
        · simp at hz
      · split at hz
        · simp only [Option.some.injEq] at hz; subst hz; left; simp only [V.ptrs] at hr; simpa [ptrsL, V.ptrs] using mem_drop hr
        · simp at hz
      · split at hz
        · split at hz
          · split at hz
            · rename_i hc
              simp only [Option.some.injEq] at hz; subst hz
              exfalso
              simp only [V.ptrs, ptrsL_reflag] at hr
              rw [show ptrsL _ = [] by simpa using hc.2.2.2] at hr
              simp at hr
            · simp at hz
          · simp at hz
        · simp at hz
      · simp at hz
    · simp at hz
  · obtain ⟨z', hz, he⟩ := Option.map_eq_some_iff.1 hx
    obtain ⟨rfl, _⟩ := Prod.mk.inj he
    unfold vindex at hz
    intro r hr
    split at hz
    · split at hz
      · left; simpa [ptrsL, V.ptrs] using mem_drop (ptrs_ofCells hz r hr)
      · simp at hz
    · split at hz
      · obtain ⟨b, _, rfl⟩ := Option.map_eq_some_iff.1 hz; simp [V.ptrs] at hr
      · simp at hz
    · simp at hz
  · obtain ⟨z', hz, he⟩ := Option.map_eq_some_iff.1 hx
    obtain ⟨rfl, _⟩ := Prod.mk.inj he
    intro r hr; left
    simp only [ptrsL, V.ptrs, List.append_nil]
    exact mem_ptrsL.2 ⟨_, List.mem_of_getElem? hz, hr⟩
  · obtain ⟨z', hz, he⟩ := Option.map_eq_some_iff.1 hx
    obtain ⟨rfl, _⟩ := Prod.mk.inj he
    have hvl : ∀ {xs : List V} {s : Array Value → Sem Value} {z' : V}, ((toValL xs).bind fun vs => (valOf P (s vs.toArray)).map ofVal) = some z' → z'.ptrs = [] := fun h => by
      obtain ⟨vs, _, h⟩ := Option.bind_eq_some_iff.1 h; exact hval h
    unfold vbuiltin at hz
    intro r hr
    split at hz
    · split at hz
      · simp only [Option.some.injEq] at hz; subst hz; simp [V.ptrs] at hr
      · simp at hz
    · rename_i x y
      rw [vappend_src] at hz
      split at hz
      · split at hz
        · simp at hz
        · simp only at hz
          split at hz
          · simp at hz
          · split at hz
            · split at hz
              · simp only [Option.some.injEq] at hz; subst hz; simp [V.ptrs] at hr
              · split at hz
                · simp only [Option.some.injEq] at hz; subst hz; simp [V.ptrs] at hr
                · simp at hz
            · split at hz
              · split at hz
                · simp only [Option.some.injEq] at hz; subst hz; simp [V.ptrs] at hr
                · split at hz
                  · split at hz
                    · simp only [Option.some.injEq] at hz; subst hz; simp [V.ptrs] at hr
                    · simp only [Option.some.injEq] at hz; subst hz; simp [V.ptrs] at hr
                  · simp at hz
              · simp at hz
            · simp at hz
      · simp at hz
    · simp at hz
    · simp at hz
    · rw [hvl (s := Builtin.len_ _ _) hz] at hr; simp at hr
    · rw [hvl (s := Builtin.max_ _ _) hz] at hr; simp at hr
    · rw [hvl (s := Builtin.min_ _ _) hz] at hr; simp at hr
    · rw [hvl (s := Builtin.real_ _ _) hz] at hr; simp at hr
    · rw [hvl (s := Builtin.imag_ _ _) hz] at hr; simp at hr
    · rw [hvl (s := Builtin.complex_ _ _) hz] at hr; simp at hr
    · simp at hz
  · simp at hx
end Go.Ab
