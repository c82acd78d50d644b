/-
  CODE, FUNCTIONS, THE INTERPRETER WITH FUEL: sound.
-/
import Derived.Test.YtpiggpgocnlomaaAbV
import Derived.Test.YtpiggpgocnlomaaLkG
set_option linter.unusedVariables false
namespace Go.Ab
open Go
variable {P : Program} {H : Hints} {f : FuncId} {C : Orc} {w : World} {X : Cx}

theorem ex_ok (hC : OrcOk P C) (hm : P.follows .mixedOrders = true) : ∀ (c : Code) (bid : Nat) (st : St) (e : Ex) (st' : St), ex P H C f bid c st = some (e, st') → CodeOk P c st e st' := by
  intro c
  induction c with
  | skip =>
    intro bid st e st' hx F w0 X0 Md n a w hF hS
    simp only [ex, Option.some.injEq, Prod.mk.injEq] at hx
    obtain ⟨rfl, rfl⟩ := hx
    exact wpIn_skip ⟨rfl, hS⟩
  | region id ops draw =>
    intro bid st e st' hx F w0 X0 Md n a w hF hS
    cases hls : hasLs H f ops with
    | true => exact region_ls hC hm hF hS hls hx
    | false =>
    obtain ⟨X, Md2, hS2, _, _, lift⟩ := rebase hS
    refine wpIn_mono (region_ok hC hm hF.fence hS2 hls hx) ?_
    rintro e' a' w' ⟨rfl, hd, hS'⟩
    have := lift _ _ _ hS'
    rw [← hd] at this
    exact ⟨rfl, this⟩
  | seq x y ihx ihy =>
    intro bid st e st' hx F w0 X0 Md n a w hF hS
    simp only [ex] at hx
    refine wpIn_seq ?_
    cases h1 : ex P H C f bid x st with
    | none => rw [h1] at hx; cases hx
    | some p =>
      obtain ⟨e1, s⟩ := p
      rw [h1] at hx
      refine wpIn_mono (ihx bid st e1 s h1 F w0 X0 Md n a w hF hS).wp ?_
      rintro e' a' w' ⟨rfl, hS'⟩
      cases e1 with
      | normal => exact (ihy bid s e st' hx F w0 X0 Md n a' w' hF hS').wp
      | exit id => simp only [Option.some.injEq, Prod.mk.injEq] at hx; obtain ⟨rfl, rfl⟩ := hx; exact ⟨rfl, hS'⟩
      | ret => simp only [Option.some.injEq, Prod.mk.injEq] at hx; obtain ⟨rfl, rfl⟩ := hx; exact ⟨rfl, hS'⟩
  | cond c x y ihx ihy =>
    intro bid st e st' hx F w0 X0 Md n a w hF hS
    simp only [ex] at hx
    split at hx
    · rename_i t ht
      have hev : a.eval c = .bool t := by
        obtain ⟨X, O, hR, _⟩ := hS
        have := rd_default (H := H) (f := f) hR c
        rw [ht] at this
        simp only [Rep] at this
        exact this.1
      refine wpIn_cond hev ?_
      cases t with
      | true => exact (ihx bid st e st' hx F w0 X0 Md n a w hF hS).wp
      | false => exact (ihy bid st e st' hx F w0 X0 Md n a w hF hS).wp
    · cases hx
  | block id c ih =>
    intro bid st e st' hx F w0 X0 Md n a w hF hS
    simp only [ex] at hx
    refine wpIn_block ?_
    cases h1 : ex P H C f id c st with
    | none => rw [h1] at hx; cases hx
    | some p =>
      obtain ⟨e1, s⟩ := p
      rw [h1] at hx
      refine wpIn_mono (ih id st e1 s h1 F w0 X0 Md n a w hF hS).wp ?_
      rintro e' a' w' ⟨rfl, hS'⟩
      cases e1 with
      | normal => simp only [Option.some.injEq, Prod.mk.injEq] at hx; obtain ⟨rfl, rfl⟩ := hx; exact ⟨rfl, hS'⟩
      | ret => simp only [Option.some.injEq, Prod.mk.injEq] at hx; obtain ⟨rfl, rfl⟩ := hx; exact ⟨rfl, hS'⟩
      | exit i =>
        simp only at hx
        simp only [Ex.exit', Exit.inBlock]
        by_cases hi : i = id
        · rw [if_pos hi] at hx ⊢
          simp only [Option.some.injEq, Prod.mk.injEq] at hx; obtain ⟨rfl, rfl⟩ := hx
          exact ⟨rfl, hS'⟩
        · rw [if_neg hi] at hx ⊢
          simp only [Option.some.injEq, Prod.mk.injEq] at hx; obtain ⟨rfl, rfl⟩ := hx
          exact ⟨rfl, hS'⟩
  | loop c ih =>
    intro bid st e st' hx F w0 X0 Md n a w hF hS
    simp only [ex] at hx
    split at hx
    · rename_i st1 hcl
      have hS1 := clear_ok hS hcl
      refine LoopOk.close ?_
      cases h1 : ex P H C f bid c st1 with
      | none => rw [h1] at hx; cases hx
      | some p =>
        obtain ⟨e1, s⟩ := p
        rw [h1] at hx
        refine wpIn_mono (ih bid st1 e1 s h1 F w0 X0 Md n a w hF hS1).wp ?_
        rintro e' a' w' ⟨rfl, hS'⟩
        cases e1 with
        | normal => exact hC.code _ _ _ _ _ _ hx F w0 X0 Md n a' w' hF hS'
        | exit id => simp only [Option.some.injEq, Prod.mk.injEq] at hx; obtain ⟨rfl, rfl⟩ := hx; exact ⟨rfl, hS'⟩
        | ret => simp only [Option.some.injEq, Prod.mk.injEq] at hx; obtain ⟨rfl, rfl⟩ := hx; exact ⟨rfl, hS'⟩
    · cases hx
  | rangeFunc g ps as bo iha ihb =>
    intro bid st e st' hx
    exact rangeFunc_ok hC hx
  | exit id =>
    intro bid st e st' hx F w0 X0 Md n a w hF hS
    simp only [ex, Option.some.injEq, Prod.mk.injEq] at hx
    obtain ⟨rfl, rfl⟩ := hx
    exact wpIn_exit ⟨rfl, hS⟩
  | ret =>
    intro bid st e st' hx F w0 X0 Md n a w hF hS
    simp only [ex, Option.some.injEq, Prod.mk.injEq] at hx
    obtain ⟨rfl, rfl⟩ := hx
    exact wpIn_ret ⟨rfl, hS⟩
  | _ => intro bid st e st' hx; simp [ex] at hx
end Go.Ab
