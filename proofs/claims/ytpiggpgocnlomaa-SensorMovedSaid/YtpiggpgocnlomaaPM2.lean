/-
  THE LAW SensorMoved: the law.
-/
import Derived.Test.YtpiggpgocnlomaaPM1
set_option linter.unusedVariables false
set_option linter.unusedSimpArgs false
namespace Go.Proofs.Ytpiggpgocnlomaa
open Go Go.Ab Go.Tx
theorem Within_loop {a0 a1 : List Int} (hl : a0.length = a1.length) (h62 : a0.length ≤ 62) : ∃ r,
    loopO (fun (s8 : Int) =>
          bif decide (s8 < (a0.length : Int)) then
            ((idx a0 s8).bind fun x9 =>
              (base_Within x9 (-1000 : Int) (1000 : Int)).bind fun x10 =>
              bif !x10 then
                some true
              else
                (idx a1 s8).bind fun x11 =>
                (base_Within x11 (-1000 : Int) (1000 : Int)).bind fun x12 =>
                some (!x12)).bind fun (p13 : Bool) =>
            bif p13 then
              some (.inr (.inr true))
            else
              some (.inl (w64 (s8 + 1)))
          else
            some (.inr (.inl ()))) 0 = some (r : Unit ⊕ Bool) ∧ ((r = .inl () ∧ allIn a0 ∧ allIn a1) ∨ r = .inr true) := by
  have fin : ∀ l : List Int, (∀ j : Nat, j < l.length → -1000 ≤ l.getD j 0 ∧ l.getD j 0 ≤ 1000) → allIn l := by
    intro l h v hv
    obtain ⟨j, hj, rfl⟩ := List.getElem_of_mem hv
    have := h j hj
    simpa [hj] using this
  apply loop_inv a0.length (fun k st => st = (k : Int) ∧ ∀ j : Nat, j < k → (-1000 ≤ a0.getD j 0 ∧ a0.getD j 0 ≤ 1000) ∧ (-1000 ≤ a1.getD j 0 ∧ a1.getD j 0 ≤ 1000))
  · rintro k st hk ⟨rfl, hall⟩
    by_cases hlt : k < a0.length
    · have hlt' : (k : Int) < (a0.length : Int) := by omega
      simp only [hlt', decide_true, cond_true, idx_get hlt, idx_get (l := a1) (i := k) (by omega), Within_eq, Option.bind_some]
      by_cases c1 : -1000 ≤ a0.getD k 0 ∧ a0.getD k 0 ≤ 1000
      · by_cases c2 : -1000 ≤ a1.getD k 0 ∧ a1.getD k 0 ≤ 1000
        · left
          simp only [c1, c2, and_self, decide_true, Bool.not_true, cond_false, Option.bind_some, wrap_id (n := (k : Int) + 1) (by omega) (by omega)]
          refine ⟨_, rfl, hlt, by simp, fun j hj => ?_⟩
          by_cases hjk : j = k
          · subst hjk; exact ⟨c1, c2⟩
          · exact hall j (by omega)
        · right
          simp only [c1, c2, and_self, decide_true, decide_false, Bool.not_true, Bool.not_false, cond_true, cond_false, Option.bind_some]
          exact ⟨_, rfl, .inr rfl⟩
      · right
        simp only [c1, decide_false, Bool.not_false, cond_true, Option.bind_some]
        exact ⟨_, rfl, .inr rfl⟩
    · right
      have hlt' : ¬ (k : Int) < (a0.length : Int) := by omega
      simp only [hlt', decide_false, cond_false]
      exact ⟨_, rfl, .inl ⟨rfl, fin a0 fun j hj => (hall j (by omega)).1, fin a1 fun j hj => (hall j (by omega)).2⟩⟩
  · exact ⟨rfl, fun j hj => by omega⟩
theorem Sum_loop {a0 a1 : List Int} (g0 : Good a0) (g1 : Good a1) (hl : a0.length = a1.length) {m r : Int} (hm : 0 ≤ m ∧ m ≤ 20) (hb : Best (S a0 a1) m r) :
    loopO (fun (s21 : Int) =>
            bif decide (s21 ≤ m) then
              ((ref07_SumAt a0 a1 s21).bind fun x22 =>
                (ref07_SumAt a0 a1 r).bind fun x23 =>
                bif decide (x22 > x23) then
                  some true
                else
                  (ref07_SumAt a0 a1 s21).bind fun x24 =>
                  (ref07_SumAt a1 a0 (w64 (0 - s21))).bind fun x25 =>
                  some (!(decide (x24 = x25)))).bind fun (p26 : Bool) =>
              bif p26 then
                some (.inr (.inr false))
              else
                some (.inl (w64 (s21 + 1)))
            else
              some (.inr (.inl ()))) (w64 (0 - m)) = some (.inl () : Unit ⊕ Bool) := by
  have e0 : w64 (0 - m) = -m := by rw [show w64 (0 - m) = 0 - m from wrap_id (by omega) (by omega)]; omega
  have hb1 := hb.1
  have hb2 := hb.2.1
  obtain ⟨q, hq, hQ⟩ := loop_inv (f := fun (s21 : Int) =>
            bif decide (s21 ≤ m) then
              ((ref07_SumAt a0 a1 s21).bind fun x22 =>
                (ref07_SumAt a0 a1 r).bind fun x23 =>
                bif decide (x22 > x23) then
                  some true
                else
                  (ref07_SumAt a0 a1 s21).bind fun x24 =>
                  (ref07_SumAt a1 a0 (w64 (0 - s21))).bind fun x25 =>
                  some (!(decide (x24 = x25)))).bind fun (p26 : Bool) =>
              bif p26 then
                some (.inr (.inr false))
              else
                some (.inl (w64 (s21 + 1)))
            else
              some (.inr (.inl ()))) (2 * m + 1).toNat (fun k st => st = -m + (k : Int)) (fun q => q = (.inl () : Unit ⊕ Bool))
    (by
      rintro k st hk rfl
      by_cases hlt : -m + (k : Int) ≤ m
      · left
        obtain ⟨i, hi⟩ : ∃ i : Int, -m + (k : Int) = i := ⟨_, rfl⟩
        rw [hi] at hlt ⊢
        have e1 : w64 (0 - i) = -i := by rw [show w64 (0 - i) = 0 - i from wrap_id (by omega) (by omega)]; omega
        have e2 : w64 (i + 1) = i + 1 := wrap_id (by omega) (by omega)
        have ht := hb.top (i := i) (by omega) (by omega)
        have h3 : ¬ S a0 a1 i > S a0 a1 r := by omega
        simp only [hlt, decide_true, cond_true, SumAt_eq g0 g1 (d := i) (by omega), SumAt_eq g0 g1 (d := r) (by omega), e1, e2, SumAt_eq g1 g0 (d := -i) (by omega), S_swap hl, Option.bind_some, h3, decide_false, cond_false, Bool.not_true]
        exact ⟨_, rfl, by omega, by omega⟩
      · right
        simp only [hlt, decide_false, cond_false]
        exact ⟨_, rfl, rfl⟩)
    (s := -m) (by simp)
  rw [e0, hq, hQ]
theorem Sub_loop {l l2 : List Int} (h : ∀ v ∈ l, v ∈ l2) (hl : l.length ≤ big) (hl2 : l2.length ≤ big) :
    loopO (fun (s43 : Int) =>
                bif decide (s43 < (l.length : Int)) then
                  (idx l s43).bind fun x44 =>
                  (base_Has l2 x44).bind fun x45 =>
                  bif !x45 then
                    some (.inr (.inr false))
                  else
                    some (.inl (w64 (s43 + 1)))
                else
                  some (.inr (.inl ()))) 0 = some (.inl () : Unit ⊕ Bool) := by
  unfold big at hl
  rw [loop_list l (fun _ _ => (none : Option Bool))]
  · have : findI (fun (_ : Nat) (_ : Int) => (none : Option Bool)) 0 l = none := by
      rw [findI_const]
      simp
    rw [this]
    rfl
  · intro i a hi
    have hlt : i < l.length := (List.getElem?_eq_some_iff.1 hi).1
    have h1 : (i : Int) < (l.length : Int) := by omega
    have h2 := h a (List.mem_of_getElem? hi)
    simp only [h1, decide_true, cond_true, idx_of hi, Option.bind_some, Has_eq l2 a hl2, h2, Bool.not_true, cond_false, wrap_id (n := (i : Int) + 1) (by omega) (by omega), stp]
  · simp
theorem SensorMoved_eq (a0 a1 : List Int) (a2 : Int × Int × Unit) (l0 : a0.length ≤ big) (l1 : a1.length ≤ big) : law07_SensorMoved a0 a1 a2 = some true := by
  unfold law07_SensorMoved
  simp only [law07_awake, Option.bind_some, Bool.not_true, cond_false, samples_eq, ShiftErr_eq, Within_eq a2.2.1 0 3000]
  by_cases hs0 : a0.length ≤ 62
  case neg => simp only [hs0, decide_false, Bool.not_false, cond_true, Option.bind_some]
  by_cases hs1 : a1.length ≤ 62
  case neg => simp only [hs0, hs1, decide_true, Bool.not_true, cond_false, decide_false, Bool.not_false, cond_true, Option.bind_some]
  by_cases hsh : shE a0 a1 a2.1 20 = 0
  case neg => simp only [hs0, hs1, hsh, decide_true, Bool.not_true, cond_false, decide_false, Bool.not_false, cond_true, Option.bind_some]
  by_cases hy : 0 ≤ a2.2.1 ∧ a2.2.1 ≤ 3000
  case neg => simp only [hs0, hs1, hsh, hy, decide_true, Bool.not_true, cond_false, decide_false, Bool.not_false, cond_true, Option.bind_some]
  have hyd : decide (0 ≤ a2.2.1 ∧ a2.2.1 ≤ 3000) = true := decide_eq_true hy
  simp only [hs0, hs1, hsh, hyd, decide_true, Bool.not_true, cond_false, Option.bind_some]
  obtain ⟨z0, z1, hl, hx⟩ := shE_zero hsh
  have g0 := good z0
  have g1 := good z1
  have hlen := g0.len
  have c0 := CopyInts_eq a0 (by omega)
  have c1 := CopyInts_eq a1 (by omega)
  obtain ⟨q, hq, hQ⟩ := Within_loop (a0 := a0) (a1 := a1) hl hs0
  rw [hq]
  rcases hQ with ⟨rfl, ha0, ha1⟩ | rfl
  case inr => rfl
  obtain ⟨r, hr, hb⟩ := ShiftOf_eq a0 a1 a2.1 l0 l1 hsh
  have hsh' : shE a1 a0 a2.1 20 = 0 := by unfold shE; rw [if_pos z1, if_pos z0, if_pos hl.symm, if_pos hx]
  obtain ⟨r', hr', hb'⟩ := ShiftOf_eq a1 a0 a2.1 l1 l0 hsh'
  have e0 : w64 (0 - a2.1) = -a2.1 := by rw [show w64 (0 - a2.1) = 0 - a2.1 from wrap_id (by omega) (by omega)]; omega
  have w1 : base_Within r (w64 (0 - a2.1)) a2.1 = some true := by rw [e0, Within_eq, decide_eq_true ⟨hb.1, hb.2.1⟩]
  have w2 : base_Within r' (w64 (0 - a2.1)) a2.1 = some true := by rw [e0, Within_eq, decide_eq_true ⟨hb'.1, hb'.2.1⟩]
  have hb1 := hb.1
  have hb2 := hb.2.1
  have hb1' := hb'.1
  have hb2' := hb'.2.1
  have hSS : S a1 a0 r' = S a0 a1 r := by
    have t1 := hb.top (i := -r') (by omega) (by omega)
    have t2 := hb'.top (i := -r) (by omega) (by omega)
    have u1 := S_swap hl (-r')
    have u2 := S_swap hl r
    rw [Int.neg_neg] at u1
    omega
  have hst1 : shE a0 a1 a2.2.1 100000 = 0 := by unfold shE; rw [if_pos z0, if_pos z1, if_pos hl, if_pos (by omega)]
  have e3 : w64 (a2.2.1 + 1) = a2.2.1 + 1 := wrap_id (by omega) (by omega)
  have hst2 : shE a0 a1 (a2.2.1 + 1) 100000 = 0 := by unfold shE; rw [if_pos z0, if_pos z1, if_pos hl, if_pos (by omega)]
  have hsub := stL_sub a0 a1 (show a2.2.1 ≤ a2.2.1 + 1 by omega) (a0.length - 2)
  have hn1 := stL_len a0 a1 a2.2.1 (a0.length - 2)
  have hn2 := stL_len a0 a1 (a2.2.1 + 1) (a0.length - 2)
  have n1 : ¬ (((stL a0 a1 (a2.2.1 + 1) (a0.length - 2)).length : Int) > ((stL a0 a1 a2.2.1 (a0.length - 2)).length : Int)) := by have := hsub.2; omega
  have n2 : ¬ (((stL a0 a1 a2.2.1 (a0.length - 2)).length : Int) > (a0.length : Int)) := by omega
  simp only [Option.bind_some, Sum.elim_inl, c0, c1, hr, w1, decide_true, Bool.not_true, cond_false]
  rw [Sum_loop g0 g1 hl hx hb]
  simp only [Option.bind_some, Sum.elim_inl, hr', w2, decide_true, Bool.not_true, cond_false, SumAt_eq g1 g0 (d := r') (by omega), SumAt_eq g0 g1 (d := r) (by omega), hSS, e3,
    StrangeIn_eq a0 a1 _ l0 l1 hst1, StrangeIn_eq a0 a1 _ l0 l1 hst2, n1, n2, decide_false]
  rw [Sub_loop hsub.1 (by unfold big; omega) (by unfold big; omega)]
  simp only [Option.bind_some, Sum.elim_inl]
  by_cases h3 : 3 ≤ a0.length
  · have h3' : ¬ (a0.length : Int) < 3 := by omega
    have e4 : w64 ((a0.length : Int) - 2) = (a0.length : Int) - 2 := wrap_id (by omega) (by omega)
    have e5 : ((a0.length - 2 : Nat) : Int) = (a0.length : Int) - 2 := by omega
    simp only [h3', decide_false, cond_false, CurvesOf_eq a0 l0, z0, h3, if_true, Option.bind_some, decide_true, Bool.not_true, cvs_len, e4, e5]
    rw [app_of (by simp [cvs_len]; omega)]
    simp only [Option.bind_some]
    rw [app_of (by simp [cvs_len]; omega)]
    simp only [Option.bind_some, edge_eq g0 ha0 h3]
    simp
  · have h3' : (a0.length : Int) < 3 := by omega
    simp only [h3', decide_true, cond_true]
theorem law07_SensorMoved_true : ∀ x : denP ([Ty.sl I, .sl I, .pair I (.pair I .unit)].map .ty), RngP maxLen [.sl I, .sl I, .pair I (.pair I .unit)] x → e_law07_SensorMoved.F x = some true := by
  rintro ⟨a0, a1, a2⟩ ⟨⟨h0, _⟩, ⟨h1, _⟩, _⟩
  exact SensorMoved_eq a0 a1 a2 (Nat.le_trans h0 (by decide)) (Nat.le_trans h1 (by decide))
end Go.Proofs.Ytpiggpgocnlomaa
