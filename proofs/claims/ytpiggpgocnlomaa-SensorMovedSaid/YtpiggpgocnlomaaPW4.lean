/-
  THE LAW SensorWatches: its typed function answers true.
-/
import Derived.Test.YtpiggpgocnlomaaPW3
set_option linter.unusedVariables false
set_option linter.unusedSimpArgs false
namespace Go.Proofs.Ytpiggpgocnlomaa
open Go Go.Ab Go.Tx
theorem Ints_same (l : List Int) (hl : l.length ≤ big) : base_Ints l l = some true := by
  unfold base_Ints
  unfold big at hl
  rw [loop_list l (fun _ _ => none)]
  · have : findI (fun (_ : Nat) (_ : Int) => (none : Option Bool)) 0 l = none := by
      rw [findI_const]
      simp
    rw [this]
    simp [toSum]
  · intro i a hi
    have hlt : i < l.length := (List.getElem?_eq_some_iff.1 hi).1
    have h1 : (i : Int) < (l.length : Int) := by omega
    simp only [h1, decide_true, cond_true, idx_of hi, Option.bind_some, wrap_id (n := (i : Int) + 1) (by omega) (by omega), stp]
    simp
  · simp
theorem Tripped_eq (a0 : List (List Int)) (a1 : Int × Int × Int × Unit) (h : watchE a0 a1 = 0) :
    ∃ r, ref07_Tripped a0 a1 = some r ∧ Trip (hit a1.1 a1.2.1 a0) a1.2.2.1 (n0 a0) true false r := by
  have F := fine h
  obtain ⟨c0, hc0, hl0⟩ := head_eq F.len.1
  obtain ⟨⟨t1, t2⟩, ⟨q1, q2⟩, ⟨s1, s2⟩⟩ := F.ok
  have hm := F.m
  have hlen := F.len
  have hv : ∀ i : Nat, i < n0 a0 → ref07_Voters a0 a1 i = some (vL a1.1 i a0) := fun i hi =>
    Voters_eq a0 a1 i (by omega) (fun c hc => by rw [F.ch c hc]; exact hi) F.v
  unfold ref07_Tripped
  simp only [hc0, Option.bind_some, hl0]
  obtain ⟨r, hr, hQ⟩ := loop_inv (σ := Int) (ρ := Unit ⊕ (Int × Bool)) (f := fun (s2 : Int) =>
      bif decide (s2 < (n0 a0 : Int)) then
        (loopO (fun (s5 : (Bool × Int)) =>
            bif decide (s5.2 ≤ s2) then
              (bif s5.1 then
                  (ref07_Voters a0 a1 s5.2).bind fun x6 =>
                  some (decide ((x6.length : Int) ≥ a1.2.1))
                else
                  some false).bind fun (p7 : Bool) =>
              some (.inl (p7, w64 (s5.2 + 1)))
            else
              some (.inr s5.1)) (true, w64 ((w64 (s2 - a1.2.2.1)) + 1))).bind fun (p8 : Bool) =>
        bif p8 then
          some (.inr (.inr (s2, true)))
        else
          some (.inl (w64 (s2 + 1)))
      else
        some (.inr (.inl ()))) (n0 a0)
    (fun k st => ∃ i : Nat, st = (i : Int) ∧ (i : Int) = a1.2.2.1 - 1 + k ∧ ∀ k, k < i → ¬ Win (hit a1.1 a1.2.1 a0) a1.2.2.1 k)
    (fun r => Trip (hit a1.1 a1.2.1 a0) a1.2.2.1 (n0 a0) true false (r.elim (fun _ => (0, false)) id))
    (by
      rintro k st hk ⟨i, rfl, hi, hno⟩
      by_cases hlt : i < n0 a0
      · have hlt' : (i : Int) < (n0 a0 : Int) := by omega
        -- the inner loop
        obtain ⟨b, hb, hQ⟩ := loop_inv (σ := Bool × Int) (ρ := Bool) (f := fun (s5 : (Bool × Int)) =>
            bif decide (s5.2 ≤ (i : Int)) then
              (bif s5.1 then
                  (ref07_Voters a0 a1 s5.2).bind fun x6 =>
                  some (decide ((x6.length : Int) ≥ a1.2.1))
                else
                  some false).bind fun (p7 : Bool) =>
              some (.inl (p7, w64 (s5.2 + 1)))
            else
              some (.inr s5.1)) a1.2.2.1.toNat
          (fun n st => ∃ (b : Bool) (j : Nat), st = (b, (j : Int)) ∧ (j : Int) = i - a1.2.2.1 + 1 + n ∧ (b = true ↔ ∀ k : Nat, (i : Int) < k + a1.2.2.1 → k < j → hit a1.1 a1.2.1 a0 k))
          (fun b => b = true ↔ ∀ k : Nat, (i : Int) < k + a1.2.2.1 → k ≤ i → hit a1.1 a1.2.1 a0 k)
          (by
            rintro n st hn ⟨b, j, rfl, hj, hb⟩
            by_cases hji : j ≤ i
            · left
              have hji' : (j : Int) ≤ (i : Int) := by omega
              simp only [hji', decide_true, cond_true, hv j (by omega), Option.bind_some, wrap_id (n := (j : Int) + 1) (by omega) (by omega)]
              cases b with
              | false =>
                refine ⟨(false, (j : Int) + 1), rfl, by omega, false, j + 1, by simp, by omega, ?_⟩
                simp only [Bool.false_eq_true, false_iff] at hb ⊢
                intro hall
                exact hb fun k h1 h2 => hall k h1 (by omega)
              | true =>
                refine ⟨(decide (((vL a1.1 j a0).length : Int) ≥ a1.2.1), (j : Int) + 1), rfl, by omega, _, j + 1, rfl, by omega, ?_⟩
                simp only [true_iff] at hb
                rw [decide_eq_true_eq]
                constructor
                · intro h1 k h2 h3
                  by_cases hkj : k = j
                  · subst hkj; exact h1
                  · exact hb k h2 (by omega)
                · intro hall
                  exact hall j (by omega) (by omega)
            · right
              have hji' : ¬ (j : Int) ≤ (i : Int) := by omega
              simp only [hji', decide_false, cond_false]
              refine ⟨b, rfl, ?_⟩
              rw [hb]
              exact ⟨fun hh k h1 h2 => hh k h1 (by omega), fun hh k h1 h2 => hh k h1 (by omega)⟩)
          (s := (true, (i : Int) - a1.2.2.1 + 1)) ⟨true, (i + 1 - a1.2.2.1.toNat), by congr 1; omega, by omega, by simp only [true_iff]; intro k h1 h2; omega⟩
        have e1 : IntKind.wrap .i64 ((IntKind.wrap .i64 ((i : Int) - a1.2.2.1)) + 1) = (i : Int) - a1.2.2.1 + 1 := by
          rw [wrap_id (n := (i : Int) - a1.2.2.1) (by omega) (by omega), wrap_id (by omega) (by omega)]
        simp only [hlt', decide_true, cond_true, w64, e1]
        simp only [w64] at hb
        rw [hb]
        simp only [Option.bind_some, wrap_id (n := (i : Int) + 1) (by omega) (by omega)]
        have hwin : b = true ↔ Win (hit a1.1 a1.2.1 a0) a1.2.2.1 i := by
          rw [hQ]
          exact ⟨fun hh => ⟨by omega, hh⟩, fun hh => hh.2⟩
        cases b with
        | true =>
          right
          exact ⟨_, rfl, .inl ⟨i, hlt, hwin.1 rfl, hno, rfl⟩⟩
        | false =>
          left
          refine ⟨_, rfl, by omega, i + 1, by simp, by omega, fun k hk hw => ?_⟩
          by_cases hki : k = i
          · subst hki; exact absurd (hwin.2 hw) (by simp)
          · exact hno k (by omega) hw
      · right
        have hlt' : ¬ (i : Int) < (n0 a0 : Int) := by omega
        simp only [hlt', decide_false, cond_false]
        exact ⟨_, rfl, .inr ⟨fun k hk => hno k (by omega), rfl⟩⟩)
    (s := a1.2.2.1 - 1) ⟨(a1.2.2.1 - 1).toNat, by omega, by omega, fun k hk hw => by have := hw.1; omega⟩
  rw [show w64 (a1.2.2.1 - 1) = a1.2.2.1 - 1 from wrap_id (by omega) (by omega), hr]
  cases r with
  | inl u => exact ⟨_, rfl, hQ⟩
  | inr p => exact ⟨_, rfl, hQ⟩
theorem VotersAt_bad (a0 : List (List Int)) (a1 : Int × Int × Int × Unit) (a2 : Int) (h1 : a0.length ≤ 9) (h2 : ∀ c ∈ a0, c.length ≤ 62) (h : watchE a0 a1 ≠ 0) :
    sensor_VotersAt a0 a1 a2 = some ([], watchE a0 a1) := by
  unfold sensor_VotersAt
  rw [openWatch_eq a0 a1 (small_big h1 h2).1 (small_big h1 h2).2]
  simp only [Option.bind_some, samplesOf_eq, within_eq, unless_eq]
  rw [first_of (by simp)]
  simp [firstE, h]
theorem VotersAt_eq (a0 : List (List Int)) (a1 : Int × Int × Int × Unit) (a2 : Int) (h1 : a0.length ≤ 9) (h2 : ∀ c ∈ a0, c.length ≤ 62) (h : watchE a0 a1 = 0) :
    sensor_VotersAt a0 a1 a2 = some (if 0 ≤ a2 ∧ a2 ≤ (n0 a0 : Int) - 1 then (vL a1.1 a2.toNat a0, 0) else ([], 6)) := by
  have F := fine h
  have hm := F.m
  have hlen := F.len
  obtain ⟨⟨t1, t2⟩, ⟨q1, q2⟩, ⟨s1, s2⟩⟩ := F.ok
  unfold sensor_VotersAt
  rw [openWatch_eq a0 a1 (small_big h1 h2).1 (small_big h1 h2).2]
  simp only [Option.bind_some, samplesOf_eq, within_eq, unless_eq, wrap_id (n := (n0 a0 : Int) - 1) (by omega) (by omega), h]
  rw [first_of (by simp)]
  simp only [Option.bind_some, firstE]
  by_cases hin : 0 ≤ a2 ∧ a2 ≤ (n0 a0 : Int) - 1
  · obtain ⟨k, rfl⟩ : ∃ k : Nat, a2 = k := ⟨a2.toNat, by omega⟩
    have hv := voters_eq (a1.1, a1.2.1, a1.2.2.1, a0, ()) k (by show a0.length ≤ 100; omega) (fun c hc => by rw [F.ch c hc]; omega) t1 t2
    simp only [hin, and_self, decide_true, if_true, Bool.not_true, cond_false, hv, Option.bind_some]
    simp
  · rw [if_neg hin]
    simp [hin]
theorem SensorWatches_eq (a0 : List (List Int)) (a1 : Int × Int × Int × Unit) (a2 : Int) (hl' : a0.length ≤ big) (r1 : -9223372036854775808 ≤ a1.1 ∧ a1.1 ≤ 9223372036854775807) : law07_SensorWatches a0 a1 a2 = some true := by
  unfold law07_SensorWatches
  simp only [law07_awake, Option.bind_some, Bool.not_true, cond_false, channels_eq a0 hl']
  by_cases hs : (∀ c ∈ a0, c.length ≤ 62) ∧ a0.length ≤ 9
  case neg => simp only [hs, decide_false, Bool.not_false, cond_true]
  obtain ⟨h2, h1⟩ := hs
  have hcp : base_CopyLists a0 = some a0 := CopyLists_eq a0 (by omega) (fun c hc => by have := h2 c hc; omega)
  have hand : decide ((∀ c ∈ a0, c.length ≤ 62) ∧ a0.length ≤ 9) = true := decide_eq_true ⟨h2, h1⟩
  simp only [hand, Bool.not_true, cond_false, hcp, Option.bind_some, WatchErr_eq a0 a1 hl']
  by_cases hw : watchE a0 a1 = 0
  case neg =>
    rw [TrippedIn_bad a0 a1 h1 h2 hw, VotersAt_bad a0 a1 a2 h1 h2 hw]
    simp [hw]
  obtain ⟨r, hr, hT⟩ := TrippedIn_eq a0 a1 h1 h2 hw
  obtain ⟨r', hr', hT'⟩ := Tripped_eq a0 a1 hw
  have F := fine hw
  have hm := F.m
  have hlen := F.len
  obtain ⟨c0, hc0, hl0⟩ := head_eq F.len.1
  obtain ⟨⟨t1, t2⟩, ⟨q1, q2⟩, ⟨s1, s2⟩⟩ := F.ok
  have hok := F.ok
  rw [hr, VotersAt_eq a0 a1 a2 h1 h2 hw]
  simp only [hw, decide_true, Bool.not_true, cond_false, Option.bind_some, hc0, hl0, Within_eq, wrap_id (n := (n0 a0 : Int) - 1) (by omega) (by omega)]
  have mid : (bif !decide (0 ≤ a2 ∧ a2 ≤ (n0 a0 : Int) - 1) then
      (bif !decide ((if 0 ≤ a2 ∧ a2 ≤ (n0 a0 : Int) - 1 then (vL a1.1 a2.toNat a0, (0 : Int)) else ([], 6)).2 = 6) then some true
        else some (!decide (((if 0 ≤ a2 ∧ a2 ≤ (n0 a0 : Int) - 1 then (vL a1.1 a2.toNat a0, (0 : Int)) else ([], 6)).1.length : Int) = 0))).bind fun (p11 : Bool) =>
      bif p11 then some (.inr false) else some (.inl ())
    else
      (bif !decide ((if 0 ≤ a2 ∧ a2 ≤ (n0 a0 : Int) - 1 then (vL a1.1 a2.toNat a0, (0 : Int)) else ([], 6)).2 = 0) then some true
        else (ref07_Voters a0 a1 a2).bind fun x12 => (base_Ints (if 0 ≤ a2 ∧ a2 ≤ (n0 a0 : Int) - 1 then (vL a1.1 a2.toNat a0, (0 : Int)) else ([], 6)).1 x12).bind fun x13 => some (!x13)).bind fun (p14 : Bool) =>
      bif p14 then some (.inr false) else some (.inl ())) = (some (.inl ()) : Option (Unit ⊕ Bool)) := by
    by_cases hin : 0 ≤ a2 ∧ a2 ≤ (n0 a0 : Int) - 1
    · obtain ⟨k, rfl⟩ : ∃ k : Nat, a2 = k := ⟨a2.toNat, by omega⟩
      have hv := Voters_eq a0 a1 k (by omega) (fun c hc => by rw [F.ch c hc]; omega) F.v
      have hvl : (vL a1.1 k a0).length ≤ big := by
        have key : ∀ (l : List (List Int)) (i : Nat) (b : List Int), b.length ≤ i → (foldI (vF a1.1 k) i b l).length ≤ i + l.length := by
          intro l
          induction l with
          | nil => intro i b h; simpa [foldI] using h
          | cons c l ih => intro i b h; have := ih (i + 1) _ (vF_len (thr := a1.1) (k := k) (c := c) h); simp only [foldI, List.length_cons]; omega
        have := key a0 0 [] (Nat.le_refl _)
        unfold vL big
        omega
      simp only [hin, and_self, decide_true, if_true, Bool.not_true, cond_false, hv, Option.bind_some, Int.toNat_natCast, Ints_same _ hvl]
    · rw [if_neg hin]
      simp [hin]
  rw [mid]
  simp only [Option.bind_some, Sum.elim_inl, hr']
  rcases Trip.same hT hT' with ⟨e1, e2⟩ | ⟨e1, e2⟩
  · rw [e1, e2]; simp
  · rw [e1, e2]
    rw [e2] at hT
    simp only [decide_true, Bool.not_true, cond_false, Option.bind_some]
    have step : ∀ (b1 : Int × Int × Int × Unit), okW a0 b1 → b1.1 ≤ a1.1 → b1.2.1 ≤ a1.2.1 → b1.2.2.1 ≤ a1.2.2.1 → ∃ y, sensor_TrippedIn a0 b1 = some y ∧ y.2 = 0 ∧ y.1 ≤ r'.1 := by
      intro b1 hb h3 h4 h5
      have hwb : watchE a0 b1 = 0 := by unfold watchE; rw [(watchE_zero hw).1]; simp [hb]
      obtain ⟨y, hy, hTy⟩ := TrippedIn_eq a0 b1 h1 h2 hwb
      have hh : ∀ j, hit a1.1 a1.2.1 a0 j → hit b1.1 b1.2.1 a0 j := by
        intro j hj
        unfold hit at hj ⊢
        have := vL_mono h3 j a0
        omega
      have := hT.mono hh h5 hTy
      exact ⟨y, hy, this.1, this.2⟩
    obtain ⟨y1, hy1, hz1, hle1⟩ := step (max (0 : Int) (IntKind.wrap .i64 (a1.1 - 1)), a1.2.1, a1.2.2.1, ()) (by rw [wrap_id (by omega) (by omega)]; unfold okW; dsimp only; omega) (by rw [wrap_id (by omega) (by omega)]; dsimp only; omega) (Int.le_refl _) (Int.le_refl _)
    obtain ⟨y2, hy2, hz2, hle2⟩ := step (a1.1, max (1 : Int) (IntKind.wrap .i64 (a1.2.1 - 1)), a1.2.2.1, ()) (by rw [wrap_id (by omega) (by omega)]; unfold okW; dsimp only; omega) (Int.le_refl _) (by rw [wrap_id (by omega) (by omega)]; dsimp only; omega) (Int.le_refl _)
    obtain ⟨y3, hy3, hz3, hle3⟩ := step (a1.1, a1.2.1, max (1 : Int) (IntKind.wrap .i64 (a1.2.2.1 - 1)), ()) (by rw [wrap_id (by omega) (by omega)]; unfold okW; dsimp only; omega) (Int.le_refl _) (Int.le_refl _) (by rw [wrap_id (by omega) (by omega)]; dsimp only; omega)
    have g1 : ¬ y1.1 > r'.1 := by omega
    have g2 : ¬ y2.1 > r'.1 := by omega
    have g3 : ¬ y3.1 > r'.1 := by omega
    simp only [w64, hy1, hy2, hy3, hz1, hz2, hz3, g1, g2, g3, decide_true, decide_false, Bool.not_true, Bool.not_false, cond_false, cond_true, Option.bind_some]
theorem law07_SensorWatches_true : ∀ x : denP ([Ty.sl (.sl I), .pair I (.pair I (.pair I .unit)), I].map .ty), RngP maxLen [.sl (.sl I), .pair I (.pair I (.pair I .unit)), I] x → e_law07_SensorWatches.F x = some true := by
  rintro ⟨a0, a1, a2⟩ ⟨⟨hl, hc⟩, hr1, hr2⟩
  exact SensorWatches_eq a0 a1 a2 (Nat.le_trans hl (by decide)) hr1.1
end Go.Proofs.Ytpiggpgocnlomaa
