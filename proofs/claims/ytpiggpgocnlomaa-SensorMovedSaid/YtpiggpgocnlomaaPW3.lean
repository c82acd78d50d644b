/-
  WATCHES: who votes, and where a watch trips.
-/
import Derived.Test.YtpiggpgocnlomaaPW2
set_option linter.unusedVariables false
set_option linter.unusedSimpArgs false
namespace Go.Proofs.Ytpiggpgocnlomaa
open Go Go.Ab Go.Tx
def vF (thr : Int) (k : Nat) (i : Nat) (b : List Int) (c : List Int) : List Int := if -thr ≤ c.getD k 0 ∧ c.getD k 0 ≤ thr then b else b ++ [(i : Int)]
def vL (thr : Int) (k : Nat) (l : List (List Int)) : List Int := foldI (vF thr k) 0 [] l
theorem vF_mono {thr thr' : Int} (h0 : thr' ≤ thr) (k : Nat) : ∀ (l : List (List Int)) (i : Nat) (b b' : List Int), b.length ≤ b'.length → (foldI (vF thr k) i b l).length ≤ (foldI (vF thr' k) i b' l).length
  | [], i, b, b', h => h
  | c :: l, i, b, b', h => by
    simp only [foldI]
    apply vF_mono h0 k l
    unfold vF
    split
    · split
      · exact h
      · simp; omega
    · split
      · rename_i h1 h2; exact absurd ⟨by omega, by omega⟩ h1
      · simp; exact h
theorem vL_mono {thr thr' : Int} (h0 : thr' ≤ thr) (k : Nat) (l : List (List Int)) : (vL thr k l).length ≤ (vL thr' k l).length := vF_mono h0 k l 0 [] [] (Nat.le_refl _)
theorem getD_of {l : List Int} {k : Nat} (h : k < l.length) : l[k]? = some (l.getD k 0) := by simp [h]
theorem vF_len {thr : Int} {k i : Nat} {b c : List Int} (h : b.length ≤ i) : (vF thr k i b c).length ≤ i + 1 := by
  unfold vF; split
  · omega
  · simp; omega
theorem voters_eq (w : Int × Int × Int × List (List Int) × Unit) (k : Nat) (hl : w.2.2.2.1.length ≤ 100) (hk : ∀ c ∈ w.2.2.2.1, k < c.length) (h0 : 0 ≤ w.1) (h1 : w.1 ≤ 100000) :
    sensor_watch_voters w k = some (vL w.1 k w.2.2.2.1) := by
  unfold sensor_watch_voters
  rw [loop_fold w.2.2.2.1 (vF w.1 k) id (fun i b => b.length ≤ i) (Nat.le_refl _)]
  · rfl
  · intro i c b hi hb
    have hlt : i < w.2.2.2.1.length := (List.getElem?_eq_some_iff.1 hi).1
    have h2 : (i : Int) < (w.2.2.2.1.length : Int) := by omega
    have h3 := getD_of (hk c (List.mem_of_getElem? hi))
    refine ⟨?_, vF_len hb⟩
    simp only [h2, decide_true, cond_true, idx_of hi, Option.bind_some, wrap_id (n := (i : Int) + 1) (by omega) (by omega), idx_of h3, sized_eq _ _ h0 (by omega : w.1 ≤ 9223372036854775807)]
    rw [app_of (by simp; omega)]
    unfold vF
    by_cases h4 : -w.1 ≤ c.getD k 0 ∧ c.getD k 0 ≤ w.1
    · simp only [h4, decide_true]; simp
    · simp only [h4, decide_false]; simp
  · intro b hb
    simp
theorem Size_eq (v : Int) (h : -100000 ≤ v ∧ v ≤ 100000) : base_Size v = some (max v (-v)) := by
  unfold base_Size
  simp only [Int.zero_sub, wrap_id (n := -v) (by omega) (by omega)]
theorem Voters_eq (a0 : List (List Int)) (a1 : Int × Int × Int × Unit) (k : Nat) (hl : a0.length ≤ 100) (hk : ∀ c ∈ a0, k < c.length) (hv : ∀ c ∈ a0, ∀ v ∈ c, -100000 ≤ v ∧ v ≤ 100000) :
    ref07_Voters a0 a1 k = some (vL a1.1 k a0) := by
  unfold ref07_Voters
  rw [loop_fold a0 (vF a1.1 k) id (fun i b => b.length ≤ i) (Nat.le_refl _)]
  · rfl
  · intro i c b hi hb
    have hlt : i < a0.length := (List.getElem?_eq_some_iff.1 hi).1
    have h2 : (i : Int) < (a0.length : Int) := by omega
    have hc := List.mem_of_getElem? hi
    have h3 := getD_of (hk c hc)
    have h5 := hv c hc _ (List.mem_of_getElem? h3)
    refine ⟨?_, vF_len hb⟩
    simp only [h2, decide_true, cond_true, idx_of hi, Option.bind_some, wrap_id (n := (i : Int) + 1) (by omega) (by omega), idx_of h3, Size_eq _ h5]
    rw [app_of (by simp; omega)]
    unfold vF
    generalize c.getD k 0 = v at *
    by_cases h4 : -a1.1 ≤ v ∧ v ≤ a1.1
    · have h6 : ¬ max v (-v) > a1.1 := by omega
      simp only [h4, h6, decide_false]; simp
    · have h6 : max v (-v) > a1.1 := by omega
      simp only [h4, h6, decide_true]; simp
  · intro b hb
    simp
/-- at instant i the last s all hit -/
def Win (hit : Nat → Prop) (s : Int) (i : Nat) : Prop := s ≤ (i : Int) + 1 ∧ ∀ j : Nat, (i : Int) < j + s → j ≤ i → hit j
def Trip {β : Type} (hit : Nat → Prop) (s : Int) (m : Nat) (yes no : β) (r : Int × β) : Prop :=
  (∃ i : Nat, i < m ∧ Win hit s i ∧ (∀ k, k < i → ¬ Win hit s k) ∧ r = ((i : Int), yes)) ∨ ((∀ k, k < m → ¬ Win hit s k) ∧ r = (0, no))
theorem Win.mono {hit hit' : Nat → Prop} {s s' : Int} {i : Nat} (h : Win hit s i) (hh : ∀ j, hit j → hit' j) (hs : s' ≤ s) : Win hit' s' i :=
  ⟨by have := h.1; omega, fun j h1 h2 => hh j (h.2 j (by omega) h2)⟩
theorem Trip.mono {hit hit' : Nat → Prop} {s s' : Int} {m : Nat} {i : Int} {r : Int × Int} (h : Trip hit s m (0 : Int) 12 (i, 0)) (hh : ∀ j, hit j → hit' j) (hs : s' ≤ s) (hr : Trip hit' s' m (0 : Int) 12 r) : r.2 = 0 ∧ r.1 ≤ i := by
  rcases h with ⟨k, hk, hw, hf, e⟩ | ⟨_, e⟩
  · cases e
    rcases hr with ⟨k', hk', hw', hf', rfl⟩ | ⟨hn, rfl⟩
    · refine ⟨rfl, ?_⟩
      have : ¬ k < k' := fun hlt => hf' k hlt (hw.mono hh hs)
      show (k' : Int) ≤ k
      omega
    · exact absurd (hw.mono hh hs) (hn k hk)
  · cases e
theorem Trip.same {hit : Nat → Prop} {s : Int} {m : Nat} {r : Int × Int} {r' : Int × Bool} (h : Trip hit s m (0 : Int) 12 r) (h' : Trip hit s m true false r') : (r'.2 = false ∧ r = (0, 12)) ∨ (r'.2 = true ∧ r = (r'.1, 0)) := by
  rcases h with ⟨k, hk, hw, hf, rfl⟩ | ⟨hn, rfl⟩ <;> rcases h' with ⟨k', hk', hw', hf', rfl⟩ | ⟨hn', rfl⟩
  · right
    have h1 : ¬ k < k' := fun hlt => hf' k hlt hw
    have h2 : ¬ k' < k := fun hlt => hf k' hlt hw'
    have : k = k' := by omega
    subst this
    exact ⟨rfl, rfl⟩
  · exact absurd hw (hn' k hk)
  · exact absurd hw' (hn k' hk')
  · exact .inl ⟨rfl, rfl⟩
def hit (thr q : Int) (a0 : List (List Int)) (j : Nat) : Prop := q ≤ ((vL thr j a0).length : Int)
/-- what a watch without fault has -/
structure Fine (a0 : List (List Int)) (a1 : Int × Int × Int × Unit) : Prop where
  len : 0 < a0.length ∧ a0.length ≤ 7
  ch : ∀ c ∈ a0, c.length = n0 a0
  v : ∀ c ∈ a0, ∀ v ∈ c, -100000 ≤ v ∧ v ≤ 100000
  m : 0 < n0 a0 ∧ n0 a0 ≤ 60
  ok : okW a0 a1
theorem fine {a0 : List (List Int)} {a1 : Int × Int × Int × Unit} (h : watchE a0 a1 = 0) : Fine a0 a1 := by
  obtain ⟨h1, h2⟩ := watchE_zero h
  obtain ⟨h3, h4, h5⟩ := chanE_zero h1
  refine ⟨⟨h3, by omega⟩, fun c hc => (h5 c hc).2, fun c hc => (rawE_zero (h5 c hc).1).2.2, ?_, h2⟩
  cases a0 with
  | nil => simp at h3
  | cons c l => exact ⟨(rawE_zero (h5 c (List.mem_cons_self)).1).1, (rawE_zero (h5 c (List.mem_cons_self)).1).2.1⟩
theorem head_eq {a0 : List (List Int)} (h : 0 < a0.length) : ∃ c, idx a0 0 = some c ∧ c.length = n0 a0 := by
  cases a0 with
  | nil => simp at h
  | cons c l => exact ⟨c, by simp [idx_zero], rfl⟩
theorem small_big {a0 : List (List Int)} (h1 : a0.length ≤ 9) (h2 : ∀ c ∈ a0, c.length ≤ 62) : a0.length ≤ big ∧ ∀ c ∈ a0, c.length ≤ big := by
  unfold big
  exact ⟨by omega, fun c hc => by have := h2 c hc; omega⟩
theorem TrippedIn_bad (a0 : List (List Int)) (a1 : Int × Int × Int × Unit) (h1 : a0.length ≤ 9) (h2 : ∀ c ∈ a0, c.length ≤ 62) (h : watchE a0 a1 ≠ 0) : sensor_TrippedIn a0 a1 = some (0, watchE a0 a1) := by
  unfold sensor_TrippedIn
  rw [openWatch_eq a0 a1 (small_big h1 h2).1 (small_big h1 h2).2]
  simp [h]
theorem TrippedIn_eq (a0 : List (List Int)) (a1 : Int × Int × Int × Unit) (h1 : a0.length ≤ 9) (h2 : ∀ c ∈ a0, c.length ≤ 62) (h : watchE a0 a1 = 0) :
    ∃ r, sensor_TrippedIn a0 a1 = some r ∧ Trip (hit a1.1 a1.2.1 a0) a1.2.2.1 (n0 a0) (0 : Int) 12 r := by
  have F := fine h
  obtain ⟨c0, hc0, hl0⟩ := head_eq F.len.1
  obtain ⟨⟨t1, t2⟩, ⟨q1, q2⟩, ⟨s1, s2⟩⟩ := F.ok
  have hm := F.m
  unfold sensor_TrippedIn
  rw [openWatch_eq a0 a1 (small_big h1 h2).1 (small_big h1 h2).2]
  simp only [Option.bind_some, h, decide_true, Bool.not_true, cond_false, hc0, hl0]
  generalize hs : a1.2.2.1 = s at *
  generalize hq : a1.2.1 = q at *
  generalize ht : a1.1 = thr at *
  have hv : ∀ i : Nat, i < n0 a0 → sensor_watch_voters (thr, q, s, a0, ()) i = some (vL thr i a0) := fun i hi =>
    voters_eq (thr, q, s, a0, ()) i (by show a0.length ≤ 100; omega) (fun c hc => by rw [F.ch c hc]; exact hi) t1 t2
  obtain ⟨r, hr, hQ⟩ := loop_inv (σ := Int × Int) (ρ := Unit ⊕ (Int × Int)) (f := fun (s4 : (Int × Int)) =>
        bif decide (s4.2 < (n0 a0 : Int)) then
          (sensor_watch_voters (thr, q, s, a0, ()) s4.2).bind fun x5 =>
          (bif decide ((x5.length : Int) < q) then
              some 0
            else
              some (w64 (s4.1 + 1))).bind fun (p6 : Int) =>
          bif decide (p6 = s) then
            some (.inr (.inr (s4.2, 0)))
          else
            some (.inl (p6, w64 (s4.2 + 1)))
        else
          some (.inr (.inl ()))) (n0 a0)
    (fun i st => ∃ c : Nat, st = ((c : Int), (i : Int)) ∧ c ≤ i ∧ (c : Int) < s ∧ (∀ j : Nat, i ≤ j + c → j < i → hit thr q a0 j) ∧ (c < i → ¬ hit thr q a0 (i - c - 1)) ∧ ∀ k, k < i → ¬ Win (hit thr q a0) s k)
    (fun r => Trip (hit thr q a0) s (n0 a0) (0 : Int) 12 (r.elim (fun _ => (0, 12)) id))
    (by
      rintro i st hi ⟨c, rfl, hc1, hc2, hc3, hc4, hc5⟩
      by_cases hlt : i < n0 a0
      · have hlt' : (i : Int) < (n0 a0 : Int) := by omega
        simp only [hlt', decide_true, cond_true, hv i hlt, Option.bind_some]
        by_cases hh : ((vL thr i a0).length : Int) < q
        · have hn : ¬ hit thr q a0 i := by unfold hit; omega
          have h0 : ¬ (0 : Int) = s := by omega
          left
          simp only [hh, decide_true, cond_true, Option.bind_some, h0, decide_false, cond_false, wrap_id (n := (i : Int) + 1) (by omega) (by omega)]
          refine ⟨_, rfl, hlt, 0, by simp, by omega, by omega, fun j _ _ => by omega, fun _ => by simpa using hn, fun k hk hw => ?_⟩
          by_cases hki : k = i
          · subst hki; exact hn (hw.2 k (by omega) (by omega))
          · exact hc5 k (by omega) hw
        · have hn : hit thr q a0 i := by unfold hit; omega
          simp only [hh, decide_false, cond_false, Option.bind_some, wrap_id (n := (i : Int) + 1) (by omega) (by omega), wrap_id (n := (c : Int) + 1) (by omega) (by omega)]
          by_cases he : (c : Int) + 1 = s
          · right
            simp only [he, decide_true, cond_true]
            refine ⟨_, rfl, .inl ⟨i, hlt, ⟨by omega, fun j hj1 hj2 => ?_⟩, hc5, rfl⟩⟩
            by_cases hji : j = i
            · subst hji; exact hn
            · exact hc3 j (by omega) (by omega)
          · left
            simp only [he, decide_false, cond_false]
            refine ⟨_, rfl, hlt, c + 1, by simp, by omega, by omega, fun j hj1 hj2 => ?_, fun hci => ?_, fun k hk hw => ?_⟩
            · by_cases hji : j = i
              · subst hji; exact hn
              · exact hc3 j (by omega) (by omega)
            · have := hc4 (by omega)
              have e : i + 1 - (c + 1) - 1 = i - c - 1 := by omega
              rw [e]; exact this
            · by_cases hki : k = i
              · subst hki
                by_cases hck : c < k
                · exact hc4 hck (hw.2 (k - c - 1) (by omega) (by omega))
                · have := hw.1; omega
              · exact hc5 k (by omega) hw
      · right
        have hlt' : ¬ (i : Int) < (n0 a0 : Int) := by omega
        simp only [hlt', decide_false, cond_false]
        exact ⟨_, rfl, .inr ⟨fun k hk => hc5 k (by omega), rfl⟩⟩)
    (s := (0, 0)) ⟨0, rfl, by omega, by simp; omega, fun j _ hj => by omega, fun hj => by omega, fun k hk => by omega⟩
  rw [hr]
  cases r with
  | inl u => exact ⟨_, rfl, hQ⟩
  | inr p => exact ⟨_, rfl, hQ⟩
end Go.Proofs.Ytpiggpgocnlomaa
