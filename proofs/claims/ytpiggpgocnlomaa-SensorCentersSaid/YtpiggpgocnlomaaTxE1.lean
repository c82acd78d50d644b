/-
  THE TEMPORARIES AS A LIST: what trees of them say.
-/
import Derived.Test.YtpiggpgocnlomaaTxE
set_option linter.unusedVariables false
namespace Go.Tx
open Go Go.Ab

theorem toL_len (e : Env) : e.toL.length = e.n := by simp [Env.toL]
theorem toL_get? (e : Env) (i : Nat) : e.toL[i]? = if i < e.n then some (e.t.get (.any []) i) else none := by
  unfold Env.toL
  rw [List.getElem?_map]
  by_cases h : i < e.n
  · rw [if_pos h]; simp [h]
  · rw [if_neg h, List.getElem?_eq_none (by simp; omega)]; rfl
theorem get_getD (e : Env) (i : Nat) : e.get i = e.toL.getD i (.any []) := by
  rw [List.getD_eq_getElem?_getD, toL_get?]
  show Bool.rec (motive := fun _ => TV) (.any []) (e.t.get (.any []) i) (Nat.ble (i + 1) e.n) = _
  rw [brec]
  by_cases h : i < e.n
  · rw [if_pos h, if_pos (by rw [Nat.ble_eq]; omega)]; rfl
  · rw [if_neg h, if_neg (by rw [Nat.ble_eq]; omega)]; rfl
theorem get_some {e : Env} {i : Nat} {x : TV} (h : e.toL[i]? = some x) : e.get i = x := by
  rw [get_getD, List.getD_eq_getElem?_getD, h]; rfl
theorem some_get {e : Env} {i : Nat} {x : TV} (h : e.get i = x) (hx : ∀ rs, x ≠ .any rs) : e.toL[i]? = some x := by
  rw [get_getD, List.getD_eq_getElem?_getD] at h
  cases hh : e.toL[i]? with
  | none => rw [hh] at h; exact absurd h.symm (hx [])
  | some y => rw [hh] at h; simpa using h
theorem toL_set (e : Env) (i : Nat) (v : TV) : (e.set i v).toL = e.toL.set i v := by
  apply List.ext_getElem?
  intro j
  rw [List.getElem?_set, toL_get?, toL_get?, toL_len]
  show (if j < e.n then some ((e.t.set (.any []) i v).get (.any []) j) else none) = _
  rw [Tr.get_set]
  by_cases h : j < e.n
  · rw [if_pos h, if_pos h]
    by_cases e1 : i = j
    · rw [if_pos e1, if_pos e1, if_pos (by omega)]
    · rw [if_neg e1, if_neg e1]
  · rw [if_neg h, if_neg h]
    by_cases e1 : i = j
    · rw [if_pos e1, if_neg (by omega)]
    · rw [if_neg e1]
theorem toL_mapI (f : Nat → TV → TV) (e : Env) (i : Nat) : (e.mapI f).toL[i]? = (e.toL[i]?).map (f i) := by
  rw [toL_get?, toL_get?]
  show (if i < e.n then some ((e.t.mapI (.any []) e.n f 1 0).get (.any []) i) else none) = _
  by_cases h : i < e.n
  · rw [if_pos h, if_pos h, Tr.get_mapI _ _ _ _ _ _ _ (Nat.le_refl _) (by omega)]
    simp
  · rw [if_neg h, if_neg h]; rfl
theorem mapI_len (f : Nat → TV → TV) (e : Env) : (e.mapI f).toL.length = e.toL.length := by rw [toL_len, toL_len]; rfl
theorem all_get {p : Nat → TV → Bool} {e : Env} (h : e.all p = true) (hp : ∀ i, p i (.any []) = true) {i : Nat} {x : TV} (hx : e.toL[i]? = some x) : p i x = true := by
  rw [toL_get?] at hx
  split at hx
  · cases hx
    have := Tr.allI_get (.any []) hp e.t 1 0 i h
    simpa using this
  · cases hx
theorem mask_get {p : TV → Bool} {e : Env} (hp : p (.any []) = false) {i : Nat} {x : TV} (hx : e.toL[i]? = some x) (h : p x = true) : i ∈ e.mask p := by
  rw [toL_get?] at hx
  split at hx
  · cases hx
    have := Tr.maskI_get (.any []) hp e.t 1 0 i h
    rw [Mask.mem_iff]
    simpa [Mask.has, Env.mask] using this
  · cases hx
theorem fillTr_get : ∀ (l : List TV) (i : Nat) (t : Tr TV) (j : Nat), (fillTr l i t).get (.any []) j = if i ≤ j ∧ j < i + l.length then l.getD (j - i) (.any []) else t.get (.any []) j
  | [], i, t, j => by
    rw [if_neg (by simp)]
    rfl
  | v :: l, i, t, j => by
    show (fillTr l (i + 1) (t.set (.any []) i v)).get (.any []) j = _
    rw [fillTr_get l, Tr.get_set]
    by_cases h1 : i + 1 ≤ j ∧ j < i + 1 + l.length
    · rw [if_pos h1, if_pos (by simp; omega)]
      have : j - i = (j - (i + 1)) + 1 := by omega
      rw [this]; simp
    · rw [if_neg h1]
      by_cases h2 : i = j
      · rw [if_pos h2, if_pos (by simp; omega)]; simp [h2]
      · rw [if_neg h2, if_neg (by simp; omega)]
theorem toL_ofArgs (args : List TV) (n : Nat) : (Env.ofArgs args n).toL = args ++ List.replicate (n - args.length) (.any []) := by
  apply List.ext_getElem?
  intro j
  rw [toL_get?]
  show (if j < args.length + (n - args.length) then some ((fillTr args 0 .nil).get (.any []) j) else none) = _
  rw [fillTr_get, List.getElem?_append]
  by_cases h1 : j < args.length
  · rw [if_pos (by omega), if_pos (by omega), if_pos h1]
    simp [h1]
  · rw [if_neg h1]
    by_cases h2 : j < args.length + (n - args.length)
    · rw [if_pos h2, if_neg (by omega), Tr.get_nil, List.getElem?_replicate, if_pos (by omega)]
    · rw [if_neg h2, List.getElem?_replicate, if_neg (by omega)]
theorem forgetM_get (D : Mask) (rs : List Root) (e : Env) (i : Nat) : (forgetM D rs e).toL[i]? = if i ∈ D then (e.toL[i]?).map (fun _ => .any rs) else e.toL[i]? := by
  unfold forgetM
  rw [toL_mapI]
  by_cases h : i ∈ D
  · rw [if_pos h]
    rw [Mask.mem_iff] at h
    rw [h]
  · rw [if_neg h]
    rw [Mask.mem_iff] at h
    have : D.has i = false := by simpa using h
    rw [this]
    show (e.toL[i]?).map (fun v => v) = _
    simp
theorem forgetM_len (D : Mask) (rs : List Root) (e : Env) : (forgetM D rs e).toL.length = e.toL.length := mapI_len _ _
theorem dullAtT_cons (E : Env) (t : Nat) (ts : List Nat) : (dullAtT E (t :: ts)) = dullAtT (E.set t (E.get t).dull) ts := rfl
theorem toL_modify (E : Env) (t : Nat) : (E.set t (E.get t).dull).toL = E.toL.modify t TV.dull := by
  apply List.ext_getElem?
  intro j
  rw [toL_set, List.getElem?_set, List.getElem?_modify]
  by_cases h : t = j
  · rw [if_pos h]
    subst h
    cases hh : E.toL[t]? with
    | none => rw [if_neg (by have := List.getElem?_eq_none_iff.1 hh; omega)]; rfl
    | some x => rw [if_pos (List.getElem?_eq_some_iff.1 hh).1, get_some hh]; simp
  · rw [if_neg h]
    cases E.toL[j]? <;> simp [h]

/-! ### what is ahead of each operation -/
theorem dedupN_mem {x : Nat} : ∀ {l : List Nat}, x ∈ dedupN l ↔ x ∈ l
  | [] => by simp [dedupN]
  | a :: l => by
    simp only [dedupN]
    split
    · rename_i h
      rw [dedupN_mem]
      simp at h
      constructor
      · intro hx; simp [hx]
      · intro hx
        rcases List.mem_cons.1 hx with rfl | hx
        · exact h
        · exact hx
    · simp [dedupN_mem (l := l)]
def SameA (acc : List Mask) (acc' : List (List Nat)) : Prop := acc.length = acc'.length ∧ ∀ i j, j ∈ acc.getD i .empty ↔ j ∈ acc'.getD i []
theorem foldl_mask (acc : List Mask) (acc' : List (List Nat)) (h : SameA acc acc') : ∀ (l : List Nat) (m : Mask) (x : Nat), x ∈ l.foldl (fun m j => Mask.ins j (m ++ acc.getD j .empty)) m ↔ x ∈ m ∨ x ∈ l.flatMap fun j => j :: acc'.getD j []
  | [], m, x => by simp
  | j :: l, m, x => by
    simp only [List.foldl_cons]
    rw [foldl_mask acc acc' h l]
    simp only [Mask.mem_ins, Mask.mem_append, List.flatMap_cons, List.mem_append, List.mem_cons]
    rw [h.2 j x]
    constructor
    · rintro ((h1 | (h1 | h1)) | h1)
      · exact .inr (.inl (.inl h1))
      · exact .inl h1
      · exact .inr (.inl (.inr h1))
      · exact .inr (.inr h1)
    · rintro (h1 | ((h1 | h1) | h1))
      · exact .inl (.inr (.inl h1))
      · exact .inl (.inl h1)
      · exact .inl (.inr (.inr h1))
      · exact .inr h1
theorem sameA_fold : ∀ (ops : List Oper) (acc : List Mask) (acc' : List (List Nat)), SameA acc acc' →
    SameA (ops.foldl (fun acc o => acc ++ [(boundE o).foldl (fun m j => Mask.ins j (m ++ acc.getD j .empty)) .empty]) acc) (ops.foldl (fun acc o => acc ++ [dedupN ((boundE o).flatMap fun j => j :: acc.getD j [])]) acc')
  | [], acc, acc', h => h
  | o :: ops, acc, acc', h => by
    simp only [List.foldl_cons]
    refine sameA_fold ops _ _ ⟨by simp [h.1], fun i j => ?_⟩
    simp only [List.getD_eq_getElem?_getD, List.getElem?_append]
    by_cases hi : i < acc.length
    · rw [if_pos hi, if_pos (by rw [← h.1]; exact hi)]
      have := h.2 i j
      simpa only [List.getD_eq_getElem?_getD] using this
    · rw [if_neg hi, if_neg (by rw [← h.1]; exact hi), h.1]
      by_cases h0 : i - acc'.length = 0
      · rw [h0]
        simp only [List.getElem?_cons_zero, Option.getD_some]
        have := foldl_mask acc acc' h (boundE o) .empty j
        simp only [List.getD_eq_getElem?_getD] at this
        rw [this, dedupN_mem]
        simp
      · obtain ⟨k, hk⟩ : ∃ k, i - acc'.length = k + 1 := ⟨i - acc'.length - 1, by omega⟩
        rw [hk]; simp
theorem ancsM_has (ops : List Oper) (i j : Nat) : ((ancsM ops).getD i .empty).has j = ((ancs ops).getD i []).contains j := by
  have h := (sameA_fold ops [] [] ⟨rfl, fun i j => by simp⟩).2 i j
  have e : ∀ a b : Bool, (a = true ↔ b = true) → a = b := fun a b => by cases a <;> cases b <;> simp
  apply e
  rw [List.contains_iff_mem]
  exact h
theorem regionOkM_eq (H : Hints) (f : FuncId) (U : List (Nat × Nat)) (ops : Array Oper) : regionOkM H f U ops = regionOk H f U ops := by
  unfold regionOkM regionOk
  simp only [ancsM_has]
  rfl
theorem beforM_eq (draw : Bool) (ops : List Oper) (i c : Nat) : beforM draw (ancsM ops) i c = befor draw (ancs ops) i c := by
  unfold beforM befor
  rw [ancsM_has]
theorem linkOkM_eq (H : Hints) (f : FuncId) (draw : Bool) (ops : Array Oper) : linkOkM H f draw ops = linkOk H f draw ops := by
  have h : ∀ lone c oc, linkOneM H f draw (ancsM ops.toList) ops lone c oc = linkOne H f draw (ancs ops.toList) ops lone c oc := fun lone c oc => by
    unfold linkOneM linkOne
    simp only [beforM_eq]
    rfl
  unfold linkOkM linkOk
  simp only [h]
  rfl
end Go.Tx
