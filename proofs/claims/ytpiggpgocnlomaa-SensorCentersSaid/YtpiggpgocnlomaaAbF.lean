/-
  ONE OPERATION, fourth part: make, slice expressions, append, len; interfaces, functions.
-/
import Derived.Test.YtpiggpgocnlomaaAbE
import Derived.Laws.Slices
set_option linter.unusedVariables false
namespace Go.Ab
open Go
variable {P : Program} {H : Hints} {f : FuncId} {w : World} {X : Cx}

theorem natOf_val {x : V} {n : Nat} {v : Value} {O : List Nat} (h : natOf x = some n) (hr : Rep w X x v O) : ∃ k, v = .int k (n : Int) := by
  unfold natOf at h
  split at h
  · rename_i k i
    split at h
    · rename_i h0
      simp only [Option.some.injEq] at h; subst h
      simp only [Rep] at hr
      exact ⟨k, by rw [hr.1]; congr 1; omega⟩
    · simp at h
  · simp at h

theorem repE_replicate {z : V} {u : Value} {s : Nat} (hs : u.cells.size = s) (hz : Rep w X z u []) : ∀ n, RepE w X s (List.replicate n z) (List.replicate n u.cells.toList).flatten []
  | 0 => by simp [RepE]
  | n + 1 => by
    simp only [List.replicate_succ, List.flatten_cons, RepE]
    exact ⟨u, _, [], [], rfl, hs, rfl, hz, repE_replicate hs hz n⟩

theorem ptrsL_replicate {z : V} (h : z.ptrs = []) : ∀ n, ptrsL (List.replicate n z) = []
  | 0 => rfl
  | n + 1 => by simp [List.replicate_succ, ptrsL, h, ptrsL_replicate h n]

theorem op_makeSlice {t : TypeId} {l c z : V} {vl vc : Value} {O1 O2 : List Nat} (hd : Dom w X) (hz : vmakeSlice P H f t l c = some z) (h1 : Rep w X l vl O1) (h2 : Rep w X c vc O2) (O : List Nat) :
    OpOk P (do pure (Next.value (← Instr.makeSlice t vl vc))) w X z O := by
  unfold vmakeSlice at hz
  split at hz
  · rename_i elem hu
    split at hz
    · rename_i z0 n m hzero hn hm
      split at hz
      · rename_i hc
        obtain ⟨hnm, hn0, hs0, hzl, hzo, hzp, hb, hmx⟩ := hc
        simp only [Option.some.injEq] at hz; subst hz
        obtain ⟨i, u, hi, hiz, rfl⟩ := zero_info hzero
        have hsz : i.size = P.cellsOf elem := by simp [Program.cellsOf, hi]
        have hby : i.bytes = P.bytesOf elem := by simp [Program.bytesOf, hi]
        obtain ⟨k1, rfl⟩ := natOf_val hn h1
        obtain ⟨k2, rfl⟩ := natOf_val hm h2
        have hrz : Rep w X (ofConst (H.precise f) u) u [] := rep_ofConst _ _
        obtain ⟨hcells, _⟩ := rep_cells hzo hrz
        have hul : u.cells.size = P.cellsOf elem := by have e := repL_length _ _ _ hcells; rw [hzl, Array.length_toList] at e; exact e.symm
        have hbm : (P.bytesOf elem : Int) * m ≤ 70368744177664 := by rw [← Int.natCast_mul]; omega
        have hrun := run_make (P := P) w t elem i u hu hi hiz k1 k2 n m (by omega) (by omega) (by rw [hby]; omega) (by omega)
        have hmade : madeCells u.cells (m * i.size) = ((List.replicate n u.cells.toList).flatten ++ (List.replicate (m - n) u.cells.toList).flatten).toArray := by
          apply Array.ext'
          have := cyc u.cells.toList (by simp; omega) m
          simp only [Array.length_toList, Array.toArray_toList, hul] at this
          rw [← List.flatten_append, List.replicate_append_replicate, show n + (m - n) = m by omega]
          rw [hsz]
          simpa [madeCells, hul] using this
        simp only [Int.toNat_natCast] at hrun
        rw [hmade] at hrun
        have hE := repE_replicate hul hrz n
        have hzp' : (ofConst (H.precise f) u).ptrs = [] := by simpa using hzp
        have hlen : ((List.replicate n u.cells.toList).flatten).length = n * P.cellsOf elem := by simp [List.length_flatten, hul]
        have hlen2 : ((List.replicate (m - n) u.cells.toList).flatten).length = (m - n) * P.cellsOf elem := by simp [List.length_flatten, hul]
        have hrep := rep_new (rest := (List.replicate (m - n) u.cells.toList).flatten) (cap := m) (Alike.refl w) hd elem (ptrsL_replicate hzp' n) (Nat.pos_of_ne_zero hs0) (by simpa using hlen) (fun x hx => by rw [(List.mem_replicate.1 hx).2]; exact hzl)
          (by simpa using hnm) (by rw [List.length_append, hlen, hlen2, ← Nat.add_mul]; exact Nat.mul_le_mul_right _ (by omega)) (fun h => hn0 (by simpa using h)) hE (by simp)
        simp only [List.length_replicate] at hrep
        exact ⟨_, _, _, _, sem_v hrun, eff_alloc (Alike.refl w) hd _ _ O, hrep, fun b => by rw [List.count_cons]; simp; split <;> omega, fun b hb => by simp at hb; exact .inr (by omega)⟩
      · simp at hz
    · simp at hz
  · simp at hz

/-! ### slice expressions -/
theorem repE_take {s : Nat} : ∀ (n : Nat) {l : List V} {vals : List Value} {O : List Nat}, RepE w X s l vals O → ∃ O1 O2, O = O1 ++ O2 ∧ RepE w X s (l.take n) (vals.take (n * s)) O1 ∧ RepE w X s (l.drop n) (vals.drop (n * s)) O2
  | 0, l, vals, O, h => ⟨[], O, rfl, by simp [RepE], by simpa using h⟩
  | n + 1, [], vals, O, h => by simp only [RepE] at h; exact ⟨[], [], by simp [h.2], by simp [RepE, h.1], by simp [RepE, h.1]⟩
  | n + 1, x :: l, vals, O, h => by
    simp only [RepE] at h
    obtain ⟨u, vs, O1, O2, rfl, hs, rfl, h1, h2⟩ := h
    obtain ⟨A, B, rfl, hA, hB⟩ := repE_take n h2
    have hl : u.cells.toList.length = s := by simpa using hs
    refine ⟨O1 ++ A, B, by simp, ?_, ?_⟩
    · simp only [List.take_succ_cons, RepE]
      refine ⟨u, _, O1, A, ?_, hs, rfl, h1, hA⟩
      rw [List.take_append, Nat.succ_mul, hl]
      rw [(List.take_of_length_le (by omega) : u.cells.toList.take (n * s + s) = u.cells.toList), show n * s + s - s = n * s by omega]
    · simp only [List.drop_succ_cons]
      rw [Nat.succ_mul, List.drop_append, hl, (List.drop_eq_nil_of_le (by omega) : u.cells.toList.drop (n * s + s) = []), show n * s + s - s = n * s by omega]
      exact hB

theorem run_bound {k : IntKind} {n y : Nat} {code : BoundsCode} (h : n ≤ y) : (Instr.sliceBound (.int k (n : Int)) y code).run P w = .ok n w := by
  have := run_sliceBound (P := P) (w := w) k (n : Int) y code (by omega) (by omega)
  simpa using this

theorem natOr_val {d n : Nat} {lo : Option V} {vlo : Option Value} (h : natOr d lo = some n) (hr : ∀ x, lo = some x → ∃ v O, vlo = some v ∧ Rep w X x v O) (hn : lo = none → vlo = none) :
    (lo = none ∧ vlo = none ∧ n = d) ∨ ∃ k, lo.isSome = true ∧ vlo = some (.int k (n : Int)) := by
  cases lo with
  | none => simp [natOr] at h; exact .inl ⟨rfl, hn rfl, h.symm⟩
  | some x =>
    obtain ⟨v, O, hv, hx⟩ := hr x rfl
    obtain ⟨k, rfl⟩ := natOf_val (by simpa [natOr] using h) hx
    exact .inr ⟨k, rfl, hv⟩

theorem run_bounds {isSlice : Bool} {len cap a b m : Nat} {lo hi mx : Option Value} (hlo : (lo = none ∧ a = 0) ∨ ∃ k, lo = some (.int k (a : Int))) (hhi : (hi = none ∧ mx = none ∧ b = len) ∨ ∃ k, hi = some (.int k (b : Int)))
    (hmx : (mx = none ∧ m = cap) ∨ ∃ k, mx = some (.int k (m : Int))) (h1 : a ≤ b) (h2 : b ≤ m) (h3 : m ≤ cap) :
    (Instr.sliceBounds isSlice len cap lo hi mx).run P w = .ok (a, b, m) w := by
  have hb (k : IntKind) (code : BoundsCode) := run_bound (P := P) (w := w) (k := k) (code := code) h2
  have ha (k : IntKind) (code : BoundsCode) := run_bound (P := P) (w := w) (k := k) (code := code) h1
  have hm (k : IntKind) (code : BoundsCode) := run_bound (P := P) (w := w) (k := k) (code := code) h3
  rcases hlo with ⟨rfl, rfl⟩ | ⟨k1, rfl⟩ <;> rcases hhi with ⟨rfl, rfl, rfl⟩ | ⟨k2, rfl⟩ <;> (first | (rcases hmx with ⟨rfl, rfl⟩ | ⟨k3, rfl⟩) | skip) <;>
    simp_all [Instr.sliceBounds]

def OptRep (w : World) (X : Cx) (a : Option V) (va : Option Value) : Prop := (a = none ∧ va = none) ∨ ∃ x v O, a = some x ∧ va = some v ∧ Rep w X x v O

theorem OptRep.nat {a : Option V} {va : Option Value} {d n : Nat} (h : OptRep w X a va) (hn : natOr d a = some n) : (a = none ∧ va = none ∧ n = d) ∨ ∃ k, a.isSome = true ∧ va = some (.int k (n : Int)) := by
  rcases h with ⟨rfl, rfl⟩ | ⟨x, v, O, rfl, rfl, hr⟩
  · simp [natOr] at hn; exact .inl ⟨rfl, rfl, hn.symm⟩
  · obtain ⟨k, rfl⟩ := natOf_val (by simpa [natOr] using hn) hr
    exact .inr ⟨k, rfl, rfl⟩

theorem op_slice {t : TypeId} {x z : V} {v : Value} {O : List Nat} {lo hi mx : Option V} {vlo vhi vmx : Option Value} (hz : vslice P t x lo hi mx = some z) (h : Rep w X x v O)
    (h1 : OptRep w X lo vlo) (h2 : OptRep w X hi vhi) (h3 : OptRep w X mx vmx) : ∃ v', (Instr.sliceAt t v vlo vhi vmx).run P w = .ok v' w ∧ Rep w X z v' [] := by
  unfold vslice at hz
  split at hz
  · rename_i elem fl c l hu
    split at hz
    · simp at hz
    · rename_i hcnd
      simp only [not_or, Bool.not_eq_false] at hcnd
      obtain ⟨hown, hs0, hall⟩ := hcnd
      have hall' : ∀ e ∈ l, e.cells.length = P.cellsOf elem := by simpa [List.all_eq_true] using hall
      split at hz
      · rename_i a b ha hb
        have hlo := h1.nat ha
        have hhi := h2.nat hb
        have hrun : ∀ (base : Option Addr) (cap m : Nat), l.length ≤ cap → ((mx = none ∧ m = cap) ∨ (mx.isSome = true ∧ natOr 0 mx = some m ∧ hi.isSome = true)) → a ≤ b → b ≤ l.length → b ≤ m → m ≤ cap →
            (Instr.sliceAt t (.slice base l.length cap) vlo vhi vmx).run P w = .ok (.slice (if m = a then base else base.map (·.add (a * P.cellsOf elem))) (b - a) (m - a)) w := by
          intro base cap m hcap hm hab hbl hbm hmc
          have hb1 : (vlo = none ∧ a = 0) ∨ ∃ k, vlo = some (.int k (a : Int)) := by
            rcases hlo with ⟨_, hv, ha⟩ | ⟨k, _, hv⟩
            · exact .inl ⟨hv, ha⟩
            · exact .inr ⟨k, hv⟩
          have hb3 : (vmx = none ∧ m = cap) ∨ ∃ k, vmx = some (.int k (m : Int)) := by
            rcases hm with ⟨hm, hmc⟩ | ⟨hm, hmo, _⟩
            · rcases h3 with ⟨_, hv⟩ | ⟨x', v', O', hx', _⟩
              · exact .inl ⟨hv, hmc⟩
              · rw [hm] at hx'; cases hx'
            · rcases h3.nat hmo with ⟨hn, _⟩ | ⟨k, _, hv⟩
              · rw [hn] at hm; simp at hm
              · exact .inr ⟨k, hv⟩
          have hb2 : (vhi = none ∧ vmx = none ∧ b = l.length) ∨ ∃ k, vhi = some (.int k (b : Int)) := by
            rcases hhi with ⟨hn, hv, hb⟩ | ⟨k, _, hv⟩
            · refine .inl ⟨hv, ?_, hb⟩
              rcases hm with ⟨hm, _⟩ | ⟨_, _, hm⟩
              · rcases h3 with ⟨_, hv⟩ | ⟨x', v', O', hx', _⟩
                · exact hv
                · rw [hm] at hx'; cases hx'
              · rw [hn] at hm; simp at hm
            · exact .inr ⟨k, hv⟩
          have hbo := run_bounds (P := P) (w := w) (isSlice := true) hb1 hb2 hb3 hab hbm hmc
          simp [Instr.sliceAt, Instr.slice, run_underlying hu, hbo, run_sizeOf' hs0]
        have hres : ∀ (m : Nat → Nat) (c' : Bool), (∀ cap, l.length ≤ cap → b ≤ m cap ∧ m cap ≤ cap ∧ ((mx = none ∧ m cap = cap) ∨ (mx.isSome = true ∧ natOr 0 mx = some (m cap) ∧ hi.isSome = true)) ∧ (c' = true → (c = true → cap = l.length) → m cap = b)) →
            a ≤ b → b ≤ l.length → ∃ v', (Instr.sliceAt t v vlo vhi vmx).run P w = .ok v' w ∧ Rep w X (.sl fl c' ((l.take b).drop a)) v' [] := by
          intro m c' hm hab hbl
          simp only [Rep] at h
          obtain ⟨hp, h⟩ := h
          have hp' : ptrsL ((l.take b).drop a) = [] := (ptrsL_take a _ (ptrsL_take b l hp).1).2
          rcases h with ⟨rfl, _, hv0⟩ | ⟨b0, off, cap, s, vals, O', rfl, hcap, hclip, hvl, hsp, hxs, hs, hf, hE, _, ho'⟩
          · obtain ⟨hm1, hm2, hm3, _⟩ := hm 0 (by simp)
            have hbl0 : b = 0 := by simpa using hbl
            have hm0 : m 0 = 0 := by omega
            have ha0 : a = 0 := by omega
            rcases hv0 with rfl | ⟨_, a0, rfl⟩
            · have hr := hrun none 0 (m 0) (by simp) hm3 hab hbl hm1 hm2
              refine ⟨_, hr, ?_⟩
              simp only [Rep]
              refine ⟨hp', .inl ⟨by simp, trivial, .inl ?_⟩⟩
              subst hbl0
              simp [hm0]
            · have hr := hrun (some a0) 0 (m 0) (by simp) hm3 hab hbl hm1 hm2
              refine ⟨_, hr, ?_⟩
              simp only [Rep]
              refine ⟨hp', .inl ⟨by simp, trivial, .inr ⟨hown, a0, ?_⟩⟩⟩
              subst hbl0; subst ha0
              simp [hm0]
          · obtain ⟨hm1, hm2, hm3, hm4⟩ := hm cap hcap
            have hr := hrun (some ⟨b0, off, none⟩) cap (m cap) hcap hm3 hab hbl hm1 hm2
            obtain ⟨rfl, rfl⟩ := ho' hown
            obtain ⟨A, B, hAB, hA, _⟩ := repE_take b hE
            obtain ⟨rfl, rfl⟩ := List.append_eq_nil_iff.1 hAB.symm
            obtain ⟨C, D, hCD, _, hD⟩ := repE_take a hA
            obtain ⟨rfl, rfl⟩ := List.append_eq_nil_iff.1 hCD.symm
            have hvlen : ((vals.take (b * s)).drop (a * s)).length = (b - a) * s := by
              rw [List.length_drop, List.length_take, hvl, Nat.min_eq_left (Nat.mul_le_mul_right _ hbl), Nat.sub_mul]
            have hllen : ((l.take b).drop a).length = b - a := by simp; omega
            have has : a * s + (b - a) * s ≤ vals.length := by rw [hvl, ← Nat.add_mul]; exact Nat.mul_le_mul_right _ (by omega)
            obtain ⟨e, fz, hω, hle, hfl⟩ := hf
            have hfl' : ∀ off', off' + ((vals.take (b * s)).drop (a * s)).length ≤ e → FlagOk w X fl b0 off' ((vals.take (b * s)).drop (a * s)).length (m cap - a) s := by
              intro off' ho
              refine ⟨e, fz, hω, ho, ?_⟩
              cases fl with
              | own => exact absurd rfl hown
              | dull => trivial
              | shared => exact hfl
            have hx' : ∀ x ∈ (l.take b).drop a, x.cells.length = s := fun x hx => hxs x (List.mem_of_mem_take (List.mem_of_mem_drop hx))
            have hsame : l = [] ∨ s = P.cellsOf elem := by
              cases l with
              | nil => exact .inl rfl
              | cons y l => exact .inr ((hxs y (by simp)).symm.trans (hall' y (by simp)))
            refine ⟨_, hr, ?_⟩
            simp only [Rep]
            refine ⟨hp', .inr ?_⟩
            by_cases hma : m cap = a
            · have hba : b = a := by omega
              refine ⟨b0, off, m cap - a, s, _, [], by rw [if_pos hma, hllen], by rw [hllen]; omega, fun hc' => by rw [hllen, hm4 hc' hclip], by rw [hvlen, hllen], hsp, hx', ?_, hfl' off (by rw [hvlen, hba]; simp; omega), hD, fun hh => absurd hh hown, fun _ => ⟨trivial, rfl⟩⟩
              intro i u hi
              have := (List.getElem?_eq_some_iff.1 hi).1
              rw [hvlen, hba] at this; simp at this
            · refine ⟨b0, off + a * P.cellsOf elem, m cap - a, s, _, [], by rw [if_neg hma, hllen]; simp [Addr.add_lit], by rw [hllen]; omega, fun hc' => by rw [hllen, hm4 hc' hclip], by rw [hvlen, hllen], hsp, hx', ?_, ?_, hD, fun hh => absurd hh hown, fun _ => ⟨trivial, rfl⟩⟩
              · intro i u hi
                rw [List.getElem?_drop, List.getElem?_take] at hi
                split at hi
                · rcases hsame with rfl | hse
                  · simp at hvl; subst hvl; simp at hi
                  · rw [← hse, Nat.add_assoc]; exact hs _ u hi
                · simp at hi
              · apply hfl'
                rw [hvlen]
                rcases hsame with rfl | hse
                · simp at hbl; subst hbl; simp at hab; subst hab; simp; omega
                · rw [← hse]; omega
        split at hz
        · rename_i hmx
          split at hz
          · rename_i hc
            simp only [Option.some.injEq] at hz; subst hz
            refine hres (fun cap => cap) _ (fun cap hcap => ⟨by omega, Nat.le_refl _, .inl ⟨rfl, rfl⟩, fun hc' hcl => ?_⟩) hc.1 hc.2
            simp at hc'
            rw [hcl hc'.1, hc'.2]
          · simp at hz
        · rename_i m hmx
          split at hz
          · rename_i hc
            obtain ⟨hmb, hhs, hab, hbl⟩ := hc
            simp only [Option.some.injEq] at hz; subst hz
            exact hres (fun cap => b) _ (fun cap hcap => ⟨Nat.le_refl _, by omega, .inr ⟨rfl, by simpa [natOr] using hmb, hhs⟩, fun _ _ => rfl⟩) hab hbl
          · simp at hz
      · simp at hz
  · rename_i elem hu
    split at hz
    · simp at hz
    · rename_i hs0
      split at hz
      · rename_i ha hb hm
        split at hz
        · simp at hz
        · rename_i hnn
          simp only [Option.some.injEq] at hz; subst hz
          simp only [Rep] at h
          obtain ⟨rfl, rfl⟩ := h
          refine ⟨.slice none 0 0, ?_, by simp [Rep]⟩
          have hbo := run_bounds (P := P) (w := w) (isSlice := true) (len := 0) (cap := 0) (a := 0) (b := 0) (m := 0) (lo := vlo) (hi := vhi) (mx := vmx)
            (by rcases h1.nat ha with ⟨_, hv, _⟩ | ⟨k, _, hv⟩; exact .inl ⟨hv, rfl⟩; exact .inr ⟨k, by simpa using hv⟩)
            (by
              rcases h2.nat hb with ⟨hn, hv, _⟩ | ⟨k, _, hv⟩
              · refine .inl ⟨hv, ?_, rfl⟩
                rcases h3 with ⟨_, hv⟩ | ⟨x', v', O', rfl, _⟩
                · exact hv
                · subst hn; simp at hnn
              · exact .inr ⟨k, by simpa using hv⟩)
            (by rcases h3.nat hm with ⟨_, hv, _⟩ | ⟨k, _, hv⟩; exact .inl ⟨hv, rfl⟩; exact .inr ⟨k, by simpa using hv⟩) (by simp) (by simp) (by simp)
          simp [Instr.sliceAt, Instr.slice, run_underlying hu, hbo, run_sizeOf' hs0]
      · simp at hz
  · rename_i s hu
    split at hz
    · rename_i a b ha hb
      split at hz
      · rename_i hc
        obtain ⟨hmn, hab, hbs⟩ := hc
        simp only [Option.some.injEq] at hz; subst hz
        simp only [Rep] at h
        obtain ⟨rfl, rfl⟩ := h
        refine ⟨.string (s.extract a b), ?_, by simp [Rep]⟩
        have hvm : vmx = none := by
          rcases h3 with ⟨_, hv⟩ | ⟨x', v', O', rfl, _⟩
          · exact hv
          · simp at hmn
        subst hvm
        have hbo := run_bounds (P := P) (w := w) (isSlice := false) (len := s.size) (cap := s.size) (a := a) (b := b) (m := s.size) (lo := vlo) (hi := vhi) (mx := none)
            (by rcases h1.nat ha with ⟨_, hv, ha⟩ | ⟨k, _, hv⟩; exact .inl ⟨hv, ha⟩; exact .inr ⟨k, hv⟩)
            (by rcases h2.nat hb with ⟨_, hv, hb⟩ | ⟨k, _, hv⟩; exact .inl ⟨hv, rfl, hb⟩; exact .inr ⟨k, hv⟩)
            (.inl ⟨rfl, rfl⟩) hab hbs (Nat.le_refl _)
        simp [Instr.sliceAt, Instr.slice, run_underlying hu, hbo]
      · simp at hz
    · simp at hz
  · simp at hz
end Go.Ab
