/-
  WHAT IS KNOWN OF ADDRESSES within a region.
-/
import Derived.Test.YtpiggpgocnlomaaLkC
set_option linter.unusedVariables false
namespace Go.Ab
open Go
variable {P : Program} {H : Hints} {f : FuncId} {w w' : World} {X X' : Cx}

def tv (tmps : Array Value) (t : Tmp) : Value := tmps.getD t undef
def evT (tmps : Array Value) : Operand → Value
  | .tmp t => tv tmps t
  | .const v => v
  | _ => undef

/-- what is known behind an operation that makes a link -/
def LkFact (P : Program) (H : Hints) (f : FuncId) (E : List V) (o : Oper) (tmps : Array Value) (w : World) (X : Cx) : Prop :=
  match o.op, o.dst with
  | .move (.tmp a), some d => tv tmps d = tv tmps a
  | .indexAddr t (.tmp a) i, some d => ∀ elem, P.underlying t = some (.slice elem) → ∃ b off len cap k n, tv tmps a = .slice (some ⟨b, off, none⟩) len cap ∧ evT tmps i = .int k n ∧ 0 ≤ n ∧ n < (len : Int) ∧ tv tmps d = .pointer (some ⟨b, off + n.toNat * P.cellsOf elem, none⟩)
  | .fieldAddr t (.tmp a) fd, some d => ∀ b off o', tv tmps a = .pointer (some ⟨b, off, none⟩) → fieldOff P t fd = some o' → tv tmps d = .pointer (some ⟨b, off + o', none⟩)
  | .load t (.tmp a), some d => isAggT P t = false → if H.link f a = true then (∃ b off v, tv tmps a = .pointer (some ⟨b, off, none⟩) ∧ w.cell? ⟨b, off, none⟩ = some v ∧ tv tmps d = v ∧ ∃ e fz, X.ω b = some (e, fz) ∧ off < e)
      else ∀ r o', E[a]? = some (.ptr r o') → ∃ b v, tv tmps a = .pointer (some ⟨b, o', none⟩) ∧ w.cell? ⟨b, o', none⟩ = some v ∧ tv tmps d = v
  | _, _ => True

theorem tmpsOf_mem {o : Oper} {x : Operand} {t : Tmp} (hx : x ∈ o.op.operands.toList) (e : x = .tmp t) : t ∈ tmpsOf o := by
  subst e; exact List.mem_filterMap.2 ⟨.tmp t, hx, rfl⟩

theorem evT_congr {tmps tmps' : Array Value} {i : Operand} (h : ∀ t, i = .tmp t → tv tmps' t = tv tmps t) : evT tmps' i = evT tmps i := by
  cases i <;> first | rfl | exact h _ rfl

/-- it stays so -/
theorem LkFact.keep {E E' : List V} {o : Oper} {tmps tmps' : Array Value} (h : LkFact P H f E o tmps w X) (hd : ∀ d, o.dst = some d → tv tmps' d = tv tmps d) (ht : ∀ t ∈ tmpsOf o, tv tmps' t = tv tmps t)
    (hn : nestLoad H f o = true → (∀ b e fz, X.ω b = some (e, fz) → ∃ e' fz', X'.ω b = some (e', fz') ∧ e ≤ e') ∧ ∀ b e fz i v, X.ω b = some (e, fz) → i < e → w.cell? ⟨b, i, none⟩ = some v → w'.cell? ⟨b, i, none⟩ = some v)
    (hb : boxLoad H f o = true → ∀ a ∈ tmpsOf o, ∀ r o', E'[a]? = some (.ptr r o') → E[a]? = some (.ptr r o') ∧ ∀ b, tv tmps a = .pointer (some ⟨b, o', none⟩) → w'.cell? ⟨b, o', none⟩ = w.cell? ⟨b, o', none⟩) : LkFact P H f E' o tmps' w' X' := by
  unfold LkFact at h ⊢
  split
  · rename_i a d hop hdst
    rw [hop, hdst] at h
    rw [hd d hdst, ht a (tmpsOf_mem (by rw [hop]; exact List.mem_singleton.2 rfl) rfl)]
    exact h
  · rename_i t a i d hop hdst
    rw [hop, hdst] at h
    intro elem hu
    obtain ⟨b, off, len, cap, k, n, h1, h2, h3, h4, h5⟩ := h elem hu
    refine ⟨b, off, len, cap, k, n, ?_, ?_, h3, h4, ?_⟩
    · rw [ht a (tmpsOf_mem (x := .tmp a) (by rw [hop]; show _ ∈ [Operand.tmp a, i]; simp) rfl)]; exact h1
    · rw [evT_congr (fun t' e => ht t' (tmpsOf_mem (by rw [hop]; show i ∈ [Operand.tmp a, i]; simp) e))]; exact h2
    · rw [hd d hdst]; exact h5
  · rename_i t a fd d hop hdst
    rw [hop, hdst] at h
    intro b off o' h1 h2
    rw [ht a (tmpsOf_mem (by rw [hop]; exact List.mem_singleton.2 rfl) rfl)] at h1
    rw [hd d hdst]
    exact h b off o' h1 h2
  · rename_i t a d hop hdst
    rw [hop, hdst] at h
    have ha : a ∈ tmpsOf o := tmpsOf_mem (by rw [hop]; exact List.mem_singleton.2 rfl) rfl
    intro hag
    have h := h hag
    by_cases hl : H.link f a = true
    · rw [if_pos hl] at h ⊢
      obtain ⟨b, off, v, h1, h2, h3, e, fz, h4, h5⟩ := h
      obtain ⟨hω, hc⟩ := hn (by unfold nestLoad; rw [hop]; exact hl)
      obtain ⟨e', fz', h6, h7⟩ := hω b e fz h4
      exact ⟨b, off, v, by rw [ht a ha]; exact h1, hc b e fz off v h4 h5 h2, by rw [hd d hdst]; exact h3, e', fz', h6, by omega⟩
    · rw [if_neg hl] at h ⊢
      intro r o' hE
      have hbl : boxLoad H f o = true := by unfold boxLoad; rw [hop]; simpa using hl
      obtain ⟨h1, h2⟩ := hb hbl a ha r o' hE
      obtain ⟨b, v, h3, h4, h5⟩ := h r o' h1
      exact ⟨b, v, by rw [ht a ha]; exact h3, by rw [h2 b h3]; exact h4, by rw [hd d hdst]; exact h5⟩
  · trivial

theorem defAt_spec {ops : Array Oper} {d : Tmp} : ∀ {k c : Nat}, defAt ops k d = some c → c < k ∧ ∃ o, ops[c]? = some o ∧ o.dst = some d
  | 0, c, h => by simp [defAt] at h
  | k + 1, c, h => by
    simp only [defAt] at h
    split at h
    · rename_i hk
      cases h
      cases ho : ops[k]? with
      | none => rw [ho] at hk; simp at hk
      | some o => rw [ho] at hk; exact ⟨by omega, o, rfl, by simpa using hk⟩
    · obtain ⟨h1, h2⟩ := defAt_spec h
      exact ⟨by omega, h2⟩

theorem getD_at {tmps : Array Value} {t : Nat} {v : Value} (h : tmps[t]? = some v) : tv tmps t = v := by
  unfold tv; rw [Array.getD_eq_getD_getElem?, h]; rfl

theorem idxOf_ok {st : St} {tmps : Array Value} {O : Pl → List Nat} (h : Rel st tmps w X O) {i : Operand} {j : Nat} (hi : idxOf st.E i = some j) {k : IntKind} {n : Int} (hv : evT tmps i = .int k n) : n.toNat = j := by
  have key : ∀ x : V, natOf x = some j → ∀ v O, Rep w X x v O → v = .int k n → n.toNat = j := by
    intro x hx v O hr hv
    unfold natOf at hx
    split at hx
    · simp only [Rep] at hr
      rw [hr.1] at hv
      cases hv
      split at hx
      · exact Option.some.inj hx
      · cases hx
    · cases hx
  cases i with
  | tmp t =>
    simp only [idxOf] at hi
    cases hE : st.E[t]? with
    | none => rw [List.getD_eq_getElem?_getD, hE] at hi; simp [natOf] at hi
    | some x =>
      obtain ⟨v, h1, h2⟩ := h.env t x hE
      rw [List.getD_eq_getElem?_getD, hE] at hi
      exact key x (by simpa using hi) v _ h2 (by rw [← getD_at h1]; exact hv)
  | const u =>
    simp only [idxOf] at hi
    exact key (.val u) hi u [] (by simp [Rep]) hv
  | _ => simp [idxOf] at hi

/-- the path that is found is the one in memory -/
theorem lk_ok {ops : Array Oper} {st : St} {tmps : Array Value} {O : Pl → List Nat} (h : Rel st tmps w X O) {s : Nat} (hf : ∀ c oc, ops[c]? = some oc → isLk H f oc = true → c < s → LkFact P H f st.E oc tmps w X) :
    ∀ (n k : Nat) (d : Tmp) (rt : Rt) (p : Path) (ptr : Bool), k ≤ s → lkPath P H f ops st.E n k d = some (rt, p, ptr) →
      ∃ v0, RootVal w X tmps rt v0 ∧ (if ptr = true then ∃ b k, tv tmps d = .pointer (some ⟨b, k, none⟩) ∧ PtrR w v0 p b k else SlF w v0 p.reverse (tv tmps d)) := by
  intro n
  induction n with
  | zero => intro k d rt p ptr _ hx; simp [lkPath] at hx
  | succ n ih =>
    intro k d rt p ptr hks hx
    simp only [lkPath] at hx
    split at hx
    · simp only [Option.some.injEq, Prod.mk.injEq] at hx
      obtain ⟨rfl, rfl, rfl⟩ := hx
      exact ⟨tv tmps d, rfl, by simp [SlF]⟩
    · rename_i hlk
      have hlk : H.link f d = true := by simpa using hlk
      split at hx
      · cases hx
      · rename_i c hc
        obtain ⟨hck, oc, hoc, hdst⟩ := defAt_spec hc
        have hfact := hf c oc hoc (by unfold isLk; rw [hdst]; exact hlk) (by omega)
        rw [hoc] at hx
        simp only [Option.map_some] at hx
        unfold LkFact at hfact
        split at hx
        · -- move
          rename_i a hop
          rw [Option.some.inj hop, hdst] at hfact
          simp only at hfact
          obtain ⟨v0, h1, h2⟩ := ih c a rt p ptr (by omega) hx
          exact ⟨v0, h1, by rw [hfact]; exact h2⟩
        · -- indexAddr
          rename_i t a i hop
          rw [Option.some.inj hop, hdst] at hfact
          simp only at hfact
          split at hx
          · rename_i r q j elem hq hj hu
            simp only [Option.some.injEq, Prod.mk.injEq] at hx
            obtain ⟨rfl, rfl, rfl⟩ := hx
            obtain ⟨v0, h1, h2⟩ := ih c a _ _ _ (by omega) hq
            simp only [Bool.false_eq_true, if_false] at h2
            obtain ⟨b, off, len, cap, kk, m, h3, h4, h5, h6, h7⟩ := hfact elem hu
            have hj' := idxOf_ok h hj h4
            rw [h3] at h2
            refine ⟨v0, h1, ?_⟩
            simp only [if_true]
            refine ⟨b, _, h7, off, len, cap, h2, by omega, by rw [hj']; omega⟩
          · cases hx
        · -- fieldAddr
          rename_i t a fd hop
          rw [Option.some.inj hop, hdst] at hfact
          simp only at hfact
          split at hx
          · rename_i r j o sz q o' hq ho'
            simp only [Option.some.injEq, Prod.mk.injEq] at hx
            obtain ⟨rfl, rfl, rfl⟩ := hx
            obtain ⟨v0, h1, h2⟩ := ih c a _ _ _ (by omega) hq
            simp only [if_true] at h2 ⊢
            obtain ⟨b, kk, h3, off, len, cap, h4, h5, rfl⟩ := h2
            exact ⟨v0, h1, b, _, hfact b _ o' h3 ho', off, len, cap, h4, h5, by omega⟩
          · cases hx
        · -- load
          rename_i t a hop
          rw [Option.some.inj hop, hdst] at hfact
          simp only at hfact
          split at hx
          · cases hx
          · rename_i hag
            have hfact := hfact (by simpa using hag)
            split at hx
            · rename_i hla
              rw [if_pos hla] at hfact
              split at hx
              · rename_i r q hq
                simp only [Option.some.injEq, Prod.mk.injEq] at hx
                obtain ⟨rfl, rfl, rfl⟩ := hx
                obtain ⟨v0, h1, h2⟩ := ih c a _ _ _ (by omega) hq
                simp only [if_true] at h2
                obtain ⟨b, kk, h3, hpr⟩ := h2
                obtain ⟨b', off', v, h4, h5, h6, _⟩ := hfact
                rw [h3] at h4
                cases h4
                refine ⟨v0, h1, ?_⟩
                simp only [Bool.false_eq_true, if_false]
                cases q with
                | nil => exact hpr.elim
                | cons e q =>
                  obtain ⟨j, o, sz⟩ := e
                  obtain ⟨off, len, cap, h7, h8, rfl⟩ := hpr
                  rw [reverse_snoc, h6]
                  exact h7.snoc h8 h5
              · cases hx
            · rename_i hla
              rw [if_neg hla] at hfact
              split at hx
              · rename_i r off hE
                simp only [Option.some.injEq, Prod.mk.injEq] at hx
                obtain ⟨rfl, rfl, rfl⟩ := hx
                have hE' : st.E[a]? = some (.ptr r off) := by
                  rw [List.getD_eq_getElem?_getD] at hE
                  cases hh : st.E[a]? with
                  | none => rw [hh] at hE; simp at hE
                  | some x => rw [hh] at hE; simpa using hE
                obtain ⟨b, v, h3, h4, h5⟩ := hfact r off hE'
                obtain ⟨u, hu, hr⟩ := h.env a _ hE'
                simp only [Rep] at hr
                obtain ⟨_, b', hb', rfl⟩ := hr
                rw [getD_at hu] at h3
                cases h3
                exact ⟨v, ⟨b, hb', h4⟩, by simp [SlF, h5]⟩
              · cases hx
        · cases hx
end Go.Ab
