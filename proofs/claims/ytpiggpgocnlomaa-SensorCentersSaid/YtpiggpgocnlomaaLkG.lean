/-
  A REGION with stores into owners' elements, in whatever order.
-/
import Derived.Test.YtpiggpgocnlomaaLkF
set_option linter.unusedVariables false
namespace Go.Ab
open Go
variable {P : Program} {H : Hints} {f : FuncId} {C : Orc} {w : World}

theorem looks_same {ops : Array Oper} {j : Nat} {x y : Oper} {st s1 : St} {fx : Foot} (hx : ops[j]? = some x) (h1 : oneR P H C f ops j st = some (s1, fx)) (hd : ∀ d, x.dst = some d → d ∉ looksAt ops y) (hm : ∀ t ∈ fx.took, t ∉ looksAt ops y) :
    (∀ t ∈ looksAt ops y, s1.E[t]? = st.E[t]?) ∧ s1.E.length = st.E.length := by
  obtain ⟨x', hx', b, z, m, A⟩ := oneR_iff.1 h1
  rw [hx] at hx'; cases hx'
  have hE1 : s1.E = putE x.dst z (dullAt st.E (takenOf H f x b)) := by rw [A.res]
  rw [hE1]
  exact ⟨looks_kept (z := z) hd A.took hm, by rw [putE_len, dullAt_len]⟩
theorem gate_congr {ops : Array Oper} {y : Oper} {E E' : List V} (h : ∀ t ∈ looksAt ops y, E'[t]? = E[t]?) (hl : E'.length = E.length) : lkGate H f y E' = lkGate H f y E := by
  unfold lkGate
  rw [hl]
  congr 2
  split
  · rename_i t a hop
    have : E'.getD a .undef = E.getD a .undef := getD_congr (h a (List.mem_append_left _ (tmpsOf_mem (x := .tmp a) (by rw [hop]; exact List.mem_singleton.2 rfl) rfl)))
    rw [this]
  · rfl

theorem oneL_of {ops : Array Oper} {i : Nat} {o : Oper} {st st' : St} {ft : Foot} (ho : ops[i]? = some o) (hls : isLs H f o = false) (hg : lkGate H f o st.E = true) (h : oneR P H C f ops i st = some (st', ft)) : oneL P H C f ops i st = some (st', ft) := by
  unfold oneL
  rw [ho]
  simp only [hls, Bool.false_eq_true, if_false, hg, if_true]
  exact h
theorem oneL_iff {ops : Array Oper} {i : Nat} {o : Oper} {st st' : St} {ft : Foot} (ho : ops[i]? = some o) (hls : isLs H f o = false) (h : oneL P H C f ops i st = some (st', ft)) : lkGate H f o st.E = true ∧ oneR P H C f ops i st = some (st', ft) := by
  obtain ⟨o', ho', ⟨h1, _⟩ | ⟨_, h1, h2⟩⟩ := oneL_cases h
  · rw [ho] at ho'; cases ho'; rw [hls] at h1; cases h1
  · rw [ho] at ho'; cases ho'; exact ⟨h1, h2⟩

theorem swap_oneL {ops : Array Oper} {i j : Nat} {x y : Oper} {st s1 s2 : St} {fx fy : Foot} (hx : ops[j]? = some x) (hy : ops[i]? = some y) (hlx : isLs H f x = false) (hly : isLs H f y = false) (hap : dstApart ops x y = true) (h1 : oneL P H C f ops j st = some (s1, fx)) (h2 : oneL P H C f ops i s1 = some (s2, fy))
    (hcl : fx.clash fy = false) : ∃ s1', oneL P H C f ops i st = some (s1', fy) ∧ oneL P H C f ops j s1' = some (s2, fx) := by
  obtain ⟨g1, r1⟩ := oneL_iff hx hlx h1
  obtain ⟨g2, r2⟩ := oneL_iff hy hly h2
  obtain ⟨s1', r3, r4⟩ := swap_one hx hy hap r1 r2 hcl
  obtain ⟨d1, d2, d3⟩ := dstApart_spec hap
  obtain ⟨x', hx', b, z, m, A⟩ := oneR_iff.1 r1
  rw [hx] at hx'; cases hx'
  obtain ⟨y', hy', b', z', m', B⟩ := oneR_iff.1 r2
  rw [hy] at hy'; cases hy'
  simp only [Foot.clash, Bool.or_eq_false_iff] at hcl
  obtain ⟨⟨hc, hm1⟩, hm2⟩ := hcl
  have hm1' := meets_false hm1
  have hm2' := meets_false hm2
  rw [B.looks] at hm1'
  rw [A.looks] at hm2'
  obtain ⟨k1, l1⟩ := looks_same (y := y) hx r1 d1 hm1'
  obtain ⟨k2, l2⟩ := looks_same (y := x) hy r3 d3 hm2'
  exact ⟨s1', oneL_of hy hly (by rw [← gate_congr (H := H) (f := f) k1 l1]; exact g2) r3, oneL_of hx hlx (by rw [gate_congr (H := H) (f := f) k2 l2]; exact g1) r4⟩

theorem execL_cons {ops : Array Oper} {i : Nat} {l : List Nat} {st s : St} {fps : List (Nat × Foot)} : execL P H C f ops (i :: l) st = some (s, fps) ↔ ∃ s1 ft fps', oneL P H C f ops i st = some (s1, ft) ∧ execL P H C f ops l s1 = some (s, fps') ∧ fps = (i, ft) :: fps' := by
  simp only [execL]
  cases h : oneL P H C f ops i st with
  | none => simp
  | some p =>
    obtain ⟨s1, ft⟩ := p
    simp only [Option.map_eq_some_iff, Prod.exists, Option.some.injEq, Prod.mk.injEq]
    constructor
    · rintro ⟨a, b, h1, rfl, rfl⟩; exact ⟨s1, ft, b, ⟨rfl, rfl⟩, h1, rfl⟩
    · rintro ⟨a, b, c, ⟨rfl, rfl⟩, h1, rfl⟩; exact ⟨s, c, h1, rfl, rfl⟩

theorem move_frontL {ops : Array Oper} {i : Nat} {y : Oper} (hy : ops[i]? = some y) {B : List Nat} : ∀ (A : List Nat) (st s : St) (fps : List (Nat × Foot)), execL P H C f ops (A ++ i :: B) st = some (s, fps) →
    (∀ j ∈ A, isLs H f y = false ∧ ∃ x, ops[j]? = some x ∧ isLs H f x = false ∧ dstApart ops x y = true ∧ ∀ fx fy, (j, fx) ∈ fps → (i, fy) ∈ fps → fx.clash fy = false) →
    ∃ fps', execL P H C f ops (i :: (A ++ B)) st = some (s, fps') ∧ ∀ p, p ∈ fps' ↔ p ∈ fps
  | [], st, s, fps, h, _ => ⟨fps, h, fun _ => Iff.rfl⟩
  | j :: A, st, s, fps, h, hA => by
    rw [List.cons_append, execL_cons] at h
    obtain ⟨s1, fj, fps1, h1, h2, rfl⟩ := h
    obtain ⟨fps2, h3, h4⟩ := move_frontL hy A s1 s fps1 h2 (fun k hk => by
      obtain ⟨hly, x, hx, hlx, hd, hc⟩ := hA k (by simp [hk])
      exact ⟨hly, x, hx, hlx, hd, fun fx fy h1 h2 => hc fx fy (by simp [h1]) (by simp [h2])⟩)
    rw [execL_cons] at h3
    obtain ⟨s2, fi, fps3, h5, h6, rfl⟩ := h3
    obtain ⟨hly, x, hx, hlx, hd, hc⟩ := hA j (by simp)
    obtain ⟨s1', h7, h8⟩ := swap_oneL hx hy hlx hly hd h1 h5 (hc fj fi (by simp) (by
      have := (h4 (i, fi)).1 (by simp)
      simp [this]))
    refine ⟨(i, fi) :: (j, fj) :: fps3, ?_, fun p => ?_⟩
    · rw [execL_cons]
      exact ⟨s1', fi, (j, fj) :: fps3, h7, by rw [List.cons_append, execL_cons]; exact ⟨s2, fj, fps3, h8, h6, rfl⟩, rfl⟩
    · have := h4 p
      simp only [List.mem_cons] at this ⊢
      rw [← this]
      constructor
      · rintro (h | h | h) <;> simp [h]
      · rintro (h | h | h) <;> simp [h]

theorem execL_mem {ops : Array Oper} : ∀ (l : List Nat) (st s : St) (fps : List (Nat × Foot)), execL P H C f ops l st = some (s, fps) → ∀ k ft, (k, ft) ∈ fps → k ∈ l ∧ ∃ s1 s2, oneL P H C f ops k s1 = some (s2, ft)
  | [], st, s, fps, h, k, ft, hk => by simp only [execL, Option.some.injEq, Prod.mk.injEq] at h; rw [← h.2] at hk; simp at hk
  | i :: l, st, s, fps, h, k, ft, hk => by
    obtain ⟨s1, fi, fps', h1, h2, rfl⟩ := execL_cons.1 h
    rcases List.mem_cons.1 hk with hk | hk
    · cases hk; exact ⟨by simp, _, _, h1⟩
    · obtain ⟨h3, h4⟩ := execL_mem l s1 s fps' h2 k ft hk
      exact ⟨by simp [h3], h4⟩

theorem anc_lt {ops : List Oper} (hb : ∀ (k : Nat) (o : Oper), ops[k]? = some o → ∀ j ∈ boundE o, j < k) : ∀ (n i : Nat) (o : Oper), i ≤ n → ops[i]? = some o → ∀ j ∈ (ancs ops).getD i [], j < i := by
  intro n
  induction n with
  | zero =>
    intro i o hi ho j hj
    rw [ancs_get ops i o ho (hb i o ho)] at hj
    obtain ⟨e, he, _⟩ := List.mem_flatMap.1 (mem_dedupN hj)
    have := hb i o ho e he; omega
  | succ n ih =>
    intro i o hi ho j hj
    rw [ancs_get ops i o ho (hb i o ho)] at hj
    obtain ⟨e, he, hj⟩ := List.mem_flatMap.1 (mem_dedupN hj)
    have hei := hb i o ho e he
    rcases List.mem_cons.1 hj with rfl | hj
    · exact hei
    · have hlt : i < ops.length := (List.getElem?_eq_some_iff.1 ho).1
      have := ih e ops[e] (by omega) (List.getElem?_eq_getElem (by omega)) j hj
      omega

/-- what the text promises -/
structure LinkOk (H : Hints) (f : FuncId) (ops : Array Oper) (bef : Nat → Nat → Prop) : Prop where
  self : ∀ (c : Nat) (oc : Oper), ops[c]? = some oc → isLk H f oc = true → oc.guard = none ∧ ∀ d, oc.dst = some d → d ∉ tmpsOf oc
  after : ∀ (c i : Nat) (oc oi : Oper), ops[c]? = some oc → ops[i]? = some oi → isLk H f oc = true → i = c ∨ bef i c ∨ okAfter H f oc oi = true
  ls : ∀ (c i : Nat) (oc oi : Oper), ops[c]? = some oc → ops[i]? = some oi → isLs H f oc = true → i = c ∨ bef i c ∨ bef c i
  lone : ∀ (c : Nat) (oc : Oper), ops[c]? = some oc → isLk H f oc = true → nestLoad H f oc = true → ∀ (s s' : Nat) (o o' : Oper), ops[s]? = some o → ops[s']? = some o' → isLs H f o = true → isLs H f o' = true → s = s'

theorem filter_two {α : Type} {p : α → Bool} {l : List α} (h : (l.filter p).length ≤ 1) : ∀ {i j : Nat} {a b : α}, l[i]? = some a → l[j]? = some b → p a = true → p b = true → i = j := by
  induction l with
  | nil => intro i j a b hi; simp at hi
  | cons x l ih =>
    intro i j a b hi hj ha hb
    have hmem : ∀ {k : Nat} {c : α}, l[k]? = some c → p c = true → 0 < (l.filter p).length := fun hk hc =>
      List.length_pos_of_mem (List.mem_filter.2 ⟨List.mem_of_getElem? hk, hc⟩)
    cases hx : p x with
    | true =>
      simp only [List.filter_cons, hx, if_true, List.length_cons] at h
      cases i with
      | zero => cases j with
        | zero => rfl
        | succ j => have := hmem (by simpa using hj) hb; omega
      | succ i => have := hmem (by simpa using hi) ha; omega
    | false =>
      simp only [List.filter_cons, hx, Bool.false_eq_true, if_false] at h
      cases i with
      | zero => simp at hi; subst hi; rw [hx] at ha; cases ha
      | succ i => cases j with
        | zero => simp at hj; subst hj; rw [hx] at hb; cases hb
        | succ j => exact congrArg Nat.succ (ih h (i := i) (j := j) (by simpa using hi) (by simpa using hj) ha hb)

theorem linkOk_spec {draw : Bool} {ops : Array Oper} (h : linkOk H f draw ops = true) : LinkOk H f ops (fun i c => befor draw (ancs ops.toList) i c = true) := by
  have key : ∀ (c : Nat) (oc : Oper), ops[c]? = some oc → linkOne H f draw (ancs ops.toList) ops (decide ((ops.toList.filter (isLs H f)).length ≤ 1)) c oc = true := fun c oc hoc => by
    have hlt : c < ops.size := (Array.getElem?_eq_some_iff.1 hoc).1
    unfold linkOk at h
    have := List.all_eq_true.1 h c (List.mem_range.2 hlt)
    rw [hoc] at this
    exact this
  have part : ∀ (c : Nat) (oc : Oper), ops[c]? = some oc → _ := fun c oc hoc => by
    have := key c oc hoc
    unfold linkOne at this
    simp only [Bool.and_eq_true, Bool.or_eq_true, Bool.not_eq_true'] at this
    exact this
  refine { self := fun c oc hoc hlk => ?_, after := fun c i oc oi hoc hoi hlk => ?_, ls := fun c i oc oi hoc hoi hls => ?_, lone := fun c oc hoc hlk hn s s' o o' hs hs' hl hl' => ?_ }
  · obtain ⟨⟨h1, _⟩, _⟩ := part c oc hoc
    rcases h1 with h1 | h1
    · rw [hlk] at h1; cases h1
    · refine ⟨by simpa using h1.1.1, fun d hd => ?_⟩
      have := h1.1.2
      rw [hd] at this
      simpa using this
  · obtain ⟨⟨h1, _⟩, _⟩ := part c oc hoc
    rcases h1 with h1 | h1
    · rw [hlk] at h1; cases h1
    · have := List.all_eq_true.1 h1.2 i (List.mem_range.2 (Array.getElem?_eq_some_iff.1 hoi).1)
      rw [hoi] at this
      simp only [Bool.or_eq_true, beq_iff_eq] at this
      rcases this with (h2 | h2) | h2
      · exact .inl h2
      · exact .inr (.inl h2)
      · exact .inr (.inr h2)
  · obtain ⟨⟨_, h1⟩, _⟩ := part c oc hoc
    rcases h1 with h1 | h1
    · rw [hls] at h1; cases h1
    · have := List.all_eq_true.1 h1.2 i (List.mem_range.2 (Array.getElem?_eq_some_iff.1 hoi).1)
      simp only [Bool.or_eq_true, beq_iff_eq] at this
      rcases this with (h2 | h2) | h2
      · exact .inl h2
      · exact .inr (.inl h2)
      · exact .inr (.inr h2)
  · obtain ⟨_, h1⟩ := part c oc hoc
    rcases h1 with h1 | h1
    · rw [hlk, hn] at h1; cases h1
    · simp only [decide_eq_true_eq] at h1
      exact filter_two h1 (by simpa using hs) (by simpa using hs') hl hl'

/-- in the text's order -/
theorem seq_okL (hC : OrcOk P C) {F : Fence} {w0 : World} {X0 : Cx} {Md : Md} {n : Nat} (hFO : FOk F X0 Md n) {ops : Array Oper} (hlk : linkOk H f false ops = true) {Q : Exit → Act → World → Prop} : ∀ (m i : Nat) (st st' : St) (fps : List (Nat × Foot)) (a : Act) (w : World), i + m = ops.size →
    SimI P H f ops (fun k => k < i) w0 X0 Md n st a w → execL P H C f ops (List.range' i m) st = some (st', fps) → (∀ a' w', SimD w0 X0 Md n st' a' w' → Q .normal a' w') → wpOpsIn F 0 P ops Q (List.range' i m) a w
  | 0, i, st, st', fps, a, w, _, hS, hx, hK => by
    simp only [List.range'_zero, execL, Option.some.injEq, Prod.mk.injEq] at hx
    obtain ⟨rfl, _⟩ := hx
    exact hK a w hS.simD
  | m + 1, i, st, st', fps, a, w, him, hS, hx, hK => by
    rw [List.range'_succ] at hx ⊢
    obtain ⟨s1, ft, fps', h1, h2, _⟩ := execL_cons.1 hx
    rw [wpOpsIn_cons]
    have L := linkOk_spec hlk
    refine one_okL hC hFO hS h1 ?_ fun a' w' hS' => seq_okL hC hFO hlk m (i + 1) s1 st' fps' a' w' (by omega) (hS'.mono fun k _ => by omega) h2 hK
    exact {
      new := by omega
      after := fun c oc o hoc ho hl hc => by
        rcases L.after c i oc o hoc ho hl with h3 | h3 | h3
        · omega
        · simp [befor] at h3; omega
        · exact h3
      self := fun o ho hl => L.self i o ho hl
      ls := fun o ho hl c oc hoc hlc hci => hci
      lone := L.lone }

theorem region_anyL (hC : OrcOk P C) {F : Fence} {w0 : World} {X0 : Cx} {Md : Md} {n : Nat} (hFO : FOk F X0 Md n) {ops : Array Oper} {U : List (Nat × Nat)} (hreg : regionOk H f U ops = true) (hlk : linkOk H f true ops = true) {Q : Exit → Act → World → Prop} :
    ∀ (fuel : Nat) (listed : Array Bool) (st st' : St) (fps : List (Nat × Foot)) (a : Act) (w : World), listed.size = ops.size → Down ops listed → ((List.range ops.size).filter fun k => !listed.getD k true).length ≤ fuel →
      execL P H C f ops ((List.range ops.size).filter fun k => !listed.getD k true) st = some (st', fps) → (∀ i j fi fj, (i, j) ∈ U → (i, fi) ∈ fps → (j, fj) ∈ fps → fi.clash fj = false) →
      SimI P H f ops (fun k => listed.getD k true = true) w0 X0 Md n st a w → (∀ a' w', SimD w0 X0 Md n st' a' w' → Q .normal a' w') → wpAnyIn F 0 P .any ops Q fuel listed a w := by
  have hrow : ∀ i y, ops[i]? = some y → (∀ j ∈ boundE y, j < i) ∧ ∀ j, j < i → j ∈ (ancs ops.toList).getD i [] ∨ ∃ x, ops[j]? = some x ∧ dstApart ops x y = true ∧ (textApart H f ops x y = true ∨ (j, i) ∈ U) := by
    intro i y hy
    have hilt : i < ops.size := (Array.getElem?_eq_some_iff.1 hy).1
    unfold regionOk at hreg
    have h1 := List.all_eq_true.1 hreg i (List.mem_range.2 hilt)
    rw [hy] at h1
    simp only [Bool.and_eq_true] at h1
    refine ⟨fun j hj => by simpa using List.all_eq_true.1 h1.1 j hj, fun j hj => ?_⟩
    have h2 := List.all_eq_true.1 h1.2 j (List.mem_range.2 hj)
    simp only [Bool.or_eq_true] at h2
    rcases h2 with h2 | h2
    · exact .inl (by simpa using h2)
    · right
      cases hx : ops[j]? with
      | none => rw [hx] at h2; cases h2
      | some x =>
        rw [hx] at h2
        simp only [Bool.and_eq_true, Bool.or_eq_true] at h2
        exact ⟨x, rfl, h2.1, h2.2.imp id (by simp)⟩
  have hanclt : ∀ (c : Nat) (oc : Oper), ops[c]? = some oc → ∀ j ∈ (ancs ops.toList).getD c [], j < c := fun c oc hoc =>
    anc_lt (fun k o ho => (hrow k o (by simpa using ho)).1) c c oc (Nat.le_refl _) (by simpa using hoc)
  have L := linkOk_spec hlk
  have hbef : ∀ i c, befor true (ancs ops.toList) i c = true ↔ i ∈ (ancs ops.toList).getD c [] := fun i c => by simp [befor]
  have hempty : ∀ (listed : Array Bool), listed.size = ops.size → Down ops listed → Region.ready .any ops listed = [] → ((List.range ops.size).filter fun k => !listed.getD k true) = [] := by
    intro listed hsz hd hr
    cases hR : (List.range ops.size).filter fun k => !listed.getD k true with
    | nil => rfl
    | cons k R =>
      exfalso
      have hsorted : ((List.range ops.size).filter fun k => !listed.getD k true).Pairwise (· < ·) := List.Pairwise.filter _ List.pairwise_lt_range
      have hk : k ∈ (List.range ops.size).filter fun k => !listed.getD k true := by rw [hR]; simp
      rw [hR] at hsorted
      obtain ⟨hklt, hkun⟩ := List.mem_filter.1 hk
      have hklt := List.mem_range.1 hklt
      obtain ⟨o, ho⟩ : ∃ o, ops[k]? = some o := ⟨ops[k], Array.getElem?_eq_getElem hklt⟩
      have : k ∈ Region.ready .any ops listed := by
        rw [mem_ready]
        refine ⟨by simpa using hkun, o, ho, fun e he hb => ?_⟩
        have hek := (hrow k o ho).1 e.on (boundE_mem.2 ⟨e, he, hb, rfl⟩)
        cases hc : listed.getD e.on true with
        | true =>
          have : e.on < listed.size := by omega
          simp [Array.getD, this] at hc ⊢
          exact hc
        | false =>
          have hmem : e.on ∈ (List.range ops.size).filter fun k => !listed.getD k true := List.mem_filter.2 ⟨List.mem_range.2 (by omega), by simp [hc]⟩
          rw [hR] at hmem
          rcases List.mem_cons.1 hmem with h1 | h1
          · omega
          · have := (List.pairwise_cons.1 hsorted).1 _ h1; omega
      rw [hr] at this
      simp at this
  intro fuel
  induction fuel with
  | zero =>
    intro listed st st' fps a w hsz hd hlen hx hconf hS hQ
    have hnil : ((List.range ops.size).filter fun k => !listed.getD k true) = [] := List.eq_nil_of_length_eq_zero (by omega)
    rw [hnil] at hx
    simp only [execL, Option.some.injEq, Prod.mk.injEq] at hx
    obtain ⟨rfl, _⟩ := hx
    refine ⟨?_, hQ a w hS.simD⟩
    cases hr : Region.ready .any ops listed with
    | nil => rfl
    | cons i R =>
      have hi : i ∈ Region.ready .any ops listed := by rw [hr]; simp
      obtain ⟨h1, o, ho, _⟩ := mem_ready.1 hi
      have : i ∈ (List.range ops.size).filter fun k => !listed.getD k true := List.mem_filter.2 ⟨List.mem_range.2 (Array.getElem?_eq_some_iff.1 ho).1, by simp [h1]⟩
      rw [hnil] at this; simp at this
  | succ fuel ih =>
    intro listed st st' fps a w hsz hd hlen hx hconf hS hQ
    refine ⟨fun hr => ?_, fun i hi => ?_⟩
    · have hnil := hempty listed hsz hd hr
      rw [hnil] at hx
      simp only [execL, Option.some.injEq, Prod.mk.injEq] at hx
      obtain ⟨rfl, _⟩ := hx
      exact hQ a w hS.simD
    · obtain ⟨hun, y, hy, hall⟩ := mem_ready.1 hi
      have hilt : i < ops.size := (Array.getElem?_eq_some_iff.1 hy).1
      have hiR : i ∈ (List.range ops.size).filter fun k => !listed.getD k true := List.mem_filter.2 ⟨List.mem_range.2 hilt, by simp [hun]⟩
      have hsorted : ((List.range ops.size).filter fun k => !listed.getD k true).Pairwise (· < ·) := List.Pairwise.filter _ List.pairwise_lt_range
      obtain ⟨A, B, hAB⟩ := List.append_of_mem hiR
      rw [hAB] at hx hsorted
      obtain ⟨_, hs2, hs3⟩ := List.pairwise_append.1 hsorted
      have hAi : ∀ j ∈ A, j < i := fun j hj => hs3 j hj i (by simp)
      have hiB : ∀ j ∈ B, i < j := fun j hj => (List.pairwise_cons.1 hs2).1 j hj
      have hlistedE : ∀ j ∈ boundE y, listed.getD j true = true := fun j hj => by
        obtain ⟨e, he, hb, rfl⟩ := boundE_mem.1 hj
        have h1 := hall e he hb
        have hlt := (hrow i y hy).1 e.on hj
        have : e.on < listed.size := by omega
        simp [Array.getD, this] at h1 ⊢
        exact h1
      have hanc := anc_listed hsz (fun k o ho => (hrow k o ho).1) hd i i y (Nat.le_refl _) hy hlistedE
      obtain ⟨fps', h1, h2⟩ := move_frontL hy A st st' fps hx (fun j hj => by
        have hjR : j ∈ (List.range ops.size).filter fun k => !listed.getD k true := by rw [hAB]; simp [hj]
        have hjun : listed.getD j true = false := by simpa using (List.mem_filter.1 hjR).2
        rcases (hrow i y hy).2 j (hAi j hj) with h3 | ⟨x, hx1, hx2, hx3⟩
        · have := hanc j h3; rw [hjun] at this; cases this
        · have hnanc : j ∉ (ancs ops.toList).getD i [] := fun h3 => by have := hanc j h3; rw [hjun] at this; cases this
          have hnanc2 : i ∉ (ancs ops.toList).getD j [] := fun h3 => by have := hanclt j x hx1 i h3; have := hAi j hj; omega
          have hly : isLs H f y = false := by
            cases hl : isLs H f y with
            | false => rfl
            | true =>
              rcases L.ls i j y x hy hx1 hl with h3 | h3 | h3
              · have := hAi j hj; omega
              · exact absurd ((hbef j i).1 h3) hnanc
              · exact absurd ((hbef i j).1 h3) hnanc2
          have hlx : isLs H f x = false := by
            cases hl : isLs H f x with
            | false => rfl
            | true =>
              rcases L.ls j i x y hx1 hy hl with h3 | h3 | h3
              · have := hAi j hj; omega
              · exact absurd ((hbef i j).1 h3) hnanc2
              · exact absurd ((hbef j i).1 h3) hnanc
          refine ⟨hly, x, hx1, hlx, hx2, fun fx fy h4 h5 => ?_⟩
          rcases hx3 with hx3 | hx3
          · obtain ⟨_, _, _, e1⟩ := execL_mem _ _ _ _ hx j fx h4
            obtain ⟨_, _, _, e2⟩ := execL_mem _ _ _ _ hx i fy h5
            exact clash_text hx1 hy (oneL_iff hx1 hlx e1).2 (oneL_iff hy hly e2).2 hx3
          · exact hconf j i fx fy hx3 h4 h5)
      obtain ⟨s1, fi, fps2, h3, h4, rfl⟩ := execL_cons.1 h1
      have hfit : Fits H f ops (fun k => listed.getD k true = true) i := {
        new := by rw [hun]; simp
        after := fun c oc o hoc ho hl hc => by
          rcases L.after c i oc o hoc ho hl with h5 | h5 | h5
          · subst h5; rw [hun] at hc; cases hc
          · have hE : ∀ j ∈ boundE oc, listed.getD j true = true := hd c oc hoc hc
            have := anc_listed hsz (fun k o ho => (hrow k o ho).1) hd c c oc (Nat.le_refl _) hoc hE i ((hbef i c).1 h5)
            rw [hun] at this; cases this
          · exact h5
        self := fun o ho hl => L.self i o ho hl
        ls := fun o ho hl c oc hoc hlc hci => by
          rcases L.ls i c o oc ho hoc hl with h5 | h5 | h5
          · omega
          · exact hanc c ((hbef c i).1 h5)
          · have := hanclt c oc hoc i ((hbef i c).1 h5); omega
        lone := L.lone }
      refine one_okL hC hFO hS h3 hfit fun a' w' hS' => ?_
      have hR' : ((List.range ops.size).filter fun k => !(listed.setIfInBounds i true).getD k true) = A ++ B := by
        have e1 : ((List.range ops.size).filter fun k => !(listed.setIfInBounds i true).getD k true) = ((List.range ops.size).filter fun k => !listed.getD k true).filter (fun k => decide (k ≠ i)) := by
          rw [List.filter_filter]
          refine List.filter_congr fun k hk => ?_
          have hklt := List.mem_range.1 hk
          by_cases hki : k = i
          · subst hki
            have : k < listed.size := by omega
            simp [Array.getD, this]
          · rw [getD_set_ne true (Ne.symm hki)]; simp [hki]
        rw [e1, hAB, List.filter_append, List.filter_cons]
        simp only [ne_eq, not_true_eq_false, decide_false, Bool.false_eq_true, if_false]
        rw [List.filter_eq_self.2 (fun j hj => by have := hAi j hj; simp; omega), List.filter_eq_self.2 (fun j hj => by have := hiB j hj; simp; omega)]
      have hd' : Down ops (listed.setIfInBounds i true) := by
        intro k o ho hk j hj
        by_cases hji : j = i
        · subst hji
          have : j < listed.size := by omega
          simp [Array.getD, this]
        · rw [getD_set_ne true (Ne.symm hji)]
          by_cases hki : k = i
          · subst hki
            rw [hy] at ho; cases ho
            exact hlistedE j hj
          · rw [getD_set_ne true (Ne.symm hki)] at hk
            exact hd k o ho hk j hj
      refine ih (listed.setIfInBounds i true) s1 st' fps2 a' w' (by simp [hsz]) hd' ?_ (by rw [hR']; exact h4) (fun i' j' fi' fj' hu h5 h6 => hconf i' j' fi' fj' hu ((h2 _).1 (by simp [h5])) ((h2 _).1 (by simp [h6]))) (hS'.mono fun k hk => ?_) hQ
      · rw [hR']
        rw [hAB] at hlen
        simp only [List.length_append, List.length_cons] at hlen ⊢
        omega
      · by_cases hki : k = i
        · subst hki
          have : k < listed.size := by omega
          simp [Array.getD, this]
        · rw [getD_set_ne true (Ne.symm hki)]; simp [hki]

theorem simD_drew {w0 : World} {X0 : Cx} {Md : Md} {n : Nat} {st : St} {a : Act} (hS : SimD w0 X0 Md n st a w) : SimD w0 X0 Md n st a { w with drawn := w.drawn + 1 } := by
  obtain ⟨X, O, h, hF, hM⟩ := hS
  have heff : Eff w X { w with drawn := w.drawn + 1 } X [] :=
    ⟨Nat.le_refl _, fun _ _ _ => rfl, fun _ _ _ => rfl, by simp, rfl, h.dom, rfl, rfl, rfl⟩
  have h1 := h.put (T := []) (Oin := []) (O' := []) (z := .undef) (v := undef) none (by simp) heff (by simp [Rep]) Lin.nil (by simp) (by simp [V.ptrs])
  have hF1 := Fr.put (z := .undef) h hF (T := []) (Oin := []) (O' := []) none (by simp) heff (by simp)
  exact ⟨X, _, h1, hF1, hM.of fun _ _ _ _ => ⟨rfl, rfl⟩⟩

/-- A REGION with stores into owners' elements -/
theorem region_ls (hC : OrcOk P C) (hm : P.follows .mixedOrders = true) {F : Fence} {w0 : World} {X0 : Cx} {Md : Md} {n : Nat} (hFO : FOk F X0 Md n) {bid id : Nat} {ops : Array Oper} {draw : Bool} {st st' : St} {e : Ex} {a : Act} (hS : SimD w0 X0 Md n st a w)
    (hls : hasLs H f ops = true) (hx : ex P H C f bid (.region id ops draw) st = some (e, st')) : (Code.region id ops draw).wpIn F 0 P (fun e' a' w' => e' = e.exit' ∧ SimD w0 X0 Md n st' a' w') a w := by
  simp only [ex, hls, if_true] at hx
  split at hx
  · rename_i hok
    simp only [Bool.and_eq_true, Bool.or_eq_true, Bool.not_eq_true'] at hok
    obtain ⟨hlk, hreg⟩ := hok
    split at hx
    · rename_i s fps hex
      split at hx
      · rename_i hconf
        simp only [Option.some.injEq, Prod.mk.injEq] at hx
        obtain ⟨rfl, rfl⟩ := hx
        cases draw with
        | false =>
          refine wpIn_region ?_
          have hr : List.range ops.size = List.range' 0 ops.size := List.range_eq_range'
          rw [hr] at hex ⊢
          exact seq_okL hC hFO hlk ops.size 0 st s fps a w (by omega) ((hS.simI (P := P) (H := H) (f := f) (ops := ops)).mono fun k _ => by simp) hex fun a' w' hS' => ⟨rfl, hS'⟩
        | true =>
          have hreg' : regionOk H f (H.pairs f id) ops = true := by simpa using hreg
          have hconf' : noConf (H.pairs f id) fps = true := by simpa using hconf
          refine wpIn_region_any hm (region_anyL hC hFO hreg' hlk ops.size _ st s fps a _ (by simp) (fun k o ho hk => ?_) (by rw [all_unlisted]; simp) (by rw [all_unlisted]; exact hex) (noConf_spec hconf') (((simD_drew hS).simI (P := P) (H := H) (f := f) (ops := ops)).mono fun k hk => ?_) fun a' w' hS' => ⟨rfl, hS'⟩)
          · have := (Array.getElem?_eq_some_iff.1 ho).1
            simp [Array.getD, this] at hk
          · simp [Array.getD, hk]
      · cases hx
    · cases hx
  · cases hx
end Go.Ab
