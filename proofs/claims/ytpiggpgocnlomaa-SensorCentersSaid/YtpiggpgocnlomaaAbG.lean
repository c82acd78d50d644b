/-
  ONE OPERATION, fifth part: append.
-/
import Derived.Test.YtpiggpgocnlomaaAbF
set_option linter.unusedVariables false
namespace Go.Ab
open Go
variable {P : Program} {H : Hints} {f : FuncId} {w : World} {X : Cx}

/-- what is appended: so many elements, these cells -/
structure YOk (P : Program) (w : World) (s : Nat) (y : Value) (n : Nat) (news : List Value) : Prop where
  len : ∀ w1, (Builtin.lenOf y).run P w1 = .ok n w1
  cells : ∀ w1, Alike w w1 → (Builtin.firstCells s n y).run P w1 = .ok news.toArray w1
  size : news.length = n * s

theorem app_stay {argTypes : Array TypeId} {ty t u e : TypeId} {i : TypeInfo} (h0 : argTypes[0]? = some t) (h1 : argTypes[1]? = some u) (ht : P.underlying t = some (.slice e)) (hu : (∃ q, P.underlying u = some (.slice q)) ∨ P.underlying u = some .string)
    (hi : P.info? e = some i) {y : Value} {news : List Value} (hy : YOk P w i.size y 0 news) (base : Option Addr) (sLen sCap : Nat) (hb : base = none ∨ ∃ a, base = some a) (hcap : sLen ≤ sCap) :
    (Builtin.append_ argTypes ty #[.slice base sLen sCap, y]).run P w = .ok (.slice base sLen sCap) w := by
  have hn : news = [] := by have := hy.size; apply List.eq_nil_of_length_eq_zero; simpa using this
  subst hn
  have hc := hy.cells w (Alike.refl w)
  rcases hb with rfl | ⟨a, rfl⟩
  · rcases hu with ⟨q, hd⟩ | hd <;> simp [Builtin.append_, h0, h1, run_underlying ht, run_underlying hd, sizeOf, typeInfo, hi, hy.len, hcap, hc]
  · rcases hu with ⟨q, hd⟩ | hd <;> simp [Builtin.append_, h0, h1, run_underlying ht, run_underlying hd, sizeOf, typeInfo, hi, hy.len, hcap, hc, storeCells]

theorem app_room {argTypes : Array TypeId} {ty t u e : TypeId} {i : TypeInfo} (h0 : argTypes[0]? = some t) (h1 : argTypes[1]? = some u) (ht : P.underlying t = some (.slice e)) (hu : (∃ q, P.underlying u = some (.slice q)) ∨ P.underlying u = some .string)
    (hi : P.info? e = some i) {y : Value} {n : Nat} {news : List Value} (hy : YOk P w i.size y n news) {b off sLen sCap : Nat} {cur : Array Value} {ty' : TypeId} (hcur : w.heap[b]? = some (.cells cur ty' (0, 0))) (hfit : off + sLen * i.size + news.length ≤ cur.size)
    (hones : ∀ v ∈ news, v.oneCell' = true) (hcap : sLen + n ≤ sCap) :
    (Builtin.append_ argTypes ty #[.slice (some ⟨b, off, none⟩) sLen sCap, y]).run P w =
      .ok (.slice (some ⟨b, off, none⟩) (sLen + n) sCap) (w.setRow b (cur.toList.take (off + sLen * i.size) ++ news ++ cur.toList.drop (off + sLen * i.size + news.length)).toArray) := by
  have hc := hy.cells w (Alike.refl w)
  have hst := run_storeCells_at (P := P) b (off + sLen * i.size) ty' news 0 cur w hcur (by omega) hones
  simp only [Nat.add_zero] at hst
  rcases hu with ⟨q, hd⟩ | hd <;> simp [Builtin.append_, h0, h1, run_underlying ht, run_underlying hd, sizeOf, typeInfo, hi, hy.len, hcap, hc, Addr.add_lit, hst]

theorem app_grow {argTypes : Array TypeId} {ty t u e : TypeId} {i : TypeInfo} {z : Value} (h0 : argTypes[0]? = some t) (h1 : argTypes[1]? = some u) (ht : P.underlying t = some (.slice e)) (hu : (∃ q, P.underlying u = some (.slice q)) ∨ P.underlying u = some .string)
    (hi : P.info? e = some i) (hz : i.zero = some z) {y : Value} {n : Nat} {news : List Value} (hy : YOk P w i.size y n news) (base : Option Addr) (sLen sCap : Nat) (olds : List Value)
    (holds : ∀ w1, Alike w w1 → (Builtin.firstCells i.size sLen (.slice base sLen sCap)).run P w1 = .ok olds.toArray w1)
    (hg : sCap < sLen + n) (h63 : sLen + n ≤ 70368744177664) (hfit : (sLen + n) * i.bytes ≤ 70368744177664) :
    ∃ w1 rest, Alike w w1 ∧ (∃ nc, sLen + n ≤ nc ∧ rest.length = (nc - (sLen + n)) * z.cells.size ∧ (Builtin.append_ argTypes ty #[.slice base sLen sCap, y]).run P w =
      .ok (.slice (some ⟨w.heap.size, 0, none⟩) (sLen + n) nc) (w1.alloc (.cells ((olds ++ news) ++ rest).toArray e))) := by
  have hn : ¬ (sLen + n ≤ sCap) := by omega
  have h63' : ¬ (9223372036854775807 < ((sLen : Int) + (n : Int))) := by omega
  have h48' : ¬ (281474976710656 < Builtin.nextslicecap (sLen + n) sCap * i.bytes) := by
    have := growslice_fits (bytes := i.bytes) hg (by omega); omega
  refine ⟨w.drew, (Builtin.zeroCells z.cells (grownCap w (sLen + n) sCap e - (sLen + n))).toList, Alike.drew w, grownCap w (sLen + n) sCap e, grownCap_ge w _ _ _, by simp [size_zeroCells], ?_⟩
  have hf := hy.cells w.drew (Alike.drew w)
  have hfo := holds w.drew (Alike.drew w)
  rcases hu with ⟨q, hd⟩ | hd
  all_goals
    simp [Builtin.append_, h0, h1, run_underlying ht, run_underlying hd, sizeOf, typeInfo, zeroValue, hi, hz, hy.len, hn, h63', h48', Question.forced, hf, hfo, newRow, grownCap]
    congr 2
    apply Array.ext'
    simp

theorem Eff.mono {w' : World} {X' : Cx} {A B : List Nat} (h : Eff w X w' X' A) (hd : Dom w X) (hs : ∀ b ∈ A, b ∈ B) : Eff w X w' X' B where
  size := h.size
  kept := fun b hb hn => h.kept b hb (fun ha => hn (hs b ha))
  ωk := fun b hb hn => h.ωk b hb (fun ha => hn (hs b ha))
  own := fun b _ e fz hω => by
    by_cases ha : b ∈ A
    · exact h.own b ha e fz hω
    · have hb := hd b e fz hω
      exact ⟨e, fz, by rw [h.ωk b hb ha]; exact hω, Nat.le_refl _, id, fun i v _ hc => by rw [cell_of_heap (h.kept b hb ha)]; exact hc, fun c t hc => ⟨c, by rw [h.kept b hb ha]; exact hc, rfl⟩⟩
  β := h.β
  dom := h.dom
  os := h.os
  out := h.out
  tape := h.tape

/-- the owner's block goes on -/
def Cx.grow (X : Cx) (b e : Nat) : Cx := { X with ω := fun k => if k = b then some (e, false) else X.ω k }

theorem eff_row (hd : Dom w X) {b e m : Nat} {cur : Array Value} {ty : TypeId} {news : List Value} (hω : X.ω b = some (e, false)) (hcur : w.heap[b]? = some (.cells cur ty (0, 0))) (hfit : e + news.length ≤ cur.size) :
    Eff w X (w.setRow b (cur.toList.take e ++ news ++ cur.toList.drop (e + news.length)).toArray) (X.grow b (e + news.length)) [b] where
  size := by simp
  kept := fun k _ hk => setRow_other w b k _ (by simpa using hk)
  ωk := fun k _ hk => by simp only [Cx.grow]; rw [if_neg (by simpa using hk)]
  own := fun k hk e' fz hω' => by
    have : k = b := by simpa using hk
    subst this
    rw [hω] at hω'
    obtain ⟨rfl, rfl⟩ : e = e' ∧ false = fz := by simpa using hω'
    refine ⟨e + news.length, false, by simp [Cx.grow], by omega, id, fun i v hi hc => ?_, fun c t hc => ⟨(cur.toList.take e ++ news ++ cur.toList.drop (e + news.length)).toArray, ?_, ?_⟩⟩
    · rw [cell_setRow_same w k i cur _ ty _ hcur]
      simp only [World.cell?, hcur] at hc
      simp at hc
      simp only [List.getElem?_toArray]
      rw [List.append_assoc, List.getElem?_append_left (by simp; omega), List.getElem?_take, if_pos hi]
      simpa using hc
    · rw [hcur] at hc; simp at hc
      rw [setRow_heap w k cur _ ty _ hcur, hc.2]
    · rw [hcur] at hc; simp at hc
      obtain ⟨rfl, rfl⟩ := hc
      simp; omega
  β := rfl
  dom := fun k e' fz hω' => by
    simp only [Cx.grow] at hω'
    split at hω'
    · rename_i hk; subst hk; simp; exact hd _ _ _ hω
    · simp; exact hd _ _ _ hω'
  os := rfl
  out := rfl
  tape := rfl

theorem repE_any {s s' : Nat} {vals : List Value} {O : List Nat} (h : RepE w X s [] vals O) : RepE w X s' [] vals O := by simp only [RepE] at h ⊢; exact h

def appSrc (yt : TypeDesc) (y : V) : Option (List V) :=
  match yt, y with
  | .slice _, .sl _ _ l => some l
  | .slice _, .val (.slice none 0 0) => some []
  | .string, .val (.string b) => some (b.data.toList.map fun c => .val (.int .u8 c.toNat))
  | _, _ => none

theorem repE_bytes : ∀ (l : List UInt8), RepE w X 1 (l.map fun c => V.val (.int .u8 c.toNat)) (l.map fun c => Value.int .u8 c.toNat) []
  | [] => by simp [RepE]
  | c :: l => by
    simp only [List.map, RepE]
    exact ⟨.int .u8 c.toNat, _, [], [], rfl, rfl, rfl, by simp [Rep], repE_bytes l⟩

theorem src_ok {yt : TypeDesc} {y : V} {l2 : List V} {vy : Value} {O2 : List Nat} {s : Nat} (hs : s ≠ 0) (hy : appSrc yt y = some l2) (hl : ∀ e ∈ l2, e.cells.length = s) (h : Rep w X y vy O2) :
    ∃ news O', YOk P w s vy l2.length news ∧ RepE w X s l2 news O' ∧ (∀ b, O'.count b ≤ O2.count b) := by
  unfold appSrc at hy
  split at hy
  · rename_i q fl c l
    simp only [Option.some.injEq] at hy; subst hy
    simp only [Rep] at h
    obtain ⟨hp, h⟩ := h
    rcases h with ⟨rfl, rfl, rfl | ⟨_, a, rfl⟩⟩ | ⟨b, off, cap, s', vals, O', rfl, hcap, _, hvl, hs0, hxs, hsg, hf, hE, ho, ho'⟩
    rotate_left
    · exact ⟨[], [], ⟨fun w1 => by simp [Builtin.lenOf], fun w1 _ => by simpa using run_firstCells_some (P := P) w1 s 0 a 0 0 [] (by simp) (fun j v hj => by simp at hj), by simp⟩, by simp [RepE], fun b => by simp⟩
    rotate_left
    · exact ⟨[], [], ⟨fun w1 => by simp [Builtin.lenOf], fun w1 _ => by simpa using run_firstCells_none (P := P) (w := w1) s 0 0 0, by simp⟩, by simp [RepE], fun b => by simp⟩
    · have hss : l = [] ∨ s' = s := by
        cases l with
        | nil => exact .inl rfl
        | cons z l => exact .inr ((hxs z (by simp)).symm.trans (hl z (by simp)))
      have hvs : vals.length = l.length * s := by
        rcases hss with rfl | rfl
        · simpa using hvl
        · exact hvl
      have hE' : RepE w X s l vals O' := by
        rcases hss with rfl | rfl
        · exact repE_any hE
        · exact hE
      refine ⟨vals, O', ⟨fun w1 => by simp [Builtin.lenOf], fun w1 ha => ?_, hvs⟩, hE', fun b' => ?_⟩
      · exact run_firstCells_some (P := P) w1 s l.length ⟨b, off, none⟩ _ _ vals hvs (fun j v hj => by rw [Addr.add_lit, ha.cell]; exact hsg j v hj)
      · by_cases hown : fl = .own
        · rw [ho hown, List.count_cons]; omega
        · rw [(ho' hown).2]; simp
  · simp only [Option.some.injEq] at hy; subst hy
    simp only [Rep] at h
    obtain ⟨rfl, rfl⟩ := h
    exact ⟨[], [], ⟨fun w1 => by simp [Builtin.lenOf], fun w1 _ => by simpa using run_firstCells_none (P := P) (w := w1) s 0 0 0, by simp⟩, by simp [RepE], fun b => by simp⟩
  · rename_i b
    simp only [Option.some.injEq] at hy; subst hy
    simp only [Rep] at h
    obtain ⟨rfl, rfl⟩ := h
    have hlen : b.data.toList.length = b.size := by rw [Array.length_toList]; rfl
    have hss : b.data.toList = [] ∨ s = 1 := by
      cases hb : b.data.toList with
      | nil => exact .inl rfl
      | cons z l => exact .inr ((hl (.val (.int .u8 z.toNat)) (by rw [hb]; simp)).symm.trans rfl)
    refine ⟨b.data.toList.map fun c => .int .u8 c.toNat, [], ⟨fun w1 => by simp only [Builtin.lenOf, List.length_map]; rw [Array.length_toList]; rfl, fun w1 _ => ?_, ?_⟩, ?_, fun b => by simp⟩
    · simp only [Builtin.firstCells, Sem.run_pure, List.length_map]
      rw [Array.length_toList]
      have hx : (b.extract 0 b.data.size).data = b.data := by
        have : b.data.size = b.size := rfl
        rw [this]; simp
      rw [hx]
      congr 1
      apply Array.ext'
      simp
    · rcases hss with hb | rfl
      · simp [hb]
      · simp
    · rcases hss with hb | rfl
      · simp [hb, RepE]
      · exact repE_bytes _
  · simp at hy

theorem vappend_src (argTypes : Array TypeId) (x y : V) : vappend P argTypes x y = match (argTypes[0]?).bind P.underlying, (argTypes[1]?).bind P.underlying with
  | some (.slice elem), some yt =>
    match appSrc yt y with
    | none => none
    | some l2 =>
      let s := P.cellsOf elem
      if s = 0 ∨ ((P.info? elem).bind (·.zero)).map (fun z => z.cells.size) ≠ some s ∨ l2.all (fun e => decide (e.cells.length = s) && e.oks) = false ∨ (ptrsL l2).isEmpty = false then none else
      match x with
      | .val (.slice none 0 0) => if l2.isEmpty then some x else if (l2.length + 512) * P.bytesOf elem ≤ 70368744177664 ∧ l2.length ≤ 70368744177664 then some (.sl .own false l2) else none
      | .sl fl c l =>
        if l.all (fun e => decide (e.cells.length = s)) = true ∧ (l.length + l2.length + 512) * P.bytesOf elem ≤ 70368744177664 ∧ l.length + l2.length ≤ 70368744177664 then
          (if fl = .own then some (.sl .own false (l ++ l2))
          else if c then (if l2.isEmpty then some x else some (.sl .own false (l ++ l2)))
          else none)
        else none
      | _ => none
  | _, _ => none := rfl

theorem app_new {s : Nat} {l l2 : List V} {vals news rest : List Value} {w1 : World} {nc : Nat} {A B O : List Nat} {e : TypeId} (hd : Dom w X) (ha : Alike w w1) (hs : 0 < s) (hp : ptrsL l = []) (hp2 : ptrsL l2 = []) (hx : ∀ x ∈ l, x.cells.length = s) (hx2 : ∀ x ∈ l2, x.cells.length = s)
    (hE : RepE w X s l vals A) (hE2 : RepE w X s l2 news B) (hlin : Lin O) (hc : ∀ b, (A ++ B).count b ≤ O.count b) (hO : ∀ b ∈ O, b < w.heap.size) (hnc : l.length + l2.length ≤ nc) (hr : rest.length = (nc - (l.length + l2.length)) * s) (hne : l2 ≠ []) {sm : Sem Value}
    (hrun : sm.run P w = .ok (.slice (some ⟨w.heap.size, 0, none⟩) (l.length + l2.length) nc) (w1.alloc (.cells ((vals ++ news) ++ rest).toArray e))) :
    OpOk P (do pure (Next.value (← sm))) w X (.sl .own false (l ++ l2)) O := by
  have hE3 := repE_append hE hE2
  have hlen := repE_length hE3
  have hrep := rep_new (rest := rest) (cap := nc) ha hd e (by rw [ptrsL_append, hp, hp2]; rfl) hs hlen (fun x h => by rcases List.mem_append.1 h with h | h; exact hx x h; exact hx2 x h) (by rw [List.length_append]; exact hnc)
    (by rw [List.length_append, hlen, hr, List.length_append, ← Nat.add_mul]; exact Nat.mul_le_mul_right _ (by omega)) (fun h0 => by rw [List.length_append] at h0; cases l2 with | nil => exact absurd rfl hne | cons _ _ => simp at h0) hE3 (fun b hb => hO b (mem_of_le hc b hb))
  rw [show (l ++ l2).length = l.length + l2.length from List.length_append] at hrep
  refine ⟨_, _, _, w.heap.size :: (A ++ B), sem_v hrun, eff_alloc ha hd _ _ O, hrep, fun b => ?_, fun b hb => ?_⟩
  · rw [List.count_cons]
    have h1 := hc b; have h2 := hlin b
    split
    · rename_i hb
      have hb : w.heap.size = b := by simpa using hb
      have : (A ++ B).count b = 0 := List.count_eq_zero.2 fun hm => by have := hO b (mem_of_le hc b hm); omega
      omega
    · omega
  · rcases List.mem_cons.1 hb with rfl | hb
    · exact .inr (Nat.le_refl _)
    · exact .inl (mem_of_le hc b hb)

theorem op_append {argTypes : Array TypeId} {ty : TypeId} {x y z : V} {vx vy : Value} {O1 O2 : List Nat} (hd : Dom w X) (hlin : Lin (O1 ++ O2)) (hz : vappend P argTypes x y = some z) (h1 : Rep w X x vx O1) (h2 : Rep w X y vy O2) :
    OpOk P (do pure (Next.value (← Builtin.append_ argTypes ty #[vx, vy]))) w X z (O1 ++ O2) := by
  rw [vappend_src] at hz
  split at hz
  · rename_i elem yt ht hu
    obtain ⟨t, h0, ht⟩ := Option.bind_eq_some_iff.1 ht
    obtain ⟨u, h1', hu⟩ := Option.bind_eq_some_iff.1 hu
    split at hz
    · simp at hz
    · rename_i l2 hsrc
      simp only at hz
      split at hz
      · simp at hz
      · rename_i hcnd
        simp only [not_or, Bool.not_eq_false, Decidable.not_not, ne_eq] at hcnd
        obtain ⟨hs0, hzero, hall, hptr⟩ := hcnd
        obtain ⟨i, hi, hisz⟩ := info_of_cells hs0
        have hptr' : ptrsL l2 = [] := by simpa using hptr
        have hall2 : ∀ e ∈ l2, e.cells.length = P.cellsOf elem ∧ e.oks = true := by simpa [List.all_eq_true] using hall
        obtain ⟨zv, hzv, hzsz⟩ : ∃ zv, i.zero = some zv ∧ zv.cells.size = P.cellsOf elem := by
          rw [hi] at hzero
          cases hh : i.zero with
          | none => simp [hh] at hzero
          | some zv => simp [hh] at hzero; exact ⟨zv, rfl, hzero⟩
        have hbytes : i.bytes = P.bytesOf elem := by simp [Program.bytesOf, hi]
        obtain ⟨news, B, hy, hE2, hcB⟩ := src_ok (P := P) hs0 hsrc (fun e he => (hall2 e he).1) h2
        have hu' : (∃ q, P.underlying u = some (.slice q)) ∨ P.underlying u = some .string := by
          unfold appSrc at hsrc
          split at hsrc
          · exact .inl ⟨_, hu⟩
          · exact .inl ⟨_, hu⟩
          · exact .inr hu
          · simp at hsrc
        rw [← hisz] at hy
        have hO : ∀ b ∈ O1 ++ O2, b < w.heap.size := fun b hb => by
          rcases List.mem_append.1 hb with hb | hb
          · exact rep_dom hd x vx O1 h1 b hb
          · exact rep_dom hd y vy O2 h2 b hb
        have hs0' : 0 < P.cellsOf elem := Nat.pos_of_ne_zero hs0
        have hnil : ∀ c, vx = .slice none 0 0 → O1 = [] → ((l2 = [] ∧ (z = x ∨ z = .sl .own c [])) ∨ (l2 ≠ [] ∧ z = .sl .own false l2 ∧ l2.length ≤ 70368744177664 ∧ l2.length * P.bytesOf elem ≤ 70368744177664)) →
            OpOk P (do pure (Next.value (← Builtin.append_ argTypes ty #[vx, vy]))) w X z (O1 ++ O2) := by
          rintro c rfl rfl hcase
          rcases hcase with ⟨rfl, hzx⟩ | ⟨hne, rfl, hlen, hb⟩
          · have hr := app_stay (ty := ty) h0 h1' ht hu' hi hy none 0 0 (.inl rfl) (Nat.le_refl _)
            refine ok_v (O' := []) hd hr ?_ Lin.nil (by simp)
            rcases hzx with rfl | rfl
            · exact h1
            · simp [Rep, ptrsL]
          · have hg : 0 < 0 + l2.length := by have := List.length_pos_iff.2 hne; omega
            obtain ⟨w1, rest, ha, nc, hnc, hrest, hr⟩ := app_grow (ty := ty) h0 h1' ht hu' hi hzv hy none 0 0 [] (fun w1 _ => by simpa using run_firstCells_none (P := P) (w := w1) i.size 0 0 0) hg (by omega) (by rw [hbytes]; simpa using hb)
            rw [hzsz] at hrest
            have := app_new (l := []) (vals := []) (A := []) hd ha hs0' rfl hptr' (by simp) (fun x hx => (hall2 x hx).1) (by simp [RepE]) hE2 hlin (fun b => by have := hcB b; simpa using this) hO (by simpa using hnc) (by simpa using hrest) hne (by simpa using hr)
            simpa using this
        split at hz
        · simp only [Rep] at h1
          obtain ⟨rfl, rfl⟩ := h1
          split at hz
          · rename_i he
            simp only [Option.some.injEq] at hz; subst hz
            exact hnil false rfl rfl (.inl ⟨by simpa using he, .inl rfl⟩)
          · rename_i he
            split at hz
            · rename_i hb
              simp only [Option.some.injEq] at hz; subst hz
              refine hnil false rfl rfl (.inr ⟨by simpa using he, rfl, hb.2, ?_⟩)
              exact Nat.le_trans (Nat.mul_le_mul_right _ (by omega)) hb.1
            · simp at hz
        · rename_i fl c l
          split at hz
          · rename_i hb
            obtain ⟨hall1, hb1, hb2⟩ := hb
            have hall1' : ∀ e ∈ l, e.cells.length = P.cellsOf elem := by simpa [List.all_eq_true] using hall1
            have hb1' : (l.length + l2.length) * i.bytes ≤ 70368744177664 := by
              rw [hbytes]; exact Nat.le_trans (Nat.mul_le_mul_right _ (by omega)) hb1
            have h1s := h1
            simp only [Rep] at h1
            obtain ⟨hp, h1⟩ := h1
            rcases h1 with ⟨rfl, rfl, rfl | ⟨hfl, a0, rfl⟩⟩ | ⟨b0, off, cap, s, vals, A, rfl, hcap, hclip, hvl, hsp, hxs, hsg, hf, hE, ho, ho'⟩
            rotate_left
            · -- empty, wherever it lies
              rw [if_neg hfl] at hz
              split at hz
              · split at hz
                · rename_i he
                  simp only [Option.some.injEq] at hz; subst hz
                  have he' : l2 = [] := by simpa using he
                  subst he'
                  have hr := app_stay (ty := ty) h0 h1' ht hu' hi hy (some a0) 0 0 (.inr ⟨a0, rfl⟩) (Nat.le_refl _)
                  exact ok_v (O' := []) hd hr h1s Lin.nil (by simp)
                · rename_i he
                  simp only [Option.some.injEq] at hz; subst hz
                  have hne : l2 ≠ [] := by simpa using he
                  have hg : 0 < 0 + l2.length := by have := List.length_pos_iff.2 hne; omega
                  obtain ⟨w1, rest, ha, nc, hnc, hrest, hr⟩ := app_grow (ty := ty) h0 h1' ht hu' hi hzv hy (some a0) 0 0 [] (fun w1 _ => by simpa using run_firstCells_some (P := P) w1 i.size 0 a0 0 0 [] (by simp) (fun j v hj => by simp at hj)) hg (by simpa using hb2) (by simpa using hb1')
                  rw [hzsz] at hrest
                  have := app_new (l := []) (vals := []) (A := []) hd ha hs0' rfl hptr' (by simp) (fun x hx => (hall2 x hx).1) (by simp [RepE]) hE2 hlin (fun b => by have := hcB b; simpa using this) hO (by simpa using hnc) (by simpa using hrest) hne (by simpa using hr)
                  simpa using this
              · simp at hz
            rotate_left
            · -- nil
              refine hnil false rfl rfl ?_
              by_cases hne : l2 = []
              · refine .inl ⟨hne, ?_⟩
                subst hne
                split at hz
                · simp only [Option.some.injEq] at hz; exact .inr (by rw [← hz]; rfl)
                · split at hz
                  · simp at hz; exact .inl hz.symm
                  · simp at hz
              · refine .inr ⟨hne, ?_, by simpa using hb2, by rw [← hbytes]; simpa using hb1'⟩
                split at hz
                · simp only [Option.some.injEq] at hz; rw [← hz]; rfl
                · split at hz
                  · rw [if_neg (by simpa using hne)] at hz; simp only [Option.some.injEq] at hz; rw [← hz]; rfl
                  · simp at hz
            · have hss : l = [] ∨ s = P.cellsOf elem := by
                cases l with
                | nil => exact .inl rfl
                | cons q l => exact .inr ((hxs q (by simp)).symm.trans (hall1' q (by simp)))
              have hvs : vals.length = l.length * P.cellsOf elem := by
                rcases hss with rfl | rfl
                · simpa using hvl
                · exact hvl
              have hE' : RepE w X (P.cellsOf elem) l vals A := by
                rcases hss with rfl | rfl
                · exact repE_any hE
                · exact hE
              have holds : ∀ w1, Alike w w1 → (Builtin.firstCells i.size l.length (.slice (some ⟨b0, off, none⟩) l.length cap)).run P w1 = .ok vals.toArray w1 := fun w1 ha =>
                run_firstCells_some (P := P) w1 i.size l.length ⟨b0, off, none⟩ _ _ vals (by rw [hisz]; exact hvs) (fun j v hj => by rw [Addr.add_lit, ha.cell]; exact hsg j v hj)
              have hcA : ∀ b, A.count b ≤ O1.count b := fun b => by
                by_cases hown : fl = .own
                · rw [ho hown, List.count_cons]; omega
                · rw [(ho' hown).2]; simp
              have hgrow : cap < l.length + l2.length → z = .sl .own false (l ++ l2) → OpOk P (do pure (Next.value (← Builtin.append_ argTypes ty #[.slice (some ⟨b0, off, none⟩) l.length cap, vy]))) w X z (O1 ++ O2) := by
                rintro hg rfl
                obtain ⟨w1, rest, ha, nc, hnc, hrest, hr⟩ := app_grow (ty := ty) h0 h1' ht hu' hi hzv hy (some ⟨b0, off, none⟩) l.length cap vals holds hg hb2 hb1'
                rw [hzsz] at hrest
                exact app_new hd ha hs0' hp hptr' hall1' (fun x hx => (hall2 x hx).1) hE' hE2 hlin (fun b => by have := hcA b; have := hcB b; simp only [count_app]; omega) hO hnc hrest (by rintro rfl; simp at hg; omega) hr
              have hstay : l2 = [] → (z = .sl fl c l ∨ z = .sl fl false l) → OpOk P (do pure (Next.value (← Builtin.append_ argTypes ty #[.slice (some ⟨b0, off, none⟩) l.length cap, vy]))) w X z (O1 ++ O2) := by
                rintro rfl hzz
                have hr := app_stay (ty := ty) h0 h1' ht hu' hi hy (some ⟨b0, off, none⟩) l.length cap (.inr ⟨_, rfl⟩) hcap
                refine ok_v (O' := O1) hd hr ?_ hlin.left (fun b hb => by simp [hb])
                rcases hzz with rfl | rfl
                · exact h1s
                · simp only [Rep]; exact ⟨hp, .inr ⟨b0, off, cap, s, vals, A, rfl, hcap, by simp, hvl, hsp, hxs, hsg, hf, hE, ho, ho'⟩⟩
              split at hz
              · rename_i hown
                subst hown
                simp only [Option.some.injEq] at hz
                by_cases hne : l2 = []
                · exact hstay hne (.inr (by rw [← hz, hne, List.append_nil]))
                · by_cases hg : cap < l.length + l2.length
                  · exact hgrow hg hz.symm
                  · -- in place
                    subst hz
                    obtain ⟨e, fz, hω, hle, rfl, hend, ⟨cur, ty', hcur, hroom⟩, hcap0⟩ := hf
                    have hl0 : l ≠ [] := by
                      rintro rfl
                      simp at hvl; subst hvl
                      have := hcap0 rfl
                      have := List.length_pos_iff.2 hne
                      simp at hg; omega
                    have hse : s = P.cellsOf elem := hss.resolve_left hl0
                    subst hse
                    have hnl : news.length = l2.length * P.cellsOf elem := by rw [← hisz]; exact hy.size
                    have hfit : off + l.length * i.size + news.length ≤ cur.size := by
                      rw [hisz, hnl]
                      have : l.length * P.cellsOf elem + l2.length * P.cellsOf elem ≤ cap * P.cellsOf elem := by rw [← Nat.add_mul]; exact Nat.mul_le_mul_right _ (by omega)
                      omega
                    have hr := app_room (ty := ty) (sCap := cap) h0 h1' ht hu' hi hy hcur hfit (repE_ones (fun x hx => (hall2 x hx).2) hE2) (by omega)
                    have hoff : off + l.length * i.size = e := by rw [hisz, hend, hvs]
                    rw [hoff] at hr hfit
                    have heff := eff_row hd (m := 0) (news := news) hω hcur hfit
                    have hO1 := ho rfl
                    have hlinA : Lin (b0 :: (A ++ B)) := fun b => by
                      have h1 := hlin b; have h2 := hcB b
                      rw [hO1] at h1
                      simp only [count_app, List.count_cons, List.cons_append] at h1 ⊢
                      omega
                    have hnotin : ∀ b ∈ A ++ B, b ∉ [b0] := fun b hb hbb => by
                      have : b = b0 := by simpa using hbb
                      subst this
                      have := hlinA b
                      simp only [List.count_cons, BEq.rfl, if_true] at this
                      have := List.count_pos_iff.2 hb
                      omega
                    have hin : ∀ b ∈ [b0], b ∈ O1 ++ O2 := fun b hb => by
                      have hbb : b = b0 := by simpa using hb
                      rw [hbb, hO1]; simp
                    refine ⟨_, _, _, b0 :: (A ++ B), sem_v hr, heff.mono hd hin, ?_, hlinA, fun b hb => .inl ?_⟩
                    · have hE3 := repE_ext heff hd (by rw [ptrsL_append, hp, hptr']; rfl) hnotin (repE_append hE' hE2)
                      simp only [Rep]
                      refine ⟨by rw [ptrsL_append, hp, hptr']; rfl, .inr ⟨b0, off, cap, P.cellsOf elem, vals ++ news, A ++ B, by simp, by simp; omega, by simp, repE_length hE3, hsp, fun x h => by rcases List.mem_append.1 h with h | h; exact hall1' x h; exact (hall2 x h).1, ?_, ?_, hE3, fun _ => rfl, fun hh => absurd rfl hh⟩⟩
                      · intro j v hj
                        rw [cell_setRow_same w b0 _ cur _ ty' _ hcur]
                        simp only [List.getElem?_toArray]
                        rw [List.append_assoc]
                        by_cases hlt : j < vals.length
                        · rw [List.getElem?_append_left hlt] at hj
                          rw [List.getElem?_append_left (by simp; omega), List.getElem?_take, if_pos (by omega)]
                          have := hsg j v hj
                          simp only [World.cell?, hcur] at this
                          simpa using this
                        · rw [List.getElem?_append_right (by omega)] at hj
                          have hjl := (List.getElem?_eq_some_iff.1 hj).1
                          have htl : (cur.toList.take e).length = e := by simp; omega
                          rw [List.getElem?_append_right (by omega), htl, List.getElem?_append_left (by omega), show off + j - e = j - vals.length by omega]
                          exact hj
                      · refine ⟨e + news.length, false, by simp [Cx.grow], by simp; omega, rfl, by simp; omega, ⟨_, ty', setRow_heap w b0 cur _ ty' _ hcur, by simp; omega⟩, fun h0 => ?_⟩
                        exfalso
                        have := List.length_pos_iff.2 hl0
                        have : 0 < l.length * P.cellsOf elem := Nat.mul_pos this hs0'
                        rw [List.length_append, hvs] at h0; omega
                    · rcases List.mem_cons.1 hb with rfl | hb
                      · rw [hO1]; simp
                      · rcases List.mem_append.1 hb with hb | hb
                        · rw [hO1]; simp [hb]
                        · exact List.mem_append.2 (.inr (mem_of_le hcB b hb))
              · rename_i hown
                split at hz
                · rename_i hc
                  split at hz
                  · rename_i he
                    simp only [Option.some.injEq] at hz
                    exact hstay (by simpa using he) (.inl hz.symm)
                  · rename_i he
                    simp only [Option.some.injEq] at hz
                    have := List.length_pos_iff.2 (show l2 ≠ [] by simpa using he)
                    exact hgrow (by rw [hclip hc]; omega) hz.symm
                · simp at hz
          · simp at hz
        · simp at hz
  · simp at hz
end Go.Ab
