/-
  ONE LAW OF A CHAPTER: its program side is run by an interpreter that is proved sound; what it computes is shown to be what the law says. No conditions. Part 6 of 7.
-/
import Derived.Test.YtbcdgfgacigaoaaGreatMdze
import Derived.Test.YtbcdgfgacigaoaaGreatProg
import Derived.KernelRfl
import Derived.Test.YtbcdgfgacigaoaaGreatRows
import Derived.WalkKit
set_option linter.unusedSimpArgs false
set_option linter.unusedVariables false
set_option linter.unnecessarySimpa false
section
namespace Go.Ab
open Go
variable {P : Program}
def sameVal : Value -> Value -> Bool
 | .int k n, .int k' n' => decide (k = k') && decide (n = n')
 | .bool b, .bool b' => b == b'
 | .slice none 0 0, .slice none 0 0 => true
 | _, _ => false
mutual
def V.same : V -> V -> Bool
 | .val a, .val b => sameVal a b
 | .sl f c l, .sl f' c' l' => decide (f = f') && c == c' && sameL l l'
 | .agg l, .agg l' => sameL l l'
 | .tuple l, .tuple l' => sameL l l'
 | _, _ => false
def sameL : List V -> List V -> Bool
 | [], [] => true
 | x :: l, y :: l' => x.same y && sameL l l'
 | _, _ => false
end
theorem sameVal_eq {a b : Value} (h : sameVal a b = true) : a = b := by
 unfold sameVal at h;split at h <;> simp_all
mutual
theorem same_eq : ∀ (x y : V), x.same y = true -> x = y
 | .val a, y, h => by cases y <;> simp only [V.same] at h <;> first | (rw [sameVal_eq h]) | cases h
 | .sl f c l, y, h => by
  cases y <;> simp only [V.same] at h <;> try (cases h; done)
  simp only [Bool.and_eq_true, decide_eq_true_eq, beq_iff_eq] at h;rw [h.1.1, h.1.2, sameL_eq _ _ h.2]
 | .agg l, y, h => by
  cases y <;> simp only [V.same] at h <;> try (cases h; done)
  rw [sameL_eq _ _ h]
 | .tuple l, y, h => by
  cases y <;> simp only [V.same] at h <;> try (cases h; done)
  rw [sameL_eq _ _ h]
 | .undef, y, h | .ptr .., y, h | .cptr .., y, h | .fn .., y, h | .yld _, y, h | .mref _, y, h | .mp _, y, h | .iface .., y, h | .lp .., y, h | .room .., y, h => by cases y <;> simp [V.same] at h
theorem sameL_eq : ∀ (l m : List V), sameL l m = true -> l = m
 | [], [], _ => rfl
 | [], y :: m, h => by simp [sameL] at h
 | x :: l, [], h => by simp [sameL] at h
 | x :: l, y :: m, h => by
  simp only [sameL, Bool.and_eq_true] at h;rw [same_eq x y h.1, sameL_eq l m h.2]
end
structure Ran where
 g : FuncId
 args : List V
 r : V
def libOf (t : List Ran) (g : FuncId) : Option (List V -> Option V) :=
 if t.any (fun e => decide (e.g = g)) then some (fun args => (t.find? fun e => decide (e.g = g) && sameL e.args args).map (·.r)) else none
theorem libOf_ok {t : List Ran} (h : ∀ e ∈ t, CallOk P e.g e.args [] e.r []) : ∀ g f args r, libOf t g = some f -> f args = some r -> CallOk P g args [] r [] := by
 intro g f args r hf hr;unfold libOf at hf;split at hf
 ·cases hf;obtain ⟨e, he, rfl⟩ := Option.map_eq_some_iff.1 hr;have h1 := List.find?_some he;simp only [Bool.and_eq_true, decide_eq_true_eq] at h1;rw [<- h1.1, <- sameL_eq _ _ h1.2];exact h e (List.mem_of_find?_eq_some he)
 ·cases hf
theorem ran_ok {H : Hints} (hm : P.follows .mixedOrders = true) (hname : ∀ (g : FuncId) (fn : Func), P.funcs[g]? = some fn -> fn.body.isSome = true -> (fn.name == "runtime.NumGoroutine") = false) {t : List Ran} (ht : ∀ e ∈ t, CallOk P e.g e.args [] e.r []) (n : Nat) (e : Ran)
  (h : (match (orcN P H (libOf t) n).call e.g e.args [] with | some (r, []) => r.same e.r | _ => false) = true) : CallOk P e.g e.args [] e.r [] := by
 split at h
 ·rename_i r hr;rw [<- same_eq _ _ h];exact (orcN_ok hm hname (libOf_ok ht) n).call _ _ _ _ _ hr
 ·cases h
end Go.Ab
end
section
namespace Go.Proofs.YtbcdgfgacigaoaaGreat
open Go Go.Ab
theorem follows : Tryz.prog.follows .mixedOrders = true := by kernel_rfl
theorem namesOk : (Tryz.prog.funcs.toList.all fun fn => !fn.body.isSome || !(fn.name == "runtime.NumGoroutine")) = true := by kernel_rfl
theorem hname : ∀ (g : FuncId) (fn : Func), Tryz.prog.funcs[g]? = some fn -> fn.body.isSome = true -> (fn.name == "runtime.NumGoroutine") = false := fun g fn h hb => by
 have := List.all_eq_true.1 namesOk fn (by rw [Array.mem_toList_iff]; exact Array.mem_of_getElem? h);rw [hb] at this;simpa using this
def vi (n : Int) : V := .val (.int .i64 n)
def r0 : Ran := ⟨59, [.sl .shared false [.sl .shared false [.agg [vi (1), vi (0)], .agg [vi (0), vi (1)]], .sl .shared false [.agg [vi (0), vi (0)], .agg [vi (2), vi (0)]]]], .tuple [.agg [vi (2), .sl .own false [.sl .own false [.agg [vi (2), vi (0)], .agg [vi (0), vi (-1)]], .sl .own false [.agg [vi (0), vi (0)], .agg [vi (1), vi (0)]]]], vi (0)]⟩
theorem r0_ok : CallOk Tryz.prog r0.g r0.args [] r0.r [] := ran_ok (t := []) (H := Hn.hints) follows hname (by simp) 200 r0 (by kernel_rfl)
def r1 : Ran := ⟨14, [.agg [.sl .shared false [.sl .shared false [.agg [vi (1), vi (0)]], .sl .shared false [.agg [vi (0), vi (1)]], .sl .shared false [.agg [vi (2), vi (0)]]], .sl .shared false [.sl .shared false [.agg [vi (2), vi (0)]], .sl .shared false [.agg [vi (0), vi (2)]], .sl .shared false [.agg [vi (5), vi (0)]]]], vi (0)], .tuple [.agg [vi (98), vi (99)], vi (0)]⟩
theorem r1_ok : CallOk Tryz.prog r1.g r1.args [] r1.r [] := ran_ok (t := []) (H := Hn.hints) follows hname (by simp) 200 r1 (by kernel_rfl)
def r2 : Ran := ⟨23, [.agg [.sl .shared false [.sl .shared false [.agg [vi (2), vi (0)]]], .sl .shared false [.sl .shared false [.agg [vi (1), vi (0)]]], vi (1), vi (2), vi (3)], .sl .shared false [.agg [vi (10), vi (0)]], .sl .shared false [.agg [vi (0), vi (0)]], vi (0)], .tuple [vi (2), vi (0)]⟩
theorem r2_ok : CallOk Tryz.prog r2.g r2.args [] r2.r [] := ran_ok (t := []) (H := Hn.hints) follows hname (by simp) 200 r2 (by kernel_rfl)
def r3 : Ran := ⟨73, [.sl .shared false [vi (2), vi (-2), vi (1)]], .tuple [.sl .own false [.sl .dull false [vi (2), vi (-2), vi (1)], .sl .dull false [vi (3), vi (-2)], .sl .own false [vi (1)]], vi (0)]⟩
theorem r3_ok : CallOk Tryz.prog r3.g r3.args [] r3.r [] := ran_ok (t := []) (H := Hn.hints) follows hname (by simp) 200 r3 (by kernel_rfl)
def r4 : Ran := ⟨74, [.agg [.sl .shared false [vi (4), vi (0), vi (0)], .sl .shared false [vi (0), vi (0), vi (1)], vi (1), vi (6)]], .tuple [vi (4), vi (0)]⟩
theorem r4_ok : CallOk Tryz.prog r4.g r4.args [] r4.r [] := ran_ok (t := []) (H := Hn.hints) follows hname (by simp) 200 r4 (by kernel_rfl)
def rs : List Ran := [r0, r1, r2, r3, r4]
theorem rs_ok : ∀ e ∈ rs, CallOk Tryz.prog e.g e.args [] e.r [] := by
 intro e he;simp only [rs, List.mem_cons, List.mem_nil_iff, or_false] at he;rcases he with rfl | rfl | rfl | rfl | rfl
 ·exact r0_ok
 ·exact r1_ok
 ·exact r2_ok
 ·exact r3_ok
 ·exact r4_ok
def aw : Ran := ⟨12, [], .val (.bool true)⟩
theorem awake_ok : CallOk Tryz.prog 12 [] [] (.val (.bool true)) [] := ran_ok (H := Hn.hints) follows hname rs_ok 200 aw (by kernel_rfl)
end Go.Proofs.YtbcdgfgacigaoaaGreat
end
section
namespace Go.Tx
open Go Go.Ab Go.RowKit Go.ChangeShapes Go.WideShapes Go.Deep
section
variable {H : Type} {enc : TypeId × Value -> H} {P : Program}
theorem post_of_below {f : Func} {s : ChangeSpec} {apart fresh handsOn again : Bool} {W W' : World} {args : Array Value} {v : Value} {ds gs : List (DataW H)} {before pa pv : List MemPlace}
  (hW : DataW.Whole enc P f.params.toList s.vars apart W args.toList ds gs before)
  (hres : ∀ (b : Nat) (sp : Nat -> Bool) (hd : Bool), DataW.TrodAll enc P W' b sp hd f.resultTypes.toList (v.resultList f.resultTypes.size) (s.fn H (ds ++ gs)).results [])
  (hargs : ∀ sp : Nat -> Bool, (∀ p ∈ before, sp p.block = true) -> DataW.TrodAll enc P W' 0 sp true f.params.toList args.toList (s.fn H (ds ++ gs)).args pa)
  (hvars : ∀ sp : Nat -> Bool, (∀ p ∈ before, sp p.block = true) -> DataW.TrodVars enc P W' sp s.vars (s.fn H (ds ++ gs)).vars pv)
  (hps : before = pa ++ pv) (hb : Below W.heap.size W W')
  (hok : ∀ (j : Nat) (t : TypeId) (r : Value), f.resultTypes[j]? = some t -> (v.resultList f.resultTypes.size)[j]? = some r -> Value.okWide P W' .any 0 t r) :
  s.post enc P f apart fresh handsOn again W args v W' := by
 have hlt : ∀ p ∈ before, p.block < W.heap.size := fun p hp => hW.lt p hp;have hold : ∀ p ∈ before, (fun b => decide (b < W.heap.size)) p.block = true := fun p hp => by simpa using hlt p hp
 refine ⟨ds, gs, before, [], pa, pv, hW, hres _ _ _, hargs _ hold, hvars _ hold, World.keptBut_mono (fun p hp => ⟨hp, ?_⟩) (hb.frame (· ∈ before)), fun _ => ?_⟩
 ·rw [hps, List.mem_append] at hp;exact Or.inr hp
 ·obtain ⟨_, _, _, _, _, hz, hn⟩ := hW;refine ⟨hok, _, _, ([] ++ pa) ++ pv, ⟨[] ++ pa, pv, trodAll_append (hargs _ (fun _ _ => rfl)) (hres _ _ _), hvars _ (fun _ _ => rfl), rfl, ?_, ?_⟩, ?_⟩
  ·intro b off hp;have hin : MemPlace.cell b off ∈ before := by rw [hps]; simpa using hp
   rw [hb.frozen (hlt _ hin)];exact hz b off hin
  ·intro ha;have := hn ha;rw [hps] at this;simpa using this
  ·intro p hp _;rw [hps];simpa using hp
theorem trodAll_len : ∀ {ts : List TypeId} {vs : List Value} {ds : List (DataW H)} {ps : List MemPlace} {w : World} {b : Nat} {sp : Nat -> Bool} {hd : Bool}, DataW.TrodAll enc P w b sp hd ts vs ds ps -> ds.length = ts.length
 | [], [], [], _, _, _, _, _, _ => rfl
 | [], [], d :: ds, _, _, _, _, _, h => h.elim
 | [], v :: vs, _, _, _, _, _, _, h => by cases h
 | t :: ts, [], _, _, _, _, _, _, h => by cases h
 | t :: ts, v :: vs, [], _, _, _, _, _, h => by cases h
 | t :: ts, v :: vs, d :: ds, ps, w, b, sp, hd, ⟨p, q, h1, h2, e⟩ => by simp [trodAll_len h2]
end
theorem sm_all {H : Type} : Sm (H := H) maxLen (fun _ => True) where
 slice := fun es sp _ h => ⟨h, fun _ _ => trivial⟩
 agg := fun _ _ _ _ => trivial
 str := fun _ _ h => h
theorem law_contract {P : Program} {H0 : Hints} {lib : FuncId -> Option (List V -> Option V)} (hm : P.follows .mixedOrders = true) (hname : ∀ (g : FuncId) (fn : Func), P.funcs[g]? = some fn -> fn.body.isSome = true -> (fn.name == "runtime.NumGoroutine") = false)
  (hlib : ∀ g h args r, lib g = some h -> h args = some r -> CallOk P g args [] r []) (hl : laidOutB P = true) {k : FuncId} {fn : Func} (hfn : P.funcs[k]? = some fn) (hbody : fn.body.isSome = true)
  {ts : List TypeId} {τs : List Ty} (hps : fn.params.toList = ts) (hts : ts.mapM (tyOf P) = some τs) (hok : ts.all (okT P 10) = true) (hrd : ts.all (fun t => P.readableRec t && decide (t < P.types.size)) = true)
  {tb : TypeId} (hres : fn.resultTypes = #[tb]) (htb : P.underlying tb = some .bool) {F : denP (τs.map .ty) -> Option Bool}
  (he : EntryOk P H0 lib ⟨k, τs.map .ty, [(.bool, 0)], F⟩) (hF : ∀ x, RngP maxLen τs x -> F x = some true)
  {s : ChangeSpec} (hv : s.vars = []) (hs : ∀ (H : Type) (ds : List (DataW H)), ds.length = ts.length -> s.fn H ds = { results := [.lit (.bool true)], args := ds })
  (H : Type) (enc : TypeId × Value -> H) (W : World) (base : Nat) (args : Array Value) (ds gs : List (DataW H)) (before : List MemPlace)
  (hval : ∀ (j : Nat) t v, fn.params[j]? = some t -> args[j]? = some v -> Value.okWide P W .any base t v)
  (hW : DataW.Whole enc P fn.params.toList s.vars false W args.toList ds gs before) :
  Calls P k args W fun e W' => ∃ v, e = .returned v /\ s.post enc P fn false true false false W args v W' := by
 have hW' := hW;have hlt : ∀ p ∈ before, p.block < W.heap.size := fun p hp => hW.lt p hp;obtain ⟨p, q, hA, hV, rfl, hfz, hnd⟩ := hW;rw [hv] at hV;obtain ⟨rfl, rfl⟩ := trodVars_none hV;rw [hps] at hA;have hlen := trodAll_len hA;have hval' : ∀ (j : Nat) t v, ts[j]? = some t -> args.toList[j]? = some v -> Value.okWide P W .any base t v := fun j t v h1 h2 =>
  hval j t v (by rw [<- hps] at h1; simpa using h1) (by simpa using h2)
 refine (law_calls hm hname hlib hl sm_all hfn hbody hts hok he hF hval' hA (fun _ _ => trivial)).mono fun e W' ⟨h1, hb⟩ => ?_;subst h1;have hfs : s.fn H (ds ++ []) = { results := [.lit (.bool true)], args := ds } := by rw [List.append_nil]; exact hs H ds hlen
 refine ⟨_, rfl, post_of_below (pa := p) (pv := []) hW' ?_ ?_ ?_ rfl hb ?_⟩
 ·intro b sp hd;rw [hfs, hres];exact trodAll_mk1 (shut_bool htb true)
 ·intro sp hsp;rw [hfs, hps];exact trodAll_below hl hb hrd hA (fun x hx => hlt x (by simpa using hx)) sp (fun x hx => hsp x (by simpa using hx))
 ·intro sp _;rw [hfs, hv];rfl
 ·exact ok_one hres rfl (okWide_bool_mk htb true)
end Go.Tx
namespace Go.Proofs.YtbcdgfgacigaoaaGreat
open Go Go.Ab Go.Tx
theorem own : ownKnob Tryz.prog.godebug = none := by kernel_rfl
theorem laid_out : laidOutB Tryz.prog = true := by kernel_rfl
end Go.Proofs.YtbcdgfgacigaoaaGreat
end
section
namespace Go.Tx
open Go
theorem wrap_id {n : Int} (h1 : -9223372036854775808 <= n) (h2 : n <= 9223372036854775807) : IntKind.wrap .i64 n = n := by
 rw [IntKind.wrap_i64]; omega
theorem idx_zero {α : Type} (l : List α) : idx l 0 = l[0]? := by simp [idx]
theorem idx_of {α : Type} {l : List α} {i : Nat} {a : α} (h : l[i]? = some a) : idx l (i : Int) = some a := by simp [idx, h]
theorem app_of {α : Type} {l l2 : List α} (h : l.length + l2.length <= 4294967296) : app l l2 = some (l ++ l2) := by simp [app, h]
section
variable {σ ρ : Type} {f : σ -> Option (σ ⊕ ρ)}
theorem loopN_mono : ∀ {n m : Nat} {s : σ} {r : ρ}, loopN f n s = some r -> n <= m -> loopN f m s = some r
 | 0, m, s, r, h, _ => by simp [loopN] at h
 | n + 1, 0, s, r, h, hm => by omega
 | n + 1, m + 1, s, r, h, hm => by
  simp only [loopN] at h ⊢;cases hf : f s with
  | none => rw [hf] at h; cases h
  | some x =>
   rw [hf] at h;cases x with
   | inl s' => exact loopN_mono h (by omega)
   | inr r' => exact h
theorem loopO_of {n : Nat} {s : σ} {r : ρ} (h : loopN f n s = some r) : loopO f s = some r := by
 have hex : ∃ n r, loopN f n s = some r := ⟨n, r, h⟩
 cases hl : loopO f s with
 | none => exfalso; unfold loopO at hl; rw [dif_pos hex] at hl; cases hl
 | some r' =>
  obtain ⟨m, hm⟩ := loopO_some hl;have h1 := loopN_mono h (Nat.le_max_left n m);have h2 := loopN_mono hm (Nat.le_max_right n m);rw [<- h1, <- h2]
theorem loopO_inl {s s' : σ} (h : f s = some (.inl s')) : loopO f s = loopO f s' := by
 cases hl : loopO f s' with
 | some r =>
  obtain ⟨n, hn⟩ := loopO_some hl;exact loopO_of (n := n + 1) (by simp [loopN, h, hn])
 | none =>
  cases hl2 : loopO f s with
  | none => rfl
  | some r =>
   obtain ⟨n, hn⟩ := loopO_some hl2;cases n with
   | zero => simp [loopN] at hn
   | succ n =>
    simp only [loopN, h] at hn;rw [loopO_of hn] at hl;cases hl
theorem loopO_inr {s : σ} {r : ρ} (h : f s = some (.inr r)) : loopO f s = some r := loopO_of (n := 1) (by simp [loopN, h])
theorem loop_inv (n : Nat) (I : Nat -> σ -> Prop) (Q : ρ -> Prop)
  (hs : ∀ i s, i <= n -> I i s -> (∃ s', f s = some (.inl s') /\ i < n /\ I (i + 1) s') \/ (∃ r, f s = some (.inr r) /\ Q r)) {s : σ} (h0 : I 0 s) : ∃ r, loopO f s = some r /\ Q r := by
 have h : ∀ k i s, n - i = k -> i <= n -> I i s -> ∃ r, loopO f s = some r /\ Q r := by
  intro k;induction k with
  | zero =>
   intro i s hk hi hI;rcases hs i s hi hI with ⟨s', _, h, _⟩ | ⟨r, h, hq⟩
   ·omega
   ·exact ⟨r, loopO_inr h, hq⟩
  | succ k ih =>
   intro i s hk hi hI;rcases hs i s hi hI with ⟨s', h, hlt, hI'⟩ | ⟨r, h, hq⟩
   ·obtain ⟨r, hr, hq⟩ := ih (i + 1) s' (by omega) (by omega) hI';exact ⟨r, by rw [loopO_inl h, hr], hq⟩
   ·exact ⟨r, loopO_inr h, hq⟩
 exact h n 0 s (by omega) (by omega) h0
end
def findI {α ρ : Type} (g : Nat -> α -> Option ρ) : Nat -> List α -> Option ρ
 | _, [] => none
 | k, a :: l => match g k a with
  | some r => some r
  | none => findI g (k + 1) l
def toSum {ρ : Type} : Option ρ -> Unit ⊕ ρ
 | some r => .inr r
 | none => .inl ()
def stp {ρ : Type} (i : Nat) : Option ρ -> Int ⊕ (Unit ⊕ ρ)
 | some r => .inr (.inr r)
 | none => .inl ((i : Int) + 1)
theorem loop_list {α ρ : Type} (l : List α) {f : Int -> Option (Int ⊕ (Unit ⊕ ρ))} (g : Nat -> α -> Option ρ)
  (h : ∀ (i : Nat) (a : α), l[i]? = some a -> f i = some (stp i (g i a)))
  (he : f l.length = some (.inr (.inl ()))) : loopO f 0 = some (toSum (findI g 0 l)) := by
 have key : ∀ (l2 l1 : List α), l1 ++ l2 = l -> loopO f (l1.length : Nat) = some (toSum (findI g l1.length l2)) := by
  intro l2;induction l2 with
  | nil =>
   intro l1 e;have : l1 = l := by simpa using e
   subst this;rw [loopO_inr he]; rfl
  | cons a l2 ih =>
   intro l1 e;have hi : l[l1.length]? = some a := by rw [<- e]; simp
   have hf := h _ _ hi;simp only [findI];cases hg : g l1.length a with
   | some r => rw [hg] at hf; rw [loopO_inr hf]; rfl
   | none =>
    rw [hg] at hf;rw [loopO_inl hf];have := ih (l1 ++ [a]) (by simp [e]);simpa using this
 simpa using key l [] rfl
end Go.Tx
end
section
namespace Go.Tx
open Go
def Ok {α : Type} (o : Option α) (Q : α -> Prop) : Prop := ∃ a, o = some a /\ Q a
section
variable {α β σ ρ τ : Type}
theorem ok_some {a : α} {Q : α -> Prop} : Ok (some a) Q ↔ Q a := ⟨fun ⟨_, h, hq⟩ => by cases h; exact hq, fun h => ⟨a, rfl, h⟩⟩
theorem ok_none {Q : α -> Prop} : Ok (none : Option α) Q ↔ False := ⟨fun ⟨_, h, _⟩ => (by cases h), fun h => h.elim⟩
theorem ok_eq {o : Option α} {a : α} : Ok o (fun r => r = a) ↔ o = some a := ⟨fun ⟨_, h, hq⟩ => by rw [h, hq], fun h => ⟨a, h, rfl⟩⟩
theorem Ok.eq {o : Option α} {a : α} (h : Ok o (fun r => r = a)) : o = some a := ok_eq.1 h
theorem Ok.mono {o : Option α} {P Q : α -> Prop} (h : Ok o P) (hq : ∀ a, P a -> Q a) : Ok o Q := by obtain ⟨a, h1, h2⟩ := h; exact ⟨a, h1, hq a h2⟩
theorem Ok.bind {o : Option α} {k : α -> Option β} {P : α -> Prop} {Q : β -> Prop} (h : Ok o P) (hk : ∀ a, P a -> Ok (k a) Q) : Ok (o.bind k) Q := by
 obtain ⟨a, h1, h2⟩ := h; rw [h1]; exact hk a h2
theorem ok_bind {o : Option α} {k : α -> Option β} {Q : β -> Prop} : Ok (o.bind k) Q ↔ Ok o fun a => Ok (k a) Q := by
 cases o with
 | none => simp [ok_none]
 | some a => simp [ok_some]
theorem idx_in {l : List α} {n : Int} (d : α) (h0 : 0 <= n) (h1 : n < l.length) : idx l n = some (l.getD n.toNat d) := by
 unfold idx;rw [if_pos h0];have : n.toNat < l.length := by omega
 simp [this]
theorem app_in {l l2 : List α} (h : l.length + l2.length <= 4294967296) : app l l2 = some (l ++ l2) := app_of h
theorem app_one {l : List α} {a : α} (h : l.length <= 4294967295) : app l [a] = some (l ++ [a]) := app_of (by simp; omega)
theorem app_nil {l2 : List α} (h : l2.length <= 4294967296) : app [] l2 = some l2 := by rw [app_of (by simpa using h)]; rfl
theorem slc_in {l : List α} {a b : Int} (h : 0 <= a /\ a <= b /\ b <= l.length) : slc l a b = some ((l.take b.toNat).drop a.toNat) := by unfold slc; rw [if_pos h]
theorem mkS_in {z : α} {n : Int} (h : 0 <= n /\ n <= 4294967296) : mkS z n = some (List.replicate n.toNat z) := by unfold mkS; rw [if_pos h]
def Rnd (o : Option (σ ⊕ ρ)) (I : σ -> Prop) (Q : ρ -> Prop) : Prop := Ok o fun x => match x with
 | .inl s => I s
 | .inr r => Q r
theorem rnd_inl {s : σ} {I : σ -> Prop} {Q : ρ -> Prop} : Rnd (some (.inl s)) I Q ↔ I s := ok_some
theorem rnd_inr {r : ρ} {I : σ -> Prop} {Q : ρ -> Prop} : Rnd (some (.inr r) : Option (σ ⊕ ρ)) I Q ↔ Q r := ok_some
theorem rnd_bind {o : Option α} {k : α -> Option (σ ⊕ ρ)} {I : σ -> Prop} {Q : ρ -> Prop} : Rnd (o.bind k) I Q ↔ Ok o fun a => Rnd (k a) I Q := ok_bind
theorem loop_up {f : σ -> Option (σ ⊕ ρ)} (n : Nat) (I : Nat -> σ -> Prop) (Q : ρ -> Prop) {s : σ} (h0 : I 0 s)
  (hs : ∀ i s, i <= n -> I i s -> Rnd (f s) (fun s' => i < n /\ I (i + 1) s') Q) : Ok (loopO f s) Q := by
 obtain ⟨r, h1, h2⟩ := loop_inv n I Q (fun i s hi hI => by
  obtain ⟨x, hx, h⟩ := hs i s hi hI;cases x with
  | inl s' => exact .inl ⟨s', hx, h⟩
  | inr r => exact .inr ⟨r, hx, h⟩) h0
 exact ⟨r, h1, h2⟩
theorem ok_elim {o : Option (α ⊕ β)} {k : α -> Option β} {Q : β -> Prop} : Ok (o.bind (Sum.elim k some)) Q ↔ Ok o fun x => match x with
  | .inl a => Ok (k a) Q
  | .inr b => Q b := by
 rw [ok_bind];cases o with
 | none => simp [ok_none]
 | some x => cases x <;> simp [ok_some]
end
theorem getD_at {α : Type} {l : List α} {i : Nat} {a d : α} (h : l[i]? = some a) : l.getD i d = a := by simp [h]
theorem take_next {α : Type} {l : List α} {i : Nat} (d : α) (h : i < l.length) : l.take (i + 1) = l.take i ++ [l.getD i d] := by
 rw [List.take_add_one]; simp [h]
end Go.Tx
end
section
namespace Go.Tx
open Go
section
variable {α β ρ τ : Type}
theorem len_lt {l : List α} {i : Nat} {a : α} (h : l[i]? = some a) : i < l.length := (List.getElem?_eq_some_iff.1 h).1
theorem for_find (l : List α) (K : Int -> Option (Int ⊕ (Unit ⊕ ρ))) (g : Nat -> α -> Option ρ) (h : ∀ (i : Nat) (a : α), l[i]? = some a -> K i = some (stp i (g i a))) :
  loopO (fun s => bif decide (s < (l.length : Int)) then K s else some (.inr (.inl ()))) 0 = some (toSum (findI g 0 l)) := by
 refine loop_list l g (fun i a hi => ?_) ?_
 ·have := len_lt hi;have e : decide ((i : Int) < (l.length : Int)) = true := by simp <;> omega
  simp only [e, cond_true];exact h i a hi
 ·simp
theorem elim_toSum {o : Option ρ} {k : Unit -> Option ρ} : (some (toSum o)).bind (Sum.elim k some) = (match o with
  | some r => some r
  | none => k ()) := by cases o <;> rfl
theorem findI_none {g : Nat -> α -> Option ρ} : ∀ {l : List α} {k : Nat}, findI g k l = none ↔ ∀ i a, l[i]? = some a -> g (k + i) a = none
 | [], k => by simp [findI]
 | a :: l, k => by
  simp only [findI];cases hg : g k a with
  | some r =>
   simp only [reduceCtorEq, false_iff];intro h;have := h 0 a rfl;simp [hg] at this
  | none =>
   simp only
   rw [findI_none (l := l) (k := k + 1)];constructor
   ·intro h i b hb;cases i with
    | zero => simp at hb; subst hb; simpa using hg
    | succ i => have := h i b (by simpa using hb); rw [<- this]; congr 1; omega
   ·intro h i b hb;have := h (i + 1) b (by simpa using hb);rw [<- this]; congr 1; omega
theorem findI_some {g : Nat -> α -> Option ρ} {r : ρ} : ∀ {l : List α} {k : Nat}, findI g k l = some r -> ∃ i a, l[i]? = some a /\ g (k + i) a = some r /\ ∀ j b, j < i -> l[j]? = some b -> g (k + j) b = none
 | [], k, h => by simp [findI] at h
 | a :: l, k, h => by
  simp only [findI] at h;cases hg : g k a with
  | some r' =>
   rw [hg] at h;simp only [Option.some.injEq] at h;subst h;exact ⟨0, a, rfl, by simpa using hg, fun j b hj => by omega⟩
  | none =>
   rw [hg] at h;obtain ⟨i, b, h1, h2, h3⟩ := findI_some (l := l) (k := k + 1) h;refine ⟨i + 1, b, by simpa using h1, by rw [<- h2]; congr 1; omega, fun j c hj hc => ?_⟩;cases j with
   | zero => simp at hc; subst hc; simpa using hg
   | succ j => have := h3 j c (by omega) (by simpa using hc); rw [<- this]; congr 1; omega
theorem for_any (l : List α) (pf : α -> Option Bool) (p : α -> Bool) (h : ∀ x ∈ l, pf x = some (p x)) (hl : l.length <= 1000000000) :
  ((loopO (fun (s2 : Int) =>
   bif decide (s2 < (l.length : Int)) then
    (idx l s2).bind fun x3 =>
    (pf x3).bind fun x4 =>
    bif x4 then
     some (.inr (.inr s2))
    else
     some (.inl (IntKind.wrap .i64 (s2 + 1)))
   else
    some (.inr (.inl ()))) 0).bind (Sum.elim (fun (p5 : Unit) =>
  some (-1)) some)).bind (fun x1 => some (decide (x1 >= 0))) = some (l.any p) := by
 rw [for_find l _ (fun i a => if p a then some (i : Int) else none) (fun i a hi => by
  have := len_lt hi;rw [idx_of hi];simp only [Option.bind_some];rw [h a (List.mem_of_getElem? hi)];simp only [Option.bind_some];cases hp : p a
  ·simp only [cond_false, Bool.false_eq_true, if_false, stp]; rw [wrap_id (by omega) (by omega)]
  ·simp [stp]), elim_toSum]
 cases hf : findI (fun i a => if p a then some (i : Int) else none) 0 l with
 | none =>
  rw [findI_none] at hf;have : l.any p = false := by
   rw [List.any_eq_false];intro x hx;obtain ⟨i, hi⟩ := List.mem_iff_getElem?.1 hx;have := hf i x hi;simpa using this
  rw [this]; rfl
 | some r =>
  obtain ⟨i, a, h1, h2, _⟩ := findI_some hf;have hp : p a = true := by
   cases hp : p a
   ·simp [hp] at h2
   ·rfl
  have : l.any p = true := List.any_eq_true.2 ⟨a, List.mem_of_getElem? h1, hp⟩;rw [this];simp only [hp, if_true, Option.some.injEq] at h2;simp only [Option.bind_some];have : decide (r >= 0) = true := by simp <;> omega
  rw [this]
def fst0 : List Int -> Int
 | [] => 0
 | e :: l => if e = 0 then fst0 l else e
theorem findI_fst0 : ∀ (l : List Int) (k : Nat), findI (fun _ e => if e = 0 then none else some e) k l = if fst0 l = 0 then none else some (fst0 l)
 | [], k => rfl
 | e :: l, k => by
  simp only [findI, fst0];by_cases h : e = 0
  ·simp only [h, if_true]; exact findI_fst0 l (k + 1)
  ·simp [h]
theorem for_first (l : List Int) (hl : l.length <= 1000000000) :
  (loopO (fun (s2 : Int) =>
   bif decide (s2 < (l.length : Int)) then
    (idx l s2).bind fun x3 =>
    bif !(decide (x3 = 0)) then
     some (.inr (.inr x3))
    else
     some (.inl (IntKind.wrap .i64 (s2 + 1)))
   else
    some (.inr (.inl ()))) 0).bind (Sum.elim (fun (p4 : Unit) => some 0) some) = some (fst0 l) := by
 rw [for_find l _ (fun _ e => if e = 0 then none else some e) (fun i a hi => by
  have := len_lt hi;rw [idx_of hi];simp only [Option.bind_some];by_cases h : a = 0
  ·simp only [h, decide_true, Bool.not_true, cond_false, if_true, stp]; rw [wrap_id (by omega) (by omega)]
  ·simp [h, stp]), elim_toSum, findI_fst0]
 by_cases h : fst0 l = 0
 ·simp [h]
 ·simp [h]
end
end Go.Tx
end
section
namespace Go.Tx
open Go
theorem euclid_loop {f : Int × Int -> Option ((Int × Int) ⊕ Int)} (hf : ∀ s, f s = if s.2 = 0 then some (.inr s.1) else some (.inl (s.2, s.1.tmod s.2))) : ∀ (n : Nat) (a b : Int), b.natAbs <= n -> ∃ r, loopO f (a, b) = some r /\ r.natAbs = Int.gcd a b := by
 intro n;induction n with
 | zero =>
  intro a b hb;have : b = 0 := by omega
  subst this;exact ⟨a, loopO_inr (by rw [hf]; simp), by simp⟩
 | succ n ih =>
  intro a b hb;by_cases h0 : b = 0
  ·subst h0;exact ⟨a, loopO_inr (by rw [hf]; simp), by simp⟩
  ·have hlt : (a.tmod b).natAbs < b.natAbs := by
    rw [Int.natAbs_tmod]; exact Nat.mod_lt _ (by omega)
   obtain ⟨r, h1, h2⟩ := ih b (a.tmod b) (by omega);refine ⟨r, by rw [loopO_inl (s' := (b, a.tmod b)) (by rw [hf]; simp [h0])]; exact h1, ?_⟩;rw [h2];unfold Int.gcd;rw [Int.natAbs_tmod, Nat.gcd_comm, <- Nat.gcd_rec, Nat.gcd_comm]
def gcdF : Nat -> List Int -> Nat
 | g, [] => g
 | g, n :: l => gcdF (Nat.gcd g n.natAbs) l
def gcdL (l : List Int) : Nat := gcdF 0 l
theorem gcdF_snoc (g : Nat) (n : Int) : ∀ (l : List Int), gcdF g (l ++ [n]) = Nat.gcd (gcdF g l) n.natAbs := by
 intro l;induction l generalizing g with
 | nil => rfl
 | cons m l ih => simp only [List.cons_append, gcdF]; exact ih _
theorem gcdL_two (a b : Int) : gcdL [a, b] = Int.gcd a b := by simp [gcdL, gcdF, Int.gcd]
theorem gcdL_three (a b c : Int) : gcdL [a, b, c] = Nat.gcd (Int.gcd a b) c.natAbs := by simp [gcdL, gcdF, Int.gcd]
theorem gcdF_le {B : Nat} : ∀ {l : List Int} {g : Nat}, g <= B -> (∀ x ∈ l, x.natAbs <= B) -> gcdF g l <= B
 | [], g, hg, _ => hg
 | n :: l, g, hg, h => by
  simp only [gcdF];refine gcdF_le ?_ fun x hx => h x (by simp [hx]);have h1 := h n (by simp);by_cases hg0 : g = 0
  ·subst hg0; simpa using h1
  ·exact Nat.le_trans (Nat.le_of_dvd (by omega) (Nat.gcd_dvd_left g n.natAbs)) hg
theorem gcdF_zero : ∀ {l : List Int} {g : Nat}, gcdF g l = 0 ↔ g = 0 /\ ∀ x ∈ l, x = 0
 | [], g => by simp [gcdF]
 | n :: l, g => by
  simp only [gcdF, gcdF_zero (l := l), Nat.gcd_eq_zero_iff, List.mem_cons, forall_eq_or_imp];constructor
  ·rintro ⟨⟨h1, h2⟩, h3⟩; exact ⟨h1, by omega, h3⟩
  ·rintro ⟨h1, h2, h3⟩; exact ⟨⟨h1, by omega⟩, h3⟩
theorem gcdF_dvd_start : ∀ (l : List Int) (g : Nat), gcdF g l ∣ g
 | [], g => Nat.dvd_refl g
 | n :: l, g => Nat.dvd_trans (gcdF_dvd_start l _) (Nat.gcd_dvd_left ..)
theorem gcdF_dvd : ∀ {l : List Int} {g : Nat} {x : Int}, x ∈ l -> ((gcdF g l : Nat) : Int) ∣ x
 | n :: l, g, x, hx => by
  rcases List.mem_cons.1 hx with rfl | hx
  ·have h1 := Nat.dvd_trans (gcdF_dvd_start l (Nat.gcd g x.natAbs)) (Nat.gcd_dvd_right ..);exact Int.ofNat_dvd_left.2 h1
  ·exact gcdF_dvd (l := l) hx
theorem dvd_gcdF {d : Nat} : ∀ {l : List Int} {g : Nat}, d ∣ g -> (∀ x ∈ l, (d : Int) ∣ x) -> d ∣ gcdF g l
 | [], g, hg, _ => hg
 | n :: l, g, hg, h => dvd_gcdF (l := l) (Nat.dvd_gcd hg (Int.ofNat_dvd_left.1 (h n (by simp)))) fun x hx => h x (by simp [hx])
theorem divisor_loop (l : List Int) (hl : l.length <= 1000000000) (hb : ∀ x ∈ l, x.natAbs <= 4611686018427387904) :
  (loopO (fun (s2 : (Int × Int)) =>
   bif decide (s2.2 < (l.length : Int)) then
    (idx l s2.2).bind fun x3 =>
    (loopO (fun (s5 : (Int × Int)) =>
      bif !(decide (s5.2 = 0)) then
       bif decide (s5.2 = 0) then
        none
       else
        some (.inl (s5.2, s5.1.tmod s5.2))
      else
       some (.inr s5.1)) (s2.1, x3)).bind fun (p6 : Int) =>
    some (.inl (p6, IntKind.wrap .i64 (s2.2 + 1)))
   else
    some (.inr s2.1)) (0, 0)).bind (fun (p7 : Int) => some (max p7 (IntKind.wrap .i64 (0 - p7)))) = some (gcdL l : Int) := by
 refine Ok.eq ?_;rw [ok_bind];refine (loop_up l.length (fun i (s : Int × Int) => s.2 = (i : Int) /\ s.1.natAbs = gcdL (l.take i)) (fun r : Int => r.natAbs = gcdL l) ⟨rfl, rfl⟩ ?_).mono ?_
 ·rintro i ⟨g, s⟩ hi ⟨h1, h2⟩;simp only at h1 h2;subst h1;by_cases hlt : i < l.length
  ·have e0 : decide ((i : Int) < (l.length : Int)) = true := by simp <;> omega
   simp only [e0, cond_true];rw [idx_in 0 (by omega) (by omega)];simp only [Option.bind_some, Int.toNat_natCast];obtain ⟨r, h3, h4⟩ := euclid_loop (f := fun (s5 : (Int × Int)) => bif !(decide (s5.2 = 0)) then bif decide (s5.2 = 0) then none else some (.inl (s5.2, s5.1.tmod s5.2)) else some (.inr s5.1)) (fun s => by
    by_cases h : s.2 = 0 <;> simp [h]) (l.getD i 0).natAbs g (l.getD i 0) (Nat.le_refl _)
   rw [h3];simp only [Option.bind_some];rw [wrap_id (by omega) (by omega), rnd_inl];refine ⟨hlt, by simp, ?_⟩;rw [h4, take_next 0 hlt];unfold gcdL at h2 ⊢;rw [gcdF_snoc, <- h2];rfl
  ·have : i = l.length := by omega
   subst this;have e0 : decide ((l.length : Int) < (l.length : Int)) = false := by simp
   simp only [e0, cond_false];rw [rnd_inr];simpa using h2
 ·intro r hr;have hle : gcdL l <= 4611686018427387904 := gcdF_le (by omega) hb;rw [wrap_id (by omega) (by omega), ok_some];omega
end Go.Tx
end
section
namespace Go.Tx
open Go
section
variable {α : Type}
theorem sq_nonneg (z : Int) : 0 <= z * z := by
 rcases Int.le_total 0 z with hz | hz
 ·exact Int.mul_nonneg hz hz
 ·have := Int.mul_nonneg (show 0 <= -z by omega) (show 0 <= -z by omega); rwa [Int.neg_mul_neg] at this
theorem sq_zero {z : Int} (h : z * z = 0) : z = 0 := by
 rcases Int.mul_eq_zero.1 h with h | h <;> exact h
theorem abs_mul_le {a b A B : Int} (h1 : -A <= a /\ a <= A) (h2 : -B <= b /\ b <= B) : -(A * B) <= a * b /\ a * b <= A * B := by
 have hA : 0 <= A := by omega
 have hB : 0 <= B := by omega
 have e : (a * b).natAbs = a.natAbs * b.natAbs := Int.natAbs_mul a b;have h3 : a.natAbs * b.natAbs <= A.natAbs * B.natAbs := Nat.mul_le_mul (by omega) (by omega);have h4 : ((A.natAbs * B.natAbs : Nat) : Int) = A * B := by
  rw [Int.natCast_mul]; congr 1 <;> omega
 omega
end
end Go.Tx
end
section
namespace Go.Tx
open Go
section
variable {α β : Type}
def mkL (n : Nat) (f : Nat -> α) : List α := (List.range n).map f
theorem mkL_len (n : Nat) (f : Nat -> α) : (mkL n f).length = n := by simp [mkL]
theorem mkL_get {n : Nat} (f : Nat -> α) {k : Nat} (h : k < n) : (mkL n f)[k]? = some (f k) := by simp [mkL, h]
theorem mkL_getD {n : Nat} (f : Nat -> α) {k : Nat} (d : α) (h : k < n) : (mkL n f).getD k d = f k := getD_at (mkL_get f h)
theorem mkL_zero (f : Nat -> α) : mkL 0 f = [] := rfl
theorem mkL_succ (n : Nat) (f : Nat -> α) : mkL (n + 1) f = mkL n f ++ [f n] := by simp [mkL, List.range_succ]
theorem mkL_congr {n : Nat} {f g : Nat -> α} (h : ∀ k, k < n -> f k = g k) : mkL n f = mkL n g := List.map_congr_left fun k hk => h k (by simpa using hk)
theorem mkL_mem {n : Nat} {f : Nat -> α} {x : α} (h : x ∈ mkL n f) : ∃ k, k < n /\ x = f k := by
 obtain ⟨k, hk, rfl⟩ := List.mem_map.1 h;exact ⟨k, by simpa using hk, rfl⟩
theorem mem_mkL {n : Nat} {f : Nat -> α} {k : Nat} (h : k < n) : f k ∈ mkL n f := List.mem_map.2 ⟨k, by simpa using h, rfl⟩
theorem mkL_of {l : List α} {n : Nat} {f : Nat -> α} (hl : l.length = n) (h : ∀ k, k < n -> l[k]? = some (f k)) : l = mkL n f := by
 apply List.ext_getElem?;intro k;by_cases hk : k < n
 ·rw [mkL_get _ hk, h k hk]
 ·rw [List.getElem?_eq_none (by omega), List.getElem?_eq_none (by rw [mkL_len]; omega)]
theorem getD_mem {l : List α} {i : Nat} {d : α} (h : i < l.length) : l.getD i d ∈ l := by
 have : l[i]? = some (l.getD i d) := by simp [h]
 exact List.mem_of_getElem? this
theorem at_getD {l : List α} {i : Nat} (d : α) (h : i < l.length) : l[i]? = some (l.getD i d) := by simp [h]
theorem for_mk {K : List β × Int -> Option ((List β × Int) ⊕ List β)} (n : Nat) (f : Nat -> β)
  (h : ∀ i, i < n -> K (mkL i f, (i : Int)) = some (.inl (mkL i f ++ [f i], (i : Int) + 1))) (he : K (mkL n f, (n : Int)) = some (.inr (mkL n f))) : loopO K ([], 0) = some (mkL n f) := by
 refine Ok.eq (loop_up n (fun i (s : List β × Int) => s = (mkL i f, (i : Int))) (fun r => r = mkL n f) rfl ?_);rintro i s hi rfl;by_cases hlt : i < n
 ·rw [h i hlt, rnd_inl];exact ⟨hlt, by rw [mkL_succ]; rfl⟩
 ·have : i = n := by omega
  subst this;rw [he, rnd_inr]
theorem for_map {K : List β × Int -> Option ((List β × Int) ⊕ List β)} (l : List α) (f : α -> β)
  (h : ∀ (i : Nat) a out, l[i]? = some a -> out.length = i -> K (out, (i : Int)) = some (.inl (out ++ [f a], (i : Int) + 1))) (he : ∀ out, out.length = l.length -> K (out, (l.length : Int)) = some (.inr out)) : loopO K ([], 0) = some (l.map f) := by
 refine Ok.eq (loop_up l.length (fun i (s : List β × Int) => s = ((l.take i).map f, (i : Int))) (fun r => r = l.map f) (by simp) ?_);rintro i s hi rfl;by_cases hlt : i < l.length
 ·have ha : l[i]? = some l[i] := by simp [hlt]
  rw [h i _ _ ha (by simp; omega), rnd_inl];refine ⟨hlt, ?_⟩;have e : (l.take (i + 1)).map f = (l.take i).map f ++ [f l[i]] := by rw [List.take_add_one, ha]; simp only [List.map_append, Option.toList_some, List.map_cons, List.map_nil]
  rw [e]; rfl
 ·have : i = l.length := by omega
  subst this;rw [he _ (by simp), rnd_inr];simp
end
end Go.Tx
end
section
namespace Go.Tx
open Go
abbrev G := Int × Int × Unit
def g0 : G := (0, 0, ())
def g1 : G := (1, 0, ())
def gadd (a b : G) : G := (a.1 + b.1, a.2.1 + b.2.1, ())
def gsub (a b : G) : G := (a.1 - b.1, a.2.1 - b.2.1, ())
def gmul (a b : G) : G := (a.1 * b.1 - a.2.1 * b.2.1, a.1 * b.2.1 + a.2.1 * b.1, ())
def gneg (a : G) : G := (-a.1, -a.2.1, ())
def gconj (a : G) : G := (a.1, -a.2.1, ())
theorem gext {a b : G} (h1 : a.1 = b.1) (h2 : a.2.1 = b.2.1) : a = b := by
 obtain ⟨x, y, _⟩ := a; obtain ⟨x', y', _⟩ := b; simp only at h1 h2; rw [h1, h2]
theorem gext_iff {a b : G} : a = b ↔ a.1 = b.1 /\ a.2.1 = b.2.1 := ⟨fun h => by rw [h]; exact ⟨rfl, rfl⟩, fun h => gext h.1 h.2⟩
theorem geta (a : G) : (a.1, a.2.1, ()) = a := rfl
def Bd (B : Int) (a : G) : Prop := (-B <= a.1 /\ a.1 <= B) /\ (-B <= a.2.1 /\ a.2.1 <= B)
theorem Bd.mono {A B : Int} {a : G} (h : Bd A a) (hAB : A <= B) : Bd B a := by unfold Bd at *; omega
theorem bd_zero {B : Int} (h : 0 <= B) : Bd B g0 := by unfold Bd g0; simp <;> omega
theorem bd_one {B : Int} (h : 1 <= B) : Bd B g1 := by unfold Bd g1; simp <;> omega
theorem Bd.add {A B : Int} {a b : G} (h : Bd A a) (h' : Bd B b) : Bd (A + B) (gadd a b) := by unfold Bd gadd at *; simp only <;> omega
theorem Bd.sub {A B : Int} {a b : G} (h : Bd A a) (h' : Bd B b) : Bd (A + B) (gsub a b) := by unfold Bd gsub at *; simp only <;> omega
theorem Bd.neg {A : Int} {a : G} (h : Bd A a) : Bd A (gneg a) := by unfold Bd gneg at *; simp only <;> omega
theorem Bd.conj {A : Int} {a : G} (h : Bd A a) : Bd A (gconj a) := by unfold Bd gconj at *; simp only <;> omega
theorem Bd.mul {A B : Int} {a b : G} (h : Bd A a) (h' : Bd B b) : Bd (2 * (A * B)) (gmul a b) := by
 obtain ⟨h1, h2⟩ := h;obtain ⟨h3, h4⟩ := h';have p1 := abs_mul_le h1 h3;have p2 := abs_mul_le h2 h4;have p3 := abs_mul_le h1 h4;have p4 := abs_mul_le h2 h3;unfold Bd gmul;simp only
 generalize A * B = Q at *;omega
theorem w64n {n : Int} (h1 : -9223372036854775808 <= n) (h2 : n <= 9223372036854775807) : IntKind.wrap .i64 n = n := wrap_id h1 h2
theorem mul_w {A B : Int} {a b : G} (h : Bd A a) (h' : Bd B b) (hb : 2 * (A * B) <= 9000000000000000000) :
  ((IntKind.wrap .i64 (IntKind.wrap .i64 (a.1 * b.1) - IntKind.wrap .i64 (a.2.1 * b.2.1)), IntKind.wrap .i64 (IntKind.wrap .i64 (a.1 * b.2.1) + IntKind.wrap .i64 (a.2.1 * b.1)), ()) : G) = gmul a b := by
 obtain ⟨h1, h2⟩ := h;obtain ⟨h3, h4⟩ := h';have p1 := abs_mul_le h1 h3;have p2 := abs_mul_le h2 h4;have p3 := abs_mul_le h1 h4;have p4 := abs_mul_le h2 h3;unfold gmul;generalize A * B = Q at *;rw [w64n (n := a.1 * b.1) (by omega) (by omega), w64n (n := a.2.1 * b.2.1) (by omega) (by omega), w64n (n := a.1 * b.2.1) (by omega) (by omega), w64n (n := a.2.1 * b.1) (by omega) (by omega), w64n (by omega) (by omega), w64n (by omega) (by omega)]
theorem add_w {A B : Int} {a b : G} (h : Bd A a) (h' : Bd B b) (hb : A + B <= 9000000000000000000) :
  ((IntKind.wrap .i64 (a.1 + b.1), IntKind.wrap .i64 (a.2.1 + b.2.1), ()) : G) = gadd a b := by
 unfold Bd at h h';unfold gadd;rw [w64n (by omega) (by omega), w64n (by omega) (by omega)]
theorem sub_w {A B : Int} {a b : G} (h : Bd A a) (h' : Bd B b) (hb : A + B <= 9000000000000000000) :
  ((IntKind.wrap .i64 (a.1 - b.1), IntKind.wrap .i64 (a.2.1 - b.2.1), ()) : G) = gsub a b := by
 unfold Bd at h h';unfold gsub;rw [w64n (by omega) (by omega), w64n (by omega) (by omega)]
theorem gadd_zero (a : G) : gadd a g0 = a := gext (by simp [gadd, g0]) (by simp [gadd, g0])
theorem gzero_add (a : G) : gadd g0 a = a := gext (by simp [gadd, g0]) (by simp [gadd, g0])
theorem gmul_comm (a b : G) : gmul a b = gmul b a := gext (by simp only [gmul]; grind) (by simp only [gmul]; grind)
theorem gmul_assoc (a b c : G) : gmul (gmul a b) c = gmul a (gmul b c) := gext (by simp only [gmul]; grind) (by simp only [gmul]; grind)
theorem gadd_mul (a b c : G) : gmul (gadd a b) c = gadd (gmul a c) (gmul b c) := gext (by simp only [gmul, gadd]; grind) (by simp only [gmul, gadd]; grind)
theorem gzero_mul (a : G) : gmul g0 a = g0 := gext (by simp [gmul, g0]) (by simp [gmul, g0])
theorem gmul_one (a : G) : gmul a g1 = a := gext (by simp [gmul, g1]) (by simp [gmul, g1])
theorem gsub_eq (a b : G) : gsub a b = gadd a (gneg b) := gext (by simp only [gsub, gadd, gneg]; omega) (by simp only [gsub, gadd, gneg]; omega)
theorem gzero_sub (a : G) : gsub g0 a = gneg a := gext (by simp [gsub, gneg, g0]) (by simp [gsub, gneg, g0])
def sumG : Nat -> (Nat -> G) -> G
 | 0, _ => g0
 | n + 1, f => gadd (sumG n f) (f n)
theorem sumG_congr {n : Nat} {f h : Nat -> G} (e : ∀ k, k < n -> f k = h k) : sumG n f = sumG n h := by
 induction n with
 | zero => rfl
 | succ n ih => simp only [sumG]; rw [ih fun k hk => e k (by omega), e n (by omega)]
theorem Bd.sum {B : Int} {f : Nat -> G} : ∀ {n : Nat}, (∀ k, k < n -> Bd B (f k)) -> Bd (n * B) (sumG n f)
 | 0, _ => bd_zero (by simp)
 | n + 1, h => by
  have h1 := Bd.sum (n := n) fun k hk => h k (by omega);have e : ((n + 1 : Nat) : Int) * B = n * B + B := by rw [Int.natCast_add, Int.add_mul]; simp
  rw [e];exact h1.add (h n (by omega))
theorem sum_loop (n : Nat) (hn : n <= 1000) {A : Int} (hA : 0 <= A) (hAn : n * A <= 9000000000000000000) (f : Nat -> G) (hf : ∀ k, k < n -> Bd A (f k)) {K : Int × Int × Int -> Option ((Int × Int × Int) ⊕ (Int × Int))}
  (h : ∀ k, k < n -> ∀ a b : Int, Bd (k * A) (a, b, ()) -> K ((k : Int), a, b) = some (.inl (IntKind.wrap .i64 ((k : Int) + 1), (gadd (a, b, ()) (f k)).1, (gadd (a, b, ()) (f k)).2.1)))
  (he : ∀ a b : Int, K ((n : Int), a, b) = some (.inr (a, b))) : loopO K (0, 0, 0) = some ((sumG n f).1, (sumG n f).2.1) := by
 refine Ok.eq (loop_up n (fun i (s : Int × Int × Int) => s = ((i : Int), (sumG i f).1, (sumG i f).2.1)) (fun r => r = ((sumG n f).1, (sumG n f).2.1)) rfl ?_);rintro i s hi rfl;by_cases hlt : i < n
 ·have hb : Bd (i * A) (sumG i f) := Bd.sum fun k hk => hf k (by omega);rw [h i hlt _ _ hb, w64n (by omega) (by omega), rnd_inl];exact ⟨hlt, rfl⟩
 ·have : i = n := by omega
  subst this;rw [he, rnd_inr]
abbrev Mx := List (List G)
def mx (n c : Nat) (f : Nat -> Nat -> G) : Mx := mkL n fun i => mkL c fun k => f i k
def ent (m : Mx) (i k : Nat) : G := (m.getD i []).getD k g0
def Rect (n c : Nat) (m : Mx) : Prop := m.length = n /\ ∀ r ∈ m, r.length = c
theorem mx_len (n c : Nat) (f : Nat -> Nat -> G) : (mx n c f).length = n := mkL_len _ _
theorem mx_at {n c i : Nat} (f : Nat -> Nat -> G) (h : i < n) : (mx n c f)[i]? = some (mkL c fun k => f i k) := mkL_get _ h
theorem mx_rect (n c : Nat) (f : Nat -> Nat -> G) : Rect n c (mx n c f) := ⟨mx_len _ _ _, fun r hr => by obtain ⟨i, hi, rfl⟩ := mkL_mem hr; exact mkL_len _ _⟩
def BdM (B : Int) (m : Mx) : Prop := ∀ r ∈ m, ∀ z ∈ r, Bd B z
def BdF (B : Int) (n c : Nat) (f : Nat -> Nat -> G) : Prop := ∀ i k, i < n -> k < c -> Bd B (f i k)
theorem bdM_mx {B : Int} {n c : Nat} {f : Nat -> Nat -> G} : BdM B (mx n c f) ↔ BdF B n c f := by
 constructor
 ·intro h i k hi hk;exact h _ (mem_mkL (f := fun i => mkL c fun k => f i k) hi) _ (mem_mkL (f := fun k => f i k) hk)
 ·intro h r hr z hz;obtain ⟨i, hi, rfl⟩ := mkL_mem hr;obtain ⟨k, hk, rfl⟩ := mkL_mem hz;exact h i k hi hk
theorem made_loop (n c : Nat) (hn : n <= 1000) (hc : c <= 1000) (ask : Int -> Int -> Option G) (f : Nat -> Nat -> G) (h : ∀ i k, i < n -> k < c -> ask i k = some (f i k)) :
  ((mkS ([] : List G) (n : Int)).bind fun x1 =>
   bif decide ((n : Int) = (n : Int)) then
    (loopO (fun (s3 : (Mx × Int)) =>
      bif decide (s3.2 < (x1.length : Int)) then
       (loopO (fun (s5 : (Mx × Int)) =>
         bif decide (s5.2 < (c : Int)) then
          (idx s5.1 s3.2).bind fun x6 =>
          (ask s3.2 s5.2).bind fun x7 =>
          (idx s5.1 s3.2).bind fun x8 =>
          (app x8 ([x7])).bind fun x9 =>
          (idx s5.1 s3.2).bind fun x10 =>
          bif decide (s3.2 = s3.2) then
           let l11 : Mx := List.set s5.1 s3.2.toNat x9
           some (.inl (l11, IntKind.wrap .i64 (s5.2 + 1)))
          else
           none
         else
          some (.inr s5.1)) (s3.1, 0)).bind fun (p12 : Mx) =>
       some (.inl (p12, IntKind.wrap .i64 (s3.2 + 1)))
      else
       some (.inr s3.1)) (x1, 0)).bind fun (p13 : Mx) =>
    some p13
   else
    none) = some (mx n c f) := by
 have e1 : decide ((n : Int) = (n : Int)) = true := by simp
 rw [mkS_in (by omega), Option.bind_some, e1, cond_true];have hlen : (List.replicate ((n : Int).toNat) ([] : List G)).length = n := by simp
 rw [hlen];let row (i : Nat) : List G := mkL c fun k => f i k
 refine Ok.eq ?_;rw [ok_bind];refine (loop_up n (fun i (s : Mx × Int) => s = (mkL n fun j => if j < i then row j else [], (i : Int))) (fun r => r = mx n c f) ?_ ?_).mono (fun a ha => by rw [ha]; exact ok_some.2 rfl)
 ·congr 1
  refine (mkL_of (by simp) fun k hk => ?_);simp [hk]
 ·rintro i s hi rfl;by_cases hlt : i < n
  ·have e0 : decide ((i : Int) < (n : Int)) = true := by simp <;> omega
   simp only [e0, cond_true];rw [rnd_bind];refine (loop_up c (fun k (s : Mx × Int) => s = (mkL n fun j => if j < i then row j else if j = i then (row i).take k else [], (k : Int))) (fun r => r = mkL n fun j => if j < i + 1 then row j else []) ?_ ?_).mono ?_
   ·congr 1
    refine mkL_congr fun j hj => ?_;by_cases c1 : j < i
    ·rw [if_pos c1, if_pos c1]
    ·rw [if_neg c1, if_neg c1]; simp
   ·rintro k s hk rfl;by_cases hlt2 : k < c
    ·have e2 : decide ((k : Int) < (c : Int)) = true := by simp <;> omega
     have hat : idx (mkL n fun j => if j < i then row j else if j = i then (row i).take k else []) (i : Int) = some ((row i).take k) := by
      rw [idx_of (mkL_get _ hlt)];simp
     simp only [e2, cond_true, hat, Option.bind_some, h i k hlt hlt2, decide_true, Int.toNat_natCast];have hrl : (row i).length = c := mkL_len _ _;rw [app_one (by simp [hrl]; omega)];simp only [Option.bind_some];rw [w64n (by omega) (by omega), rnd_inl];refine ⟨hlt2, ?_⟩;congr 1
     refine mkL_of (by simp [mkL_len]) fun j hj => ?_;rw [List.getElem?_set, mkL_len];by_cases c1 : i = j
     ·subst c1;rw [if_pos rfl, if_pos hj];simp only [Nat.lt_irrefl, if_false, if_true];rw [take_next g0 (by rw [hrl]; exact hlt2)];have : (row i).getD k g0 = f i k := mkL_getD _ _ hlt2;rw [this]
     ·rw [if_neg c1, mkL_get _ hj];have : ¬ j = i := fun e => c1 e.symm;simp [this]
    ·have : k = c := by omega
     subst this;have e2 : decide ((k : Int) < (k : Int)) = false := by simp
     simp only [e2, cond_false];rw [rnd_inr];refine mkL_congr fun j hj => ?_;by_cases c1 : j < i
     ·rw [if_pos c1, if_pos (by omega)]
     ·rw [if_neg c1];by_cases c2 : j = i
      ·subst c2;rw [if_pos rfl, if_pos (by omega), List.take_of_length_le (by rw [show (row j).length = k from mkL_len _ _]; omega)]
      ·rw [if_neg c2, if_neg (by omega)]
   ·rintro r rfl;rw [w64n (by omega) (by omega), rnd_inl];exact ⟨hlt, rfl⟩
  ·have : i = n := by omega
   subst this;have e0 : decide ((i : Int) < (i : Int)) = false := by simp
   simp only [e0, cond_false];rw [rnd_inr];exact mkL_congr fun j hj => by rw [if_pos hj]
def skip (r i : Nat) : Nat := if i < r then i else i + 1
def minor (f : Nat -> Nat -> G) (r c i k : Nat) : G := f (skip r i) (skip c k)
theorem mkL_cut {α : Type} {n c : Nat} (f : Nat -> α) (h : c < n) : ((mkL n f).take c).drop 0 ++ ((mkL n f).take n).drop (c + 1) = mkL (n - 1) fun k => f (skip c k) := by
 refine mkL_of (by simp [mkL_len]; omega) fun k hk => ?_;have hl : (mkL n f).length = n := mkL_len _ _;rw [List.drop_zero, List.take_of_length_le (l := mkL n f) (i := n) (by omega)];unfold skip;by_cases c1 : k < c
 ·rw [List.getElem?_append_left (by rw [List.length_take]; omega), List.getElem?_take_of_lt c1, mkL_get f (by omega), if_pos c1]
 ·rw [List.getElem?_append_right (by rw [List.length_take]; omega), List.length_take, hl, Nat.min_eq_left (by omega), List.getElem?_drop, if_neg c1];rw [show c + 1 + (k - c) = k + 1 by omega, mkL_get f (by omega)]
def detF : Nat -> (Nat -> Nat -> G) -> G
 | 0, _ => g1
 | n + 1, f => sumG (n + 1) fun k => if k % 2 = 1 then gneg (gmul (f 0 k) (detF n (minor f 0 k))) else gmul (f 0 k) (detF n (minor f 0 k))
theorem minor_bd {B : Int} {n : Nat} {f : Nat -> Nat -> G} {r c : Nat} (h : BdF B (n + 1) (n + 1) f) : BdF B n n (minor f r c) := fun i k hi hk => h _ _ (by unfold skip; split <;> omega) (by unfold skip; split <;> omega)
def dB (B : Int) : Nat -> Int
 | 0 => 1
 | n + 1 => ((n + 1 : Nat) : Int) * (2 * (B * dB B n))
theorem dB_nonneg {B : Int} (h : 0 <= B) : ∀ n, 0 <= dB B n
 | 0 => by simp [dB]
 | n + 1 => by
  simp only [dB];have := Int.mul_nonneg h (dB_nonneg h n);exact Int.mul_nonneg (by omega) (by omega)
theorem detF_bd {B : Int} (hB : 0 <= B) : ∀ (n : Nat) (f : Nat -> Nat -> G), BdF B n n f -> Bd (dB B n) (detF n f)
 | 0, f, _ => bd_one (by simp [dB])
 | n + 1, f, h => by
  simp only [detF, dB];refine Bd.sum fun k hk => ?_;have h1 := (h 0 k (by omega) hk).mul (detF_bd hB n _ (minor_bd (r := 0) (c := k) h));split
  ·exact h1.neg
  ·exact h1
def prodF (n : Nat) (f h : Nat -> Nat -> G) (i k : Nat) : G := sumG n fun j => gmul (f i j) (h j k)
end Go.Tx
end
section
set_option maxRecDepth 100000
namespace Go.Proofs.YtbcdgfgacigaoaaGreat
open Go Go.Ab Go.Tx
noncomputable section
@[reducible] def I : Ty := .int .i64
@[reducible] def w64 (n : Int) : Int := IntKind.wrap .i64 n
def lookJ : List (List Tmp × FuncId × Kind × Join) -> List Tmp -> FuncId -> Kind -> Option Join
 | [], _, _, _ => none
 | (c, f, k, j) :: l, c', f', k' => if f = f' then (if k = k' then (if c = c' then some j else lookJ l c' f' k') else lookJ l c' f' k') else lookJ l c' f' k'
def awakeId : Nat := 12
def mkTH (js : List (List Tmp × FuncId × Kind × Join)) (inl : List (List Tmp × FuncId × Tmp)) : TH where
 lib := fun g => decide (g = awakeId)
 join := lookJ js
 inl := fun c f d => inl.any fun (c', f', d') => decide (f = f') && decide (d = d') && decide (c = c')
def Lb : FuncId -> Option (List V -> Option V) := fun g => if g = awakeId then some (fun args => match args with
  | [] => some (.val (.bool true))
  | _ => none) else none
theorem hJ {js : List (List Tmp × FuncId × Kind × Join)} {inl : List (List Tmp × FuncId × Tmp)} : ∀ g, (mkTH js inl).lib g = false -> Lb g = none := fun g h => by
 simp only [mkTH, decide_eq_false_iff_not] at h;simp [Lb, h]
def KT (e : Entry) (j : TH) (l : List Entry) (n : Nat) : Prop := ∀ x : denP e.ps, fnT Tryz.prog Hn.hints j (tabT l) n e.g (ofPms e.ps x) e.rs = e.F x
abbrev OT (e : Entry) : Prop := EntryOk Tryz.prog Hn.hints Lb e
theorem entK {e : Entry} {j : TH} {l : List Entry} {n : Nat} (h : TOk Tryz.prog Hn.hints Lb (tabT l)) (hj : ∀ g, j.lib g = false -> Lb g = none) (k : KT e j l n) : OT e := entry_ok h hj n e.g e.ps e.rs e.F k
abbrev gT : Ty := .pair I (.pair I .unit)
def law04_awake : Option Bool := some true
def e_law04_awake : Entry := ⟨12, [], [(.bool, 0)], fun _ => law04_awake⟩
theorem o_law04_awake : EntryOk Tryz.prog Hn.hints Lb e_law04_awake := fun x y h vs hv => by
 obtain rfl : true = y := Option.some.inj h;simp only [e_law04_awake, ofPms, RVL] at hv;subst hv;refine ⟨.val (.bool true), ⟨1, fun m hm => ?_⟩, by simp [packT, e_law04_awake, ofL, packedT, ofTy, RV, RTy]⟩;obtain ⟨m', rfl⟩ : ∃ m', m = m' + 1 := ⟨m - 1, by omega⟩
 simp [orcN, Lb, awakeId, e_law04_awake]
def law04_fewOf (a0 : (List (List (Int × Int × Unit)))) (a1 : Int) : Option Bool :=
 bif decide ((a0.length : Int) > a1) then
  some false
 else
  (loopO (fun (s2 : Int) =>
    bif decide (s2 < (a0.length : Int)) then
     (idx a0 s2).bind fun x3 =>
     bif decide ((x3.length : Int) > 5) then
      some (.inr (.inr false))
     else
      some (.inl (w64 (s2 + 1)))
    else
     some (.inr (.inl ()))) 0).bind (Sum.elim (fun (p4 : Unit) =>
  some true) some)
def e_law04_fewOf : Entry := ⟨77, [.ty (.sl (.sl gT)), .ty I], [(.bool, 0)], fun x => law04_fewOf x.1 x.2⟩
def j_law04_fewOf : TH := mkTH [([], 77, .block 0, { lv := [], ps := [], abn := true, D := ⟨4193312⟩ }),
 ([], 77, .loop 0, { lv := [⟨none, 5, 0⟩], ps := [(I, 0)], D := ⟨4193312⟩ })] []
theorem k_law04_fewOf : KT e_law04_fewOf j_law04_fewOf [] 40 := fun x => by kernel_rfl
theorem o_law04_fewOf : OT e_law04_fewOf := entK tab_nil hJ k_law04_fewOf
def law04_fewRuns (a0 : ((List (List (Int × Int × Unit))) × (List (List (Int × Int × Unit))) × Unit)) : Option Bool :=
 ((law04_fewOf a0.1 (8 : Int)).bind fun x1 =>
  bif x1 then
   (law04_fewOf a0.2.1 (8 : Int)).bind fun x2 =>
   some x2
  else
   some false).bind fun (p3 : Bool) =>
 some p3
def e_law04_fewRuns : Entry := ⟨13, [.ty (.pair (.sl (.sl gT)) (.pair (.sl (.sl gT)) .unit))], [(.bool, 0)], fun x => law04_fewRuns x⟩
def j_law04_fewRuns : TH := mkTH [([], 13, .region 1, { lv := [⟨none, 2, 0⟩], ps := [(.bool, 0)], D := ⟨2044⟩, rs := [⟨0, 1⟩], Dn := ⟨1908⟩ })] []
theorem k_law04_fewRuns : KT e_law04_fewRuns j_law04_fewRuns [e_law04_fewOf] 40 := fun x => by kernel_rfl
theorem o_law04_fewRuns : OT e_law04_fewRuns := entK (tab_cons o_law04_fewOf tab_nil) hJ k_law04_fewRuns
def base_CopyGausses (a0 : (List (Int × Int × Unit))) : Option (List (Int × Int × Unit)) :=
 (app [] a0).bind fun x1 =>
 some x1
def e_base_CopyGausses : Entry := ⟨22, [.ty (.sl gT)], [((.sl gT), 1)], fun x => base_CopyGausses x⟩
def j_base_CopyGausses : TH := mkTH [] []
theorem k_base_CopyGausses : KT e_base_CopyGausses j_base_CopyGausses [] 40 := fun x => by kernel_rfl
theorem o_base_CopyGausses : OT e_base_CopyGausses := entK tab_nil hJ k_base_CopyGausses
def ref04_CopyMatrix (a0 : (List (List (Int × Int × Unit)))) : Option (List (List (Int × Int × Unit))) :=
 (loopO (fun (s3 : ((List (List (Int × Int × Unit))) × Int)) =>
   bif decide (s3.2 < (a0.length : Int)) then
    (idx a0 s3.2).bind fun x4 =>
    (base_CopyGausses x4).bind fun x5 =>
    (app s3.1 ([x5])).bind fun x6 =>
    some (.inl (x6, w64 (s3.2 + 1)))
   else
    some (.inr s3.1)) ([], 0)).bind fun (p7 : (List (List (Int × Int × Unit)))) =>
 some p7
def e_ref04_CopyMatrix : Entry := ⟨29, [.ty (.sl (.sl gT))], [((.sl (.sl gT)), 2)], fun x => ref04_CopyMatrix x⟩
def j_ref04_CopyMatrix : TH := mkTH [([], 29, .block 0, { lv := [⟨none, 3, 0⟩], ps := [((.sl (.sl gT)), 2)], D := ⟨524280⟩ }),
 ([], 29, .loop 0, { lv := [⟨none, 3, 0⟩, ⟨none, 4, 0⟩], ps := [((.sl (.sl gT)), 2), (I, 0)], D := ⟨524280⟩ })] []
theorem k_ref04_CopyMatrix : KT e_ref04_CopyMatrix j_ref04_CopyMatrix [e_base_CopyGausses] 40 := fun x => by kernel_rfl
theorem o_ref04_CopyMatrix : OT e_ref04_CopyMatrix := entK (tab_cons o_base_CopyGausses tab_nil) hJ k_ref04_CopyMatrix
def ref04_CopyRuns (a0 : ((List (List (Int × Int × Unit))) × (List (List (Int × Int × Unit))) × Unit)) : Option ((List (List (Int × Int × Unit))) × (List (List (Int × Int × Unit))) × Unit) :=
 (ref04_CopyMatrix a0.1).bind fun x1 =>
 (ref04_CopyMatrix a0.2.1).bind fun x2 =>
 some (x1, x2, ())
def e_ref04_CopyRuns : Entry := ⟨15, [.ty (.pair (.sl (.sl gT)) (.pair (.sl (.sl gT)) .unit))], [((.pair (.sl (.sl gT)) (.pair (.sl (.sl gT)) .unit)), 2)], fun x => ref04_CopyRuns x⟩
def j_ref04_CopyRuns : TH := mkTH [] []
theorem k_ref04_CopyRuns : KT e_ref04_CopyRuns j_ref04_CopyRuns [e_ref04_CopyMatrix] 40 := fun x => by kernel_rfl
theorem o_ref04_CopyRuns : OT e_ref04_CopyRuns := entK (tab_cons o_ref04_CopyMatrix tab_nil) hJ k_ref04_CopyRuns
def drive_unless (a0 : Bool) (a1 : Int) : Option Int :=
 bif a0 then
  some 0
 else
  some a1
def e_drive_unless : Entry := ⟨80, [.ty .bool, .ty I], [(I, 0)], fun x => drive_unless x.1 x.2⟩
def j_drive_unless : TH := mkTH [] []
theorem k_drive_unless : KT e_drive_unless j_drive_unless [] 40 := fun x => by kernel_rfl
theorem o_drive_unless : OT e_drive_unless := entK tab_nil hJ k_drive_unless
def drive_first (a0 : (List Int)) : Option Int :=
 (loopO (fun (s2 : Int) =>
   bif decide (s2 < (a0.length : Int)) then
    (idx a0 s2).bind fun x3 =>
    bif !(decide (x3 = 0)) then
     some (.inr (.inr x3))
    else
     some (.inl (w64 (s2 + 1)))
   else
    some (.inr (.inl ()))) 0).bind (Sum.elim (fun (p4 : Unit) =>
 some 0) some)
def e_drive_first : Entry := ⟨79, [.ty (.sl I)], [(I, 0)], fun x => drive_first x⟩
def j_drive_first : TH := mkTH [([], 79, .block 0, { lv := [], ps := [], abn := true, D := ⟨32656⟩ }),
 ([], 79, .loop 0, { lv := [⟨none, 7, 0⟩], ps := [(I, 0)], D := ⟨32656⟩ })] []
theorem k_drive_first : KT e_drive_first j_drive_first [] 40 := fun x => by kernel_rfl
theorem o_drive_first : OT e_drive_first := entK tab_nil hJ k_drive_first
def drive_within (a0 : Int) (a1 : Int) (a2 : Int) : Option Bool :=
 (bif decide (a1 <= a0) then
   some (decide (a0 <= a2))
  else
   some false).bind fun (p1 : Bool) =>
 some p1
def e_drive_within : Entry := ⟨81, [.ty I, .ty I, .ty I], [(.bool, 0)], fun x => drive_within x.1 x.2.1 x.2.2⟩
def j_drive_within : TH := mkTH [([], 81, .region 1, { lv := [⟨none, 6, 0⟩], ps := [(.bool, 0)], D := ⟨32704⟩ })] []
theorem k_drive_within : KT e_drive_within j_drive_within [] 40 := fun x => by kernel_rfl
theorem o_drive_within : OT e_drive_within := entK tab_nil hJ k_drive_within
def drive_isSized (a0 : Int) (a1 : Int) : Option Bool :=
 (drive_within a0 (w64 (0 - a1)) a1).bind fun x1 =>
 some x1
def e_drive_isSized : Entry := ⟨152, [.ty I, .ty I], [(.bool, 0)], fun x => drive_isSized x.1 x.2⟩
def j_drive_isSized : TH := mkTH [] []
theorem k_drive_isSized : KT e_drive_isSized j_drive_isSized [e_drive_within] 40 := fun x => by kernel_rfl
theorem o_drive_isSized : OT e_drive_isSized := entK (tab_cons o_drive_within tab_nil) hJ k_drive_isSized
def drive_whole_isSized (a0 : (Int × Int × Unit)) (a1 : Int) : Option Bool :=
 ((drive_isSized a0.1 a1).bind fun x1 =>
  bif x1 then
   (drive_isSized a0.2.1 a1).bind fun x2 =>
   some x2
  else
   some false).bind fun (p3 : Bool) =>
 some p3
def e_drive_whole_isSized : Entry := ⟨105, [.ty gT, .ty I], [(.bool, 0)], fun x => drive_whole_isSized x.1 x.2⟩
def j_drive_whole_isSized : TH := mkTH [([], 105, .region 1, { lv := [⟨none, 4, 0⟩], ps := [(.bool, 0)], D := ⟨32752⟩, rs := [⟨0, 2⟩], Dn := ⟨31696⟩ })] []
theorem k_drive_whole_isSized : KT e_drive_whole_isSized j_drive_whole_isSized [e_drive_isSized] 40 := fun x => by kernel_rfl
theorem o_drive_whole_isSized : OT e_drive_whole_isSized := entK (tab_cons o_drive_isSized tab_nil) hJ k_drive_whole_isSized
def drive_openRuns_1 (a0 : (Int × Int × Unit)) : Option Bool :=
 (drive_whole_isSized a0 (9 : Int)).bind fun x1 =>
 some (!x1)
def e_drive_openRuns_1 : Entry := ⟨147, [.ty gT], [(.bool, 0)], fun x => drive_openRuns_1 x⟩
def j_drive_openRuns_1 : TH := mkTH [] []
theorem k_drive_openRuns_1 : KT e_drive_openRuns_1 j_drive_openRuns_1 [e_drive_whole_isSized] 40 := fun x => by kernel_rfl
theorem o_drive_openRuns_1 : OT e_drive_openRuns_1 := entK (tab_cons o_drive_whole_isSized tab_nil) hJ k_drive_openRuns_1
def drive_whole_conj (a0 : (Int × Int × Unit)) : Option (Int × Int × Unit) :=
 some (a0.1, w64 (0 - a0.2.1), ())
def e_drive_whole_conj : Entry := ⟨83, [.ty gT], [(gT, 0)], fun x => drive_whole_conj x⟩
def j_drive_whole_conj : TH := mkTH [] []
theorem k_drive_whole_conj : KT e_drive_whole_conj j_drive_whole_conj [] 40 := fun x => by kernel_rfl
theorem o_drive_whole_conj : OT e_drive_whole_conj := entK tab_nil hJ k_drive_whole_conj
def drive_whole_times (a0 : (Int × Int × Unit)) (a1 : (Int × Int × Unit)) : Option (Int × Int × Unit) :=
 some (w64 ((w64 (a0.1 * a1.1)) - (w64 (a0.2.1 * a1.2.1))), w64 ((w64 (a0.1 * a1.2.1)) + (w64 (a0.2.1 * a1.1))), ())
def e_drive_whole_times : Entry := ⟨82, [.ty gT, .ty gT], [(gT, 0)], fun x => drive_whole_times x.1 x.2⟩
def j_drive_whole_times : TH := mkTH [] []
theorem k_drive_whole_times : KT e_drive_whole_times j_drive_whole_times [] 40 := fun x => by kernel_rfl
theorem o_drive_whole_times : OT e_drive_whole_times := entK tab_nil hJ k_drive_whole_times
def drive_whole_plus (a0 : (Int × Int × Unit)) (a1 : (Int × Int × Unit)) : Option (Int × Int × Unit) :=
 some (w64 (a0.1 + a1.1), w64 (a0.2.1 + a1.2.1), ())
def e_drive_whole_plus : Entry := ⟨154, [.ty gT, .ty gT], [(gT, 0)], fun x => drive_whole_plus x.1 x.2⟩
def j_drive_whole_plus : TH := mkTH [] []
theorem k_drive_whole_plus : KT e_drive_whole_plus j_drive_whole_plus [] 40 := fun x => by kernel_rfl
theorem o_drive_whole_plus : OT e_drive_whole_plus := entK tab_nil hJ k_drive_whole_plus
def drive_sumsOf_1_1 (a0 : Int) (a1 : Int) (a2 : ((List (List (Int × Int × Unit))) × (List (List (Int × Int × Unit))) × Unit)) (a3 : (List (List (Int × Int × Unit)))) : Option (Int × Int × Unit) :=
 (loopO (fun (s2 : (Int × Int × Int)) =>
   bif decide (s2.1 < (a2.1.length : Int)) then
    (idx a2.1 s2.1).bind fun x3 =>
    (idx a3 s2.1).bind fun x4 =>
    (idx x4 a0).bind fun x5 =>
    (idx x3 a1).bind fun x6 =>
    (drive_whole_conj x6).bind fun x7 =>
    (drive_whole_times x5 x7).bind fun x8 =>
    (drive_whole_plus (s2.2.1, s2.2.2, ()) x8).bind fun x9 =>
    some (.inl (w64 (s2.1 + 1), x9.1, x9.2.1))
   else
    some (.inr (s2.2.1, s2.2.2))) (0, 0, 0)).bind fun (p10 : (Int × Int)) =>
 some (p10.1, p10.2, ())
def e_drive_sumsOf_1_1 : Entry := ⟨186, [.ty I, .ty I, .ptr (.pair (.sl (.sl gT)) (.pair (.sl (.sl gT)) .unit)), .ptr (.sl (.sl gT))], [(gT, 0)], fun x => drive_sumsOf_1_1 x.1 x.2.1 x.2.2.1 x.2.2.2⟩
def j_drive_sumsOf_1_1 : TH := mkTH [([], 186, .block 0, { lv := [⟨some 0, 7, 0⟩, ⟨some 0, 7, 1⟩], ps := [(I, 0), (I, 0)], D := ⟨17179861760⟩, wr := [⟨0, 7⟩] }),
 ([], 186, .loop 0, { lv := [⟨none, 13, 0⟩, ⟨some 0, 7, 0⟩, ⟨some 0, 7, 1⟩], ps := [(I, 0), (I, 0), (I, 0)], D := ⟨17179861760⟩, wr := [⟨0, 7⟩] })] []
theorem k_drive_sumsOf_1_1 : KT e_drive_sumsOf_1_1 j_drive_sumsOf_1_1 [e_drive_whole_conj, e_drive_whole_plus, e_drive_whole_times] 40 := fun x => by kernel_rfl
theorem o_drive_sumsOf_1_1 : OT e_drive_sumsOf_1_1 := entK (tab_cons o_drive_whole_conj (tab_cons o_drive_whole_plus (tab_cons o_drive_whole_times tab_nil))) hJ k_drive_sumsOf_1_1
def drive_made_of_drive_sumsOf_1_1 (a0 : Int) (a1 : Int) (a2 : ((List (List (Int × Int × Unit))) × (List (List (Int × Int × Unit))) × Unit)) (a3 : (List (List (Int × Int × Unit)))) : Option (List (List (Int × Int × Unit))) :=
 (mkS ([] : (List (Int × Int × Unit))) a0).bind fun x1 =>
 bif decide (a0 = a0) then
  (loopO (fun (s3 : ((List (List (Int × Int × Unit))) × Int)) =>
    bif decide (s3.2 < (x1.length : Int)) then
     (loopO (fun (s5 : ((List (List (Int × Int × Unit))) × Int)) =>
       bif decide (s5.2 < a1) then
        (idx s5.1 s3.2).bind fun x6 =>
        (drive_sumsOf_1_1 s3.2 s5.2 a2 a3).bind fun x7 =>
        (idx s5.1 s3.2).bind fun x8 =>
        (app x8 ([x7])).bind fun x9 =>
        (idx s5.1 s3.2).bind fun x10 =>
        bif decide (s3.2 = s3.2) then
         let l11 : (List (List (Int × Int × Unit))) := List.set s5.1 s3.2.toNat x9
         some (.inl (l11, w64 (s5.2 + 1)))
        else
         none
       else
        some (.inr s5.1)) (s3.1, 0)).bind fun (p12 : (List (List (Int × Int × Unit)))) =>
     some (.inl (p12, w64 (s3.2 + 1)))
    else
     some (.inr s3.1)) (x1, 0)).bind fun (p13 : (List (List (Int × Int × Unit)))) =>
  some p13
 else
  none
def e_drive_made_of_drive_sumsOf_1_1 : Entry := ⟨85, [.ty I, .ty I, .fn 186 [.p (.pair (.sl (.sl gT)) (.pair (.sl (.sl gT)) .unit)), .p (.sl (.sl gT))]], [((.sl (.sl gT)), 2)], fun x => drive_made_of_drive_sumsOf_1_1 x.1 x.2.1 x.2.2.1 x.2.2.2⟩
def j_drive_made_of_drive_sumsOf_1_1 : TH := mkTH [([], 85, .block 0, { lv := [⟨none, 7, 0⟩], ps := [((.sl (.sl gT)), 2)], D := ⟨68719467392⟩ }),
 ([], 85, .loop 0, { lv := [⟨none, 7, 0⟩, ⟨none, 14, 0⟩], ps := [((.sl (.sl gT)), 2), (I, 0)], D := ⟨68719467392⟩ }),
 ([], 85, .block 2, { lv := [⟨none, 7, 0⟩], ps := [((.sl (.sl gT)), 2)], D := ⟨34359476864⟩ }),
 ([], 85, .loop 2, { lv := [⟨none, 7, 0⟩, ⟨none, 18, 0⟩], ps := [((.sl (.sl gT)), 2), (I, 0)], D := ⟨34359476864⟩ })] []
theorem k_drive_made_of_drive_sumsOf_1_1 : KT e_drive_made_of_drive_sumsOf_1_1 j_drive_made_of_drive_sumsOf_1_1 [e_drive_sumsOf_1_1] 40 := fun x => by kernel_rfl
theorem o_drive_made_of_drive_sumsOf_1_1 : OT e_drive_made_of_drive_sumsOf_1_1 := entK (tab_cons o_drive_sumsOf_1_1 tab_nil) hJ k_drive_made_of_drive_sumsOf_1_1
def drive_sumsOf_1 (a0 : (List (List (Int × Int × Unit)))) (a1 : Int) (a2 : ((List (List (Int × Int × Unit))) × (List (List (Int × Int × Unit))) × Unit)) : Option (List (List (Int × Int × Unit))) :=
 (drive_made_of_drive_sumsOf_1_1 a1 a1 a2 a0).bind fun x1 =>
 some x1
def e_drive_sumsOf_1 : Entry := ⟨185, [.ty (.sl (.sl gT)), .ptr I, .ptr (.pair (.sl (.sl gT)) (.pair (.sl (.sl gT)) .unit))], [((.sl (.sl gT)), 2)], fun x => drive_sumsOf_1 x.1 x.2.1 x.2.2⟩
def j_drive_sumsOf_1 : TH := mkTH [] []
theorem k_drive_sumsOf_1 : KT e_drive_sumsOf_1 j_drive_sumsOf_1 [e_drive_made_of_drive_sumsOf_1_1] 40 := fun x => by kernel_rfl
theorem o_drive_sumsOf_1 : OT e_drive_sumsOf_1 := entK (tab_cons o_drive_made_of_drive_sumsOf_1_1 tab_nil) hJ k_drive_sumsOf_1
def drive_sumsOf (a0 : ((List (List (Int × Int × Unit))) × (List (List (Int × Int × Unit))) × Unit)) (a1 : Int) : Option ((List (List (Int × Int × Unit))) × (List (List (Int × Int × Unit))) × Unit) :=
 (drive_sumsOf_1 a0.1 a1 (a0.1, a0.2.1, ())).bind fun x1 =>
 (drive_sumsOf_1 a0.2.1 a1 (a0.1, a0.2.1, ())).bind fun x2 =>
 some (x1, x2, ())
def e_drive_sumsOf : Entry := ⟨148, [.ty (.pair (.sl (.sl gT)) (.pair (.sl (.sl gT)) .unit)), .ty I], [((.pair (.sl (.sl gT)) (.pair (.sl (.sl gT)) .unit)), 2)], fun x => drive_sumsOf x.1 x.2⟩
def j_drive_sumsOf : TH := mkTH [] []
theorem k_drive_sumsOf : KT e_drive_sumsOf j_drive_sumsOf [e_drive_sumsOf_1] 40 := fun x => by kernel_rfl
theorem o_drive_sumsOf : OT e_drive_sumsOf := entK (tab_cons o_drive_sumsOf_1 tab_nil) hJ k_drive_sumsOf
def drive_matrix_at (a0 : (List (List (Int × Int × Unit)))) (a1 : Int) (a2 : Int) : Option (Int × Int × Unit) :=
 (idx a0 a1).bind fun x1 =>
 (idx x1 a2).bind fun x2 =>
 some x2
def e_drive_matrix_at : Entry := ⟨87, [.ty (.sl (.sl gT)), .ty I, .ty I], [(gT, 0)], fun x => drive_matrix_at x.1 x.2.1 x.2.2⟩
def j_drive_matrix_at : TH := mkTH [] []
theorem k_drive_matrix_at : KT e_drive_matrix_at j_drive_matrix_at [] 40 := fun x => by kernel_rfl
theorem o_drive_matrix_at : OT e_drive_matrix_at := entK tab_nil hJ k_drive_matrix_at
def drive_matrix_without (a0 : (List (List (Int × Int × Unit)))) (a1 : Int) (a2 : Int) : Option (List (List (Int × Int × Unit))) :=
 (loopO (fun (s2 : ((List (List (Int × Int × Unit))) × Int)) =>
   bif decide (s2.2 < (a0.length : Int)) then
    (idx a0 s2.2).bind fun x3 =>
    (bif !(decide (s2.2 = a1)) then
      (slc x3 0 a2).bind fun x4 =>
      bif decide (a2 = a2) then
       (slc x3 (w64 (a2 + 1)) (x3.length : Int)).bind fun x5 =>
       (app x4 x5).bind fun x6 =>
       (app s2.1 ([x6])).bind fun x7 =>
       some x7
      else
       none
     else
      some s2.1).bind fun (p8 : (List (List (Int × Int × Unit)))) =>
    some (.inl (p8, w64 (s2.2 + 1)))
   else
    some (.inr s2.1)) ([], 0)).bind fun (p9 : (List (List (Int × Int × Unit)))) =>
 some p9
def e_drive_matrix_without : Entry := ⟨150, [.ty (.sl (.sl gT)), .ty I, .ty I], [((.sl (.sl gT)), 2001)], fun x => drive_matrix_without x.1 x.2.1 x.2.2⟩
def j_drive_matrix_without : TH := mkTH [([], 150, .block 0, { lv := [⟨none, 7, 0⟩], ps := [((.sl (.sl gT)), 2001)], D := ⟨8589931392⟩ }),
 ([], 150, .loop 0, { lv := [⟨none, 7, 0⟩, ⟨none, 12, 0⟩], ps := [((.sl (.sl gT)), 2001), (I, 0)], D := ⟨8589931392⟩ }),
 ([], 150, .cond 19, { lv := [⟨none, 7, 0⟩], ps := [((.sl (.sl gT)), 2001)], D := ⟨4293918848⟩ })] []
theorem k_drive_matrix_without : KT e_drive_matrix_without j_drive_matrix_without [] 40 := fun x => by kernel_rfl
theorem o_drive_matrix_without : OT e_drive_matrix_without := entK tab_nil hJ k_drive_matrix_without
def drive_whole_minus (a0 : (Int × Int × Unit)) (a1 : (Int × Int × Unit)) : Option (Int × Int × Unit) :=
 some (w64 (a0.1 - a1.1), w64 (a0.2.1 - a1.2.1), ())
def e_drive_whole_minus : Entry := ⟨104, [.ty gT, .ty gT], [(gT, 0)], fun x => drive_whole_minus x.1 x.2⟩
def j_drive_whole_minus : TH := mkTH [] []
theorem k_drive_whole_minus : KT e_drive_whole_minus j_drive_whole_minus [] 40 := fun x => by kernel_rfl
theorem o_drive_whole_minus : OT e_drive_whole_minus := entK tab_nil hJ k_drive_whole_minus
def drive_matrix_determinant_n (n : Nat) : (List (List (Int × Int × Unit))) -> Option (Int × Int × Unit) :=
 Nat.rec (motive := fun _ => (List (List (Int × Int × Unit))) -> Option (Int × Int × Unit)) (fun _ => none) (fun _ ih a0 =>
 bif decide ((a0.length : Int) = 0) then
  some (1, 0, ())
 else
  (loopO (fun (s2 : (Int × Int × Int)) =>
    bif decide (s2.1 < (a0.length : Int)) then
     (drive_matrix_at a0 (0 : Int) s2.1).bind fun x3 =>
     (drive_matrix_without a0 (0 : Int) s2.1).bind fun x4 =>
     (ih x4).bind fun x5 =>
     (drive_whole_times x3 x5).bind fun x6 =>
     (bif decide (s2.1.tmod 2 = 1) then
       (drive_whole_minus (0, 0, ()) x6).bind fun x7 =>
       some (x7.1, x7.2.1)
      else
       some (x6.1, x6.2.1)).bind fun (p8 : (Int × Int)) =>
     (drive_whole_plus (s2.2.1, s2.2.2, ()) (p8.1, p8.2, ())).bind fun x9 =>
     some (.inl (w64 (s2.1 + 1), x9.1, x9.2.1))
    else
     some (.inr (s2.2.1, s2.2.2))) (0, 0, 0)).bind fun (p10 : (Int × Int)) =>
  some (p10.1, p10.2, ())) n
def drive_matrix_determinant : (List (List (Int × Int × Unit))) -> Option (Int × Int × Unit) := drive_matrix_determinant_n 12
def e_drive_matrix_determinant : Entry := ⟨136, [.ty (.sl (.sl gT))], [(gT, 0)], fun x => drive_matrix_determinant x⟩
def j_drive_matrix_determinant : TH := mkTH [([], 136, .block 0, { lv := [⟨some 0, 3, 0⟩, ⟨some 0, 3, 1⟩], ps := [(I, 0), (I, 0)], D := ⟨8589930544⟩, wr := [⟨0, 3⟩, ⟨0, 5⟩] }),
 ([], 136, .loop 0, { lv := [⟨none, 12, 0⟩, ⟨some 0, 3, 0⟩, ⟨some 0, 3, 1⟩], ps := [(I, 0), (I, 0), (I, 0)], D := ⟨8589930544⟩, wr := [⟨0, 3⟩, ⟨0, 5⟩], rs := [⟨0, 5⟩], Dn := ⟨8589930512⟩ }),
 ([], 136, .cond 25, { lv := [⟨some 0, 5, 0⟩, ⟨some 0, 5, 1⟩], ps := [(I, 0), (I, 0)], D := ⟨469762048⟩, wr := [⟨0, 5⟩] })] []
def e_drive_matrix_determinant_n (n : Nat) : Entry := ⟨136, [.ty (.sl (.sl gT))], [(gT, 0)], fun x => drive_matrix_determinant_n n x⟩
theorem k_drive_matrix_determinant (n : Nat) (x : denP (e_drive_matrix_determinant_n (n + 1)).ps) : fnT Tryz.prog Hn.hints j_drive_matrix_determinant (tabT [(e_drive_matrix_determinant_n n), e_drive_matrix_at, e_drive_matrix_without, e_drive_whole_minus, e_drive_whole_plus, e_drive_whole_times]) 40 136 (ofPms (e_drive_matrix_determinant_n (n + 1)).ps x) (e_drive_matrix_determinant_n (n + 1)).rs = (e_drive_matrix_determinant_n (n + 1)).F x := by kernel_rfl
theorem o_drive_matrix_determinant_n : ∀ n, EntryOk Tryz.prog Hn.hints Lb (e_drive_matrix_determinant_n n)
 | 0 => fun x y h => by cases (show none = some y from h)
 | n + 1 => entry_ok (tab_cons (o_drive_matrix_determinant_n n) (tab_cons o_drive_matrix_at (tab_cons o_drive_matrix_without (tab_cons o_drive_whole_minus (tab_cons o_drive_whole_plus (tab_cons o_drive_whole_times tab_nil)))))) hJ 40 _ _ _ _ (k_drive_matrix_determinant n)
theorem o_drive_matrix_determinant : EntryOk Tryz.prog Hn.hints Lb e_drive_matrix_determinant := o_drive_matrix_determinant_n 12
def drive_openRuns (a0 : ((List (List (Int × Int × Unit))) × (List (List (Int × Int × Unit))) × Unit)) : Option (((List (List (Int × Int × Unit))) × (List (List (Int × Int × Unit))) × Unit) × (Int × Int × Unit) × Int) :=
 (bif decide ((a0.1.length : Int) > 0) then
   (drive_unless (decide ((a0.2.1.length : Int) = (a0.1.length : Int))) (10 : Int)).bind fun x1 =>
   (drive_unless (decide ((a0.1.length : Int) <= 6)) (8 : Int)).bind fun x2 =>
   (drive_first ([x1, x2])).bind fun x3 =>
   some x3
  else
   (drive_unless false (10 : Int)).bind fun x4 =>
   (drive_unless (decide ((a0.1.length : Int) <= 6)) (8 : Int)).bind fun x5 =>
   (drive_first ([x4, x5])).bind fun x6 =>
   some x6).bind fun (p7 : Int) =>
 bif !(decide (p7 = 0)) then
  some (([], [], ()), (0, 0, ()), p7)
 else
  (idx a0.1 0).bind fun x8 =>
  (loopO (fun (s10 : (Int × Int)) =>
    bif decide (s10.2 < (a0.1.length : Int)) then
     (idx a0.1 s10.2).bind fun x11 =>
     (idx a0.2.1 s10.2).bind fun x12 =>
     (bif decide (w64 (0 + (x11.length : Int)) < 0) then
       none
      else
       bif decide (w64 ((w64 (0 + (x11.length : Int))) + (x12.length : Int)) < 0) then
        none
       else
        bif decide (w64 ((w64 (0 + (x11.length : Int))) + (x12.length : Int)) < 0) then
         none
        else
         let v13 : Bool := decide (w64 ((w64 ((w64 (0 + (x11.length : Int))) + (x12.length : Int))) - 0) > 0)
         bif v13 then
          bif (decide (0 < w64 ((w64 ((w64 (0 + (x11.length : Int))) + (x12.length : Int))) - 0)) && decide (w64 ((w64 ((w64 (0 + (x11.length : Int))) + (x12.length : Int))) - 0) <= 4294967296)) then
           bif List.isEmpty x11 then
            bif List.isEmpty x12 then
             ((loopO (fun (s15 : Int) =>
                bif decide (s15 < 0) then
                 none
                else
                 some (.inr (.inl ()))) 0).bind (Sum.elim (fun (p16 : Unit) =>
              some (-1)) some)).bind fun (p17 : Int) =>
             some (decide (p17 >= 0))
            else
             (app [] x12).bind fun x18 =>
             ((loopO (fun (s20 : Int) =>
                bif decide (s20 < (x18.length : Int)) then
                 (idx x18 s20).bind fun x21 =>
                 (drive_openRuns_1 x21).bind fun x22 =>
                 bif x22 then
                  some (.inr (.inr s20))
                 else
                  some (.inl (w64 (s20 + 1)))
                else
                 some (.inr (.inl ()))) 0).bind (Sum.elim (fun (p23 : Unit) =>
              some (-1)) some)).bind fun (p24 : Int) =>
             some (decide (p24 >= 0))
           else
            (app [] x11).bind fun x25 =>
            (app x25 x12).bind fun x26 =>
            ((loopO (fun (s28 : Int) =>
               bif decide (s28 < (x26.length : Int)) then
                (idx x26 s28).bind fun x29 =>
                (drive_openRuns_1 x29).bind fun x30 =>
                bif x30 then
                 some (.inr (.inr s28))
                else
                 some (.inl (w64 (s28 + 1)))
               else
                some (.inr (.inl ()))) 0).bind (Sum.elim (fun (p31 : Unit) =>
             some (-1)) some)).bind fun (p32 : Int) =>
            some (decide (p32 >= 0))
          else
           none
         else
          bif List.isEmpty x11 then
           bif List.isEmpty x12 then
            ((loopO (fun (s34 : Int) =>
               bif decide (s34 < 0) then
                none
               else
                some (.inr (.inl ()))) 0).bind (Sum.elim (fun (p35 : Unit) =>
             some (-1)) some)).bind fun (p36 : Int) =>
            some (decide (p36 >= 0))
           else
            (app [] x12).bind fun x37 =>
            ((loopO (fun (s39 : Int) =>
               bif decide (s39 < (x37.length : Int)) then
                (idx x37 s39).bind fun x40 =>
                (drive_openRuns_1 x40).bind fun x41 =>
                bif x41 then
                 some (.inr (.inr s39))
                else
                 some (.inl (w64 (s39 + 1)))
               else
                some (.inr (.inl ()))) 0).bind (Sum.elim (fun (p42 : Unit) =>
             some (-1)) some)).bind fun (p43 : Int) =>
            some (decide (p43 >= 0))
          else
           (app [] x11).bind fun x44 =>
           (app x44 x12).bind fun x45 =>
           ((loopO (fun (s47 : Int) =>
              bif decide (s47 < (x45.length : Int)) then
               (idx x45 s47).bind fun x48 =>
               (drive_openRuns_1 x48).bind fun x49 =>
               bif x49 then
                some (.inr (.inr s47))
               else
                some (.inl (w64 (s47 + 1)))
              else
               some (.inr (.inl ()))) 0).bind (Sum.elim (fun (p50 : Unit) =>
            some (-1)) some)).bind fun (p51 : Int) =>
           some (decide (p51 >= 0))).bind fun (p52 : Bool) =>
     (bif decide ((x11.length : Int) > 0) then
       bif decide ((x11.length : Int) = (x8.length : Int)) then
        (drive_unless (decide ((x12.length : Int) = (x8.length : Int))) (10 : Int)).bind fun x53 =>
        (drive_unless (decide ((x11.length : Int) <= 3)) (8 : Int)).bind fun x54 =>
        (drive_unless (!p52) (2 : Int)).bind fun x55 =>
        (drive_first ([s10.1, x53, x54, x55])).bind fun x56 =>
        some x56
       else
        (drive_unless false (10 : Int)).bind fun x57 =>
        (drive_unless (decide ((x11.length : Int) <= 3)) (8 : Int)).bind fun x58 =>
        (drive_unless (!p52) (2 : Int)).bind fun x59 =>
        (drive_first ([s10.1, x57, x58, x59])).bind fun x60 =>
        some x60
      else
       (drive_unless false (10 : Int)).bind fun x61 =>
       (drive_unless (decide ((x11.length : Int) <= 3)) (8 : Int)).bind fun x62 =>
       (drive_unless (!p52) (2 : Int)).bind fun x63 =>
       (drive_first ([s10.1, x61, x62, x63])).bind fun x64 =>
       some x64).bind fun (p65 : Int) =>
     some (.inl (p65, w64 (s10.2 + 1)))
    else
     some (.inr s10.1)) (p7, 0)).bind fun (p66 : Int) =>
  bif !(decide (p66 = 0)) then
   some (([], [], ()), (0, 0, ()), p66)
  else
   (drive_sumsOf (a0.1, a0.2.1, ()) (x8.length : Int)).bind fun x67 =>
   (drive_matrix_determinant x67.1).bind fun x68 =>
   let v69 : Bool := !(bif decide (x68.1 = 0) then (bif decide (x68.2.1 = 0) then true else false) else false)
   (drive_unless v69 (11 : Int)).bind fun x70 =>
   some (x67, x68, x70)
def e_drive_openRuns : Entry := ⟨78, [.ty (.pair (.sl (.sl gT)) (.pair (.sl (.sl gT)) .unit))], [((.pair (.sl (.sl gT)) (.pair (.sl (.sl gT)) .unit)), 2000), (gT, 0), (I, 0)], fun x => drive_openRuns x⟩
def j_drive_openRuns : TH := mkTH [([], 78, .region 1, { lv := [⟨none, 5, 0⟩], ps := [(I, 0)], D := ⟨17179861024⟩, rs := [⟨0, 1⟩], Dn := ⟨17043275808⟩ }),
 ([], 78, .block 0, { lv := [⟨none, 5, 0⟩], ps := [(I, 0)], D := ⟨618970019642549399961208736⟩ }),
 ([], 78, .loop 0, { lv := [⟨none, 5, 0⟩, ⟨none, 47, 0⟩], ps := [(I, 0), (I, 0)], D := ⟨618970019642549399961208736⟩, rs := [⟨0, 1⟩], Dn := ⟨618970019638045800333838240⟩ }),
 ([], 78, .region 9, { lv := [⟨none, 10, 0⟩], ps := [(.bool, 0)], D := ⟨4467570830351533056⟩ }),
 ([7, 61], 183, .inl 0, { lv := [⟨none, 4, 0⟩], ps := [(I, 0)], D := ⟨524272⟩ }),
 ([7, 61], 183, .block 0, { lv := [], ps := [], abn := true, D := ⟨524064⟩ }),
 ([7, 61], 183, .loop 0, { lv := [⟨none, 8, 0⟩], ps := [(I, 0)], D := ⟨524064⟩ }),
 ([], 78, .region 10, { lv := [⟨none, 5, 0⟩], ps := [(I, 0)], D := ⟨309485005209659050297393184⟩ })] [([], 78, 60), ([], 78, 61), ([60], 146, 24), ([61], 145, 7)]
theorem k_drive_openRuns : KT e_drive_openRuns j_drive_openRuns [e_drive_first, e_drive_matrix_determinant, e_drive_openRuns_1, e_drive_sumsOf, e_drive_unless] 40 := fun x => by kernel_rfl
theorem o_drive_openRuns : OT e_drive_openRuns := entK (tab_cons o_drive_first (tab_cons o_drive_matrix_determinant (tab_cons o_drive_openRuns_1 (tab_cons o_drive_sumsOf (tab_cons o_drive_unless tab_nil))))) hJ k_drive_openRuns
def drive_matrix_inverse_1 (a0 : Int) (a1 : Int) (a2 : (List (List (Int × Int × Unit)))) (a3 : (Int × Int × Unit)) : Option (Int × Int × Unit) :=
 (drive_matrix_without a2 a1 a0).bind fun x1 =>
 (drive_matrix_determinant x1).bind fun x2 =>
 (drive_whole_conj a3).bind fun x3 =>
 (drive_whole_times x2 x3).bind fun x4 =>
 bif decide ((w64 (a0 + a1)).tmod 2 = 1) then
  (drive_whole_minus (0, 0, ()) x4).bind fun x5 =>
  some x5
 else
  some x4
def e_drive_matrix_inverse_1 : Entry := ⟨149, [.ty I, .ty I, .ptr (.sl (.sl gT)), .ptr gT], [(gT, 0)], fun x => drive_matrix_inverse_1 x.1 x.2.1 x.2.2.1 x.2.2.2⟩
def j_drive_matrix_inverse_1 : TH := mkTH [] []
theorem k_drive_matrix_inverse_1 : KT e_drive_matrix_inverse_1 j_drive_matrix_inverse_1 [e_drive_matrix_determinant, e_drive_matrix_without, e_drive_whole_conj, e_drive_whole_minus, e_drive_whole_times] 40 := fun x => by kernel_rfl
theorem o_drive_matrix_inverse_1 : OT e_drive_matrix_inverse_1 := entK (tab_cons o_drive_matrix_determinant (tab_cons o_drive_matrix_without (tab_cons o_drive_whole_conj (tab_cons o_drive_whole_minus (tab_cons o_drive_whole_times tab_nil))))) hJ k_drive_matrix_inverse_1
def drive_made_of_drive_matrix_inverse_1 (a0 : Int) (a1 : Int) (a2 : (List (List (Int × Int × Unit)))) (a3 : (Int × Int × Unit)) : Option (List (List (Int × Int × Unit))) :=
 (mkS ([] : (List (Int × Int × Unit))) a0).bind fun x1 =>
 bif decide (a0 = a0) then
  (loopO (fun (s3 : ((List (List (Int × Int × Unit))) × Int)) =>
    bif decide (s3.2 < (x1.length : Int)) then
     (loopO (fun (s5 : ((List (List (Int × Int × Unit))) × Int)) =>
       bif decide (s5.2 < a1) then
        (idx s5.1 s3.2).bind fun x6 =>
        (drive_matrix_inverse_1 s3.2 s5.2 a2 a3).bind fun x7 =>
        (idx s5.1 s3.2).bind fun x8 =>
        (app x8 ([x7])).bind fun x9 =>
        (idx s5.1 s3.2).bind fun x10 =>
        bif decide (s3.2 = s3.2) then
         let l11 : (List (List (Int × Int × Unit))) := List.set s5.1 s3.2.toNat x9
         some (.inl (l11, w64 (s5.2 + 1)))
        else
         none
       else
        some (.inr s5.1)) (s3.1, 0)).bind fun (p12 : (List (List (Int × Int × Unit)))) =>
     some (.inl (p12, w64 (s3.2 + 1)))
    else
     some (.inr s3.1)) (x1, 0)).bind fun (p13 : (List (List (Int × Int × Unit)))) =>
  some p13
 else
  none
def e_drive_made_of_drive_matrix_inverse_1 : Entry := ⟨85, [.ty I, .ty I, .fn 149 [.p (.sl (.sl gT)), .p gT]], [((.sl (.sl gT)), 2)], fun x => drive_made_of_drive_matrix_inverse_1 x.1 x.2.1 x.2.2.1 x.2.2.2⟩
def j_drive_made_of_drive_matrix_inverse_1 : TH := mkTH [([], 85, .block 0, { lv := [⟨none, 7, 0⟩], ps := [((.sl (.sl gT)), 2)], D := ⟨68719467392⟩ }),
 ([], 85, .loop 0, { lv := [⟨none, 7, 0⟩, ⟨none, 14, 0⟩], ps := [((.sl (.sl gT)), 2), (I, 0)], D := ⟨68719467392⟩ }),
 ([], 85, .block 2, { lv := [⟨none, 7, 0⟩], ps := [((.sl (.sl gT)), 2)], D := ⟨34359476864⟩ }),
 ([], 85, .loop 2, { lv := [⟨none, 7, 0⟩, ⟨none, 18, 0⟩], ps := [((.sl (.sl gT)), 2), (I, 0)], D := ⟨34359476864⟩ })] []
theorem k_drive_made_of_drive_matrix_inverse_1 : KT e_drive_made_of_drive_matrix_inverse_1 j_drive_made_of_drive_matrix_inverse_1 [e_drive_matrix_inverse_1] 40 := fun x => by kernel_rfl
theorem o_drive_made_of_drive_matrix_inverse_1 : OT e_drive_made_of_drive_matrix_inverse_1 := entK (tab_cons o_drive_matrix_inverse_1 tab_nil) hJ k_drive_made_of_drive_matrix_inverse_1
def drive_divisor (a0 : (List Int)) : Option Int :=
 (loopO (fun (s2 : (Int × Int)) =>
   bif decide (s2.2 < (a0.length : Int)) then
    (idx a0 s2.2).bind fun x3 =>
    (loopO (fun (s5 : (Int × Int)) =>
      bif !(decide (s5.2 = 0)) then
       bif decide (s5.2 = 0) then
        none
       else
        some (.inl (s5.2, s5.1.tmod s5.2))
      else
       some (.inr s5.1)) (s2.1, x3)).bind fun (p6 : Int) =>
    some (.inl (p6, w64 (s2.2 + 1)))
   else
    some (.inr s2.1)) (0, 0)).bind fun (p7 : Int) =>
 some (max p7 (w64 (0 - p7)))
def e_drive_divisor : Entry := ⟨151, [.ty (.sl I)], [(I, 0)], fun x => drive_divisor x⟩
def j_drive_divisor : TH := mkTH [([], 151, .block 0, { lv := [⟨none, 3, 0⟩], ps := [(I, 0)], D := ⟨524072⟩ }),
 ([], 151, .loop 0, { lv := [⟨none, 3, 0⟩, ⟨none, 8, 0⟩], ps := [(I, 0), (I, 0)], D := ⟨524072⟩ }),
 ([], 151, .block 2, { lv := [⟨none, 3, 0⟩], ps := [(I, 0)], D := ⟨258088⟩ }),
 ([], 151, .loop 2, { lv := [⟨none, 3, 0⟩, ⟨none, 5, 0⟩], ps := [(I, 0), (I, 0)], D := ⟨258088⟩ })] []
theorem k_drive_divisor : KT e_drive_divisor j_drive_divisor [] 40 := fun x => by kernel_rfl
theorem o_drive_divisor : OT e_drive_divisor := entK tab_nil hJ k_drive_divisor
def drive_quotient_1 (a0 : Int) (a1 : Int) (a2 : (List (List (Int × Int × Unit)))) (a3 : Int) : Option (Int × Int × Unit) :=
 (idx a2 a0).bind fun x1 =>
 (idx x1 a1).bind fun x2 =>
 bif decide (a3 = 0) then
  none
 else
  (idx a2 a0).bind fun x3 =>
  (idx x3 a1).bind fun x4 =>
  bif decide (a3 = 0) then
   none
  else
   some (w64 (x2.1.tdiv a3), w64 (x4.2.1.tdiv a3), ())
def e_drive_quotient_1 : Entry := ⟨176, [.ty I, .ty I, .ptr (.sl (.sl gT)), .ptr I], [(gT, 0)], fun x => drive_quotient_1 x.1 x.2.1 x.2.2.1 x.2.2.2⟩
def j_drive_quotient_1 : TH := mkTH [] []
theorem k_drive_quotient_1 : KT e_drive_quotient_1 j_drive_quotient_1 [] 40 := fun x => by kernel_rfl
theorem o_drive_quotient_1 : OT e_drive_quotient_1 := entK tab_nil hJ k_drive_quotient_1
def drive_made_of_drive_quotient_1 (a0 : Int) (a1 : Int) (a2 : (List (List (Int × Int × Unit)))) (a3 : Int) : Option (List (List (Int × Int × Unit))) :=
 (mkS ([] : (List (Int × Int × Unit))) a0).bind fun x1 =>
 bif decide (a0 = a0) then
  (loopO (fun (s3 : ((List (List (Int × Int × Unit))) × Int)) =>
    bif decide (s3.2 < (x1.length : Int)) then
     (loopO (fun (s5 : ((List (List (Int × Int × Unit))) × Int)) =>
       bif decide (s5.2 < a1) then
        (idx s5.1 s3.2).bind fun x6 =>
        (drive_quotient_1 s3.2 s5.2 a2 a3).bind fun x7 =>
        (idx s5.1 s3.2).bind fun x8 =>
        (app x8 ([x7])).bind fun x9 =>
        (idx s5.1 s3.2).bind fun x10 =>
        bif decide (s3.2 = s3.2) then
         let l11 : (List (List (Int × Int × Unit))) := List.set s5.1 s3.2.toNat x9
         some (.inl (l11, w64 (s5.2 + 1)))
        else
         none
       else
        some (.inr s5.1)) (s3.1, 0)).bind fun (p12 : (List (List (Int × Int × Unit)))) =>
     some (.inl (p12, w64 (s3.2 + 1)))
    else
     some (.inr s3.1)) (x1, 0)).bind fun (p13 : (List (List (Int × Int × Unit)))) =>
  some p13
 else
  none
def e_drive_made_of_drive_quotient_1 : Entry := ⟨85, [.ty I, .ty I, .fn 176 [.p (.sl (.sl gT)), .p I]], [((.sl (.sl gT)), 2)], fun x => drive_made_of_drive_quotient_1 x.1 x.2.1 x.2.2.1 x.2.2.2⟩
def j_drive_made_of_drive_quotient_1 : TH := mkTH [([], 85, .block 0, { lv := [⟨none, 7, 0⟩], ps := [((.sl (.sl gT)), 2)], D := ⟨68719467392⟩ }),
 ([], 85, .loop 0, { lv := [⟨none, 7, 0⟩, ⟨none, 14, 0⟩], ps := [((.sl (.sl gT)), 2), (I, 0)], D := ⟨68719467392⟩ }),
 ([], 85, .block 2, { lv := [⟨none, 7, 0⟩], ps := [((.sl (.sl gT)), 2)], D := ⟨34359476864⟩ }),
 ([], 85, .loop 2, { lv := [⟨none, 7, 0⟩, ⟨none, 18, 0⟩], ps := [((.sl (.sl gT)), 2), (I, 0)], D := ⟨34359476864⟩ })] []
theorem k_drive_made_of_drive_quotient_1 : KT e_drive_made_of_drive_quotient_1 j_drive_made_of_drive_quotient_1 [e_drive_quotient_1] 40 := fun x => by kernel_rfl
theorem o_drive_made_of_drive_quotient_1 : OT e_drive_made_of_drive_quotient_1 := entK (tab_cons o_drive_quotient_1 tab_nil) hJ k_drive_made_of_drive_quotient_1
def drive_quotient (a0 : (List (List (Int × Int × Unit)))) (a1 : Int) : Option (Int × (List (List (Int × Int × Unit))) × Unit) :=
 (loopO (fun (s2 : (Int × Int)) =>
   bif decide (s2.1 < (a0.length : Int)) then
    (idx a0 s2.1).bind fun x3 =>
    (loopO (fun (s5 : (Int × Int)) =>
      bif decide (s5.1 < (x3.length : Int)) then
       (idx x3 s5.1).bind fun x6 =>
       (drive_divisor ([s5.2, x6.1, x6.2.1])).bind fun x7 =>
       some (.inl (w64 (s5.1 + 1), x7))
      else
       some (.inr s5.2)) (0, s2.2)).bind fun (p8 : Int) =>
    some (.inl (w64 (s2.1 + 1), p8))
   else
    some (.inr s2.2)) (0, a1)).bind fun (p9 : Int) =>
 (idx a0 0).bind fun x10 =>
 (drive_made_of_drive_quotient_1 (a0.length : Int) (x10.length : Int) a0 p9).bind fun x11 =>
 bif decide (p9 = 0) then
  none
 else
  some (w64 (a1.tdiv p9), x11, ())
def e_drive_quotient : Entry := ⟨128, [.ty (.sl (.sl gT)), .ty I], [((.pair I (.pair (.sl (.sl gT)) .unit)), 2)], fun x => drive_quotient x.1 x.2⟩
def j_drive_quotient : TH := mkTH [([], 128, .block 0, { lv := [⟨some 0, 5, 0⟩], ps := [(I, 0)], D := ⟨8589919872⟩, wr := [⟨0, 5⟩, ⟨0, 9⟩] }),
 ([], 128, .loop 0, { lv := [⟨none, 14, 0⟩, ⟨some 0, 5, 0⟩], ps := [(I, 0), (I, 0)], D := ⟨8589919872⟩, wr := [⟨0, 5⟩, ⟨0, 9⟩] }),
 ([], 128, .block 2, { lv := [⟨some 0, 5, 0⟩], ps := [(I, 0)], D := ⟨4293920384⟩, wr := [⟨0, 5⟩, ⟨0, 9⟩] }),
 ([], 128, .loop 2, { lv := [⟨none, 20, 0⟩, ⟨some 0, 5, 0⟩], ps := [(I, 0), (I, 0)], D := ⟨4293920384⟩, wr := [⟨0, 5⟩, ⟨0, 9⟩], rs := [⟨0, 9⟩], Dn := ⟨4126147712⟩ })] []
theorem k_drive_quotient : KT e_drive_quotient j_drive_quotient [e_drive_divisor, e_drive_made_of_drive_quotient_1] 40 := fun x => by kernel_rfl
theorem o_drive_quotient : OT e_drive_quotient := entK (tab_cons o_drive_divisor (tab_cons o_drive_made_of_drive_quotient_1 tab_nil)) hJ k_drive_quotient
def drive_matrix_inverse (a0 : (List (List (Int × Int × Unit)))) (a1 : (Int × Int × Unit)) : Option (Int × (List (List (Int × Int × Unit))) × Unit) :=
 (drive_made_of_drive_matrix_inverse_1 (a0.length : Int) (a0.length : Int) a0 a1).bind fun x1 =>
 (drive_whole_conj a1).bind fun x2 =>
 (drive_whole_times a1 x2).bind fun x3 =>
 (drive_quotient x1 x3.1).bind fun x4 =>
 some x4
def e_drive_matrix_inverse : Entry := ⟨84, [.ty (.sl (.sl gT)), .ty gT], [((.pair I (.pair (.sl (.sl gT)) .unit)), 2)], fun x => drive_matrix_inverse x.1 x.2⟩
def j_drive_matrix_inverse : TH := mkTH [] []
theorem k_drive_matrix_inverse : KT e_drive_matrix_inverse j_drive_matrix_inverse [e_drive_made_of_drive_matrix_inverse_1, e_drive_quotient, e_drive_whole_conj, e_drive_whole_times] 40 := fun x => by kernel_rfl
theorem o_drive_matrix_inverse : OT e_drive_matrix_inverse := entK (tab_cons o_drive_made_of_drive_matrix_inverse_1 (tab_cons o_drive_quotient (tab_cons o_drive_whole_conj (tab_cons o_drive_whole_times tab_nil)))) hJ k_drive_matrix_inverse
def drive_CoherenceOf_1 (a0 : Int) (a1 : Int) (a2 : ((List (List (Int × Int × Unit))) × (List (List (Int × Int × Unit))) × Unit)) (a3 : Int) : Option (Int × Int × Unit) :=
 (drive_matrix_at a2.2.1 a3 a0).bind fun x1 =>
 (drive_whole_conj x1).bind fun x2 =>
 some x2
def e_drive_CoherenceOf_1 : Entry := ⟨86, [.ty I, .ty I, .ptr (.pair (.sl (.sl gT)) (.pair (.sl (.sl gT)) .unit)), .ptr I], [(gT, 0)], fun x => drive_CoherenceOf_1 x.1 x.2.1 x.2.2.1 x.2.2.2⟩
def j_drive_CoherenceOf_1 : TH := mkTH [] []
theorem k_drive_CoherenceOf_1 : KT e_drive_CoherenceOf_1 j_drive_CoherenceOf_1 [e_drive_matrix_at, e_drive_whole_conj] 40 := fun x => by kernel_rfl
theorem o_drive_CoherenceOf_1 : OT e_drive_CoherenceOf_1 := entK (tab_cons o_drive_matrix_at (tab_cons o_drive_whole_conj tab_nil)) hJ k_drive_CoherenceOf_1
def drive_made_of_drive_CoherenceOf_1 (a0 : Int) (a1 : Int) (a2 : ((List (List (Int × Int × Unit))) × (List (List (Int × Int × Unit))) × Unit)) (a3 : Int) : Option (List (List (Int × Int × Unit))) :=
 (mkS ([] : (List (Int × Int × Unit))) a0).bind fun x1 =>
 bif decide (a0 = a0) then
  (loopO (fun (s3 : ((List (List (Int × Int × Unit))) × Int)) =>
    bif decide (s3.2 < (x1.length : Int)) then
     (loopO (fun (s5 : ((List (List (Int × Int × Unit))) × Int)) =>
       bif decide (s5.2 < a1) then
        (idx s5.1 s3.2).bind fun x6 =>
        (drive_CoherenceOf_1 s3.2 s5.2 a2 a3).bind fun x7 =>
        (idx s5.1 s3.2).bind fun x8 =>
        (app x8 ([x7])).bind fun x9 =>
        (idx s5.1 s3.2).bind fun x10 =>
        bif decide (s3.2 = s3.2) then
         let l11 : (List (List (Int × Int × Unit))) := List.set s5.1 s3.2.toNat x9
         some (.inl (l11, w64 (s5.2 + 1)))
        else
         none
       else
        some (.inr s5.1)) (s3.1, 0)).bind fun (p12 : (List (List (Int × Int × Unit)))) =>
     some (.inl (p12, w64 (s3.2 + 1)))
    else
     some (.inr s3.1)) (x1, 0)).bind fun (p13 : (List (List (Int × Int × Unit)))) =>
  some p13
 else
  none
def e_drive_made_of_drive_CoherenceOf_1 : Entry := ⟨85, [.ty I, .ty I, .fn 86 [.p (.pair (.sl (.sl gT)) (.pair (.sl (.sl gT)) .unit)), .p I]], [((.sl (.sl gT)), 2)], fun x => drive_made_of_drive_CoherenceOf_1 x.1 x.2.1 x.2.2.1 x.2.2.2⟩
def j_drive_made_of_drive_CoherenceOf_1 : TH := mkTH [([], 85, .block 0, { lv := [⟨none, 7, 0⟩], ps := [((.sl (.sl gT)), 2)], D := ⟨68719467392⟩ }),
 ([], 85, .loop 0, { lv := [⟨none, 7, 0⟩, ⟨none, 14, 0⟩], ps := [((.sl (.sl gT)), 2), (I, 0)], D := ⟨68719467392⟩ }),
 ([], 85, .block 2, { lv := [⟨none, 7, 0⟩], ps := [((.sl (.sl gT)), 2)], D := ⟨34359476864⟩ }),
 ([], 85, .loop 2, { lv := [⟨none, 7, 0⟩, ⟨none, 18, 0⟩], ps := [((.sl (.sl gT)), 2), (I, 0)], D := ⟨34359476864⟩ })] []
theorem k_drive_made_of_drive_CoherenceOf_1 : KT e_drive_made_of_drive_CoherenceOf_1 j_drive_made_of_drive_CoherenceOf_1 [e_drive_CoherenceOf_1] 40 := fun x => by kernel_rfl
theorem o_drive_made_of_drive_CoherenceOf_1 : OT e_drive_made_of_drive_CoherenceOf_1 := entK (tab_cons o_drive_CoherenceOf_1 tab_nil) hJ k_drive_made_of_drive_CoherenceOf_1
def drive_matrix_times_1 (a0 : Int) (a1 : Int) (a2 : (List (List (Int × Int × Unit)))) (a3 : (List (List (Int × Int × Unit)))) : Option (Int × Int × Unit) :=
 (loopO (fun (s2 : (Int × Int × Int)) =>
   bif decide (s2.1 < (a2.length : Int)) then
    (drive_matrix_at a3 a0 s2.1).bind fun x3 =>
    (drive_matrix_at a2 s2.1 a1).bind fun x4 =>
    (drive_whole_times x3 x4).bind fun x5 =>
    (drive_whole_plus (s2.2.1, s2.2.2, ()) x5).bind fun x6 =>
    some (.inl (w64 (s2.1 + 1), x6.1, x6.2.1))
   else
    some (.inr (s2.2.1, s2.2.2))) (0, 0, 0)).bind fun (p7 : (Int × Int)) =>
 some (p7.1, p7.2, ())
def e_drive_matrix_times_1 : Entry := ⟨153, [.ty I, .ty I, .ptr (.sl (.sl gT)), .ptr (.sl (.sl gT))], [(gT, 0)], fun x => drive_matrix_times_1 x.1 x.2.1 x.2.2.1 x.2.2.2⟩
def j_drive_matrix_times_1 : TH := mkTH [([], 153, .block 0, { lv := [⟨some 0, 7, 0⟩, ⟨some 0, 7, 1⟩], ps := [(I, 0), (I, 0)], D := ⟨67107072⟩, wr := [⟨0, 7⟩] }),
 ([], 153, .loop 0, { lv := [⟨none, 11, 0⟩, ⟨some 0, 7, 0⟩, ⟨some 0, 7, 1⟩], ps := [(I, 0), (I, 0), (I, 0)], D := ⟨67107072⟩, wr := [⟨0, 7⟩] })] []
theorem k_drive_matrix_times_1 : KT e_drive_matrix_times_1 j_drive_matrix_times_1 [e_drive_matrix_at, e_drive_whole_plus, e_drive_whole_times] 40 := fun x => by kernel_rfl
theorem o_drive_matrix_times_1 : OT e_drive_matrix_times_1 := entK (tab_cons o_drive_matrix_at (tab_cons o_drive_whole_plus (tab_cons o_drive_whole_times tab_nil))) hJ k_drive_matrix_times_1
def drive_made_of_drive_matrix_times_1 (a0 : Int) (a1 : Int) (a2 : (List (List (Int × Int × Unit)))) (a3 : (List (List (Int × Int × Unit)))) : Option (List (List (Int × Int × Unit))) :=
 (mkS ([] : (List (Int × Int × Unit))) a0).bind fun x1 =>
 bif decide (a0 = a0) then
  (loopO (fun (s3 : ((List (List (Int × Int × Unit))) × Int)) =>
    bif decide (s3.2 < (x1.length : Int)) then
     (loopO (fun (s5 : ((List (List (Int × Int × Unit))) × Int)) =>
       bif decide (s5.2 < a1) then
        (idx s5.1 s3.2).bind fun x6 =>
        (drive_matrix_times_1 s3.2 s5.2 a2 a3).bind fun x7 =>
        (idx s5.1 s3.2).bind fun x8 =>
        (app x8 ([x7])).bind fun x9 =>
        (idx s5.1 s3.2).bind fun x10 =>
        bif decide (s3.2 = s3.2) then
         let l11 : (List (List (Int × Int × Unit))) := List.set s5.1 s3.2.toNat x9
         some (.inl (l11, w64 (s5.2 + 1)))
        else
         none
       else
        some (.inr s5.1)) (s3.1, 0)).bind fun (p12 : (List (List (Int × Int × Unit)))) =>
     some (.inl (p12, w64 (s3.2 + 1)))
    else
     some (.inr s3.1)) (x1, 0)).bind fun (p13 : (List (List (Int × Int × Unit)))) =>
  some p13
 else
  none
def e_drive_made_of_drive_matrix_times_1 : Entry := ⟨85, [.ty I, .ty I, .fn 153 [.p (.sl (.sl gT)), .p (.sl (.sl gT))]], [((.sl (.sl gT)), 2)], fun x => drive_made_of_drive_matrix_times_1 x.1 x.2.1 x.2.2.1 x.2.2.2⟩
def j_drive_made_of_drive_matrix_times_1 : TH := mkTH [([], 85, .block 0, { lv := [⟨none, 7, 0⟩], ps := [((.sl (.sl gT)), 2)], D := ⟨68719467392⟩ }),
 ([], 85, .loop 0, { lv := [⟨none, 7, 0⟩, ⟨none, 14, 0⟩], ps := [((.sl (.sl gT)), 2), (I, 0)], D := ⟨68719467392⟩ }),
 ([], 85, .block 2, { lv := [⟨none, 7, 0⟩], ps := [((.sl (.sl gT)), 2)], D := ⟨34359476864⟩ }),
 ([], 85, .loop 2, { lv := [⟨none, 7, 0⟩, ⟨none, 18, 0⟩], ps := [((.sl (.sl gT)), 2), (I, 0)], D := ⟨34359476864⟩ })] []
theorem k_drive_made_of_drive_matrix_times_1 : KT e_drive_made_of_drive_matrix_times_1 j_drive_made_of_drive_matrix_times_1 [e_drive_matrix_times_1] 40 := fun x => by kernel_rfl
theorem o_drive_made_of_drive_matrix_times_1 : OT e_drive_made_of_drive_matrix_times_1 := entK (tab_cons o_drive_matrix_times_1 tab_nil) hJ k_drive_made_of_drive_matrix_times_1
def drive_matrix_times (a0 : (List (List (Int × Int × Unit)))) (a1 : (List (List (Int × Int × Unit)))) : Option (List (List (Int × Int × Unit))) :=
 (idx a1 0).bind fun x1 =>
 (drive_made_of_drive_matrix_times_1 (a0.length : Int) (x1.length : Int) a1 a0).bind fun x2 =>
 some x2
def e_drive_matrix_times : Entry := ⟨89, [.ty (.sl (.sl gT)), .ty (.sl (.sl gT))], [((.sl (.sl gT)), 2)], fun x => drive_matrix_times x.1 x.2⟩
def j_drive_matrix_times : TH := mkTH [] []
theorem k_drive_matrix_times : KT e_drive_matrix_times j_drive_matrix_times [e_drive_made_of_drive_matrix_times_1] 40 := fun x => by kernel_rfl
theorem o_drive_matrix_times : OT e_drive_matrix_times := entK (tab_cons o_drive_made_of_drive_matrix_times_1 tab_nil) hJ k_drive_matrix_times
def drive_small (a0 : Int) (a1 : Int) : Option ((Int × Int × Unit) × Int) :=
 (drive_divisor ([a0, a1])).bind fun x1 =>
 bif decide (x1 = 0) then
  none
 else
  bif decide (x1 = 0) then
   none
  else
   ((drive_isSized (w64 (a0.tdiv x1)) (1000000000 : Int)).bind fun x2 =>
    bif !x2 then
     some true
    else
     some (decide (w64 (a1.tdiv x1) > 1000000000))).bind fun (p3 : Bool) =>
   bif p3 then
    some ((0, 0, ()), 8)
   else
    some ((w64 (a0.tdiv x1), w64 (a1.tdiv x1), ()), 0)
def e_drive_small : Entry := ⟨88, [.ty I, .ty I], [(gT, 0), (I, 0)], fun x => drive_small x.1 x.2⟩
def j_drive_small : TH := mkTH [([], 88, .region 3, { lv := [⟨none, 27, 0⟩], ps := [(.bool, 0)], D := ⟨267911168⟩, rs := [⟨0, 7⟩], Dn := ⟨250609664⟩ })] []
theorem k_drive_small : KT e_drive_small j_drive_small [e_drive_divisor, e_drive_isSized] 40 := fun x => by kernel_rfl
theorem o_drive_small : OT e_drive_small := entK (tab_cons o_drive_divisor (tab_cons o_drive_isSized tab_nil)) hJ k_drive_small
def drive_CoherenceOf (a0 : ((List (List (Int × Int × Unit))) × (List (List (Int × Int × Unit))) × Unit)) (a1 : Int) : Option ((Int × Int × Unit) × Int) :=
 (drive_openRuns (a0.1, a0.2.1, ())).bind fun x1 =>
 (drive_within a1 (0 : Int) (w64 ((x1.1.2.1.length : Int) - 1))).bind fun x2 =>
 (drive_unless x2 (6 : Int)).bind fun x3 =>
 (drive_first ([x1.2.2, x3])).bind fun x4 =>
 bif !(decide (x4 = 0)) then
  some ((0, 0, ()), x4)
 else
  (loopO (fun (s6 : (Int × Int)) =>
    bif decide (s6.2 < (a0.2.1.length : Int)) then
     (idx a0.2.1 s6.2).bind fun x7 =>
     (idx x7 a1).bind fun x8 =>
     (idx x7 a1).bind fun x9 =>
     (drive_whole_conj x9).bind fun x10 =>
     (drive_whole_times x8 x10).bind fun x11 =>
     some (.inl (w64 (s6.1 + x11.1), w64 (s6.2 + 1)))
    else
     some (.inr s6.1)) (0, 0)).bind fun (p12 : Int) =>
  bif decide (p12 = 0) then
   some ((0, 0, ()), 12)
  else
   (drive_matrix_inverse x1.1.1 x1.2.1).bind fun x13 =>
   (idx x1.1.2.1 a1).bind fun x14 =>
   (drive_made_of_drive_CoherenceOf_1 (x1.1.2.1.length : Int) (1 : Int) x1.1 a1).bind fun x15 =>
   (drive_matrix_times ([x14]) x13.2.1).bind fun x16 =>
   (drive_matrix_times x16 x15).bind fun x17 =>
   (idx x17 0).bind fun x18 =>
   (idx x18 0).bind fun x19 =>
   (drive_small x19.1 (w64 (x13.1 * p12))).bind fun x20 =>
   some (x20.1, x20.2)
def e_drive_CoherenceOf : Entry := ⟨14, [.ty (.pair (.sl (.sl gT)) (.pair (.sl (.sl gT)) .unit)), .ty I], [(gT, 0), (I, 0)], fun x => drive_CoherenceOf x.1 x.2⟩
def j_drive_CoherenceOf : TH := mkTH [([], 14, .block 0, { lv := [⟨none, 9, 0⟩], ps := [(I, 0)], D := ⟨72057319160048128⟩ }),
 ([], 14, .loop 0, { lv := [⟨none, 9, 0⟩, ⟨none, 38, 0⟩], ps := [(I, 0), (I, 0)], D := ⟨72057319160048128⟩ })] []
theorem k_drive_CoherenceOf : KT e_drive_CoherenceOf j_drive_CoherenceOf [e_drive_first, e_drive_made_of_drive_CoherenceOf_1, e_drive_matrix_inverse, e_drive_matrix_times, e_drive_openRuns, e_drive_small, e_drive_unless, e_drive_whole_conj, e_drive_whole_times, e_drive_within] 40 := fun x => by kernel_rfl
theorem o_drive_CoherenceOf : OT e_drive_CoherenceOf := entK (tab_cons o_drive_first (tab_cons o_drive_made_of_drive_CoherenceOf_1 (tab_cons o_drive_matrix_inverse (tab_cons o_drive_matrix_times (tab_cons o_drive_openRuns (tab_cons o_drive_small (tab_cons o_drive_unless (tab_cons o_drive_whole_conj (tab_cons o_drive_whole_times (tab_cons o_drive_within tab_nil)))))))))) hJ k_drive_CoherenceOf
def base_Within (a0 : Int) (a1 : Int) (a2 : Int) : Option Bool :=
 (bif decide (a1 <= a0) then
   some (decide (a0 <= a2))
  else
   some false).bind fun (p1 : Bool) =>
 some p1
def e_base_Within : Entry := ⟨18, [.ty I, .ty I, .ty I], [(.bool, 0)], fun x => base_Within x.1 x.2.1 x.2.2⟩
def j_base_Within : TH := mkTH [([], 18, .region 1, { lv := [⟨none, 6, 0⟩], ps := [(.bool, 0)], D := ⟨32704⟩ })] []
theorem k_base_Within : KT e_base_Within j_base_Within [] 40 := fun x => by kernel_rfl
theorem o_base_Within : OT e_base_Within := entK tab_nil hJ k_base_Within
def ref04_isSized (a0 : (Int × Int × Unit)) (a1 : Int) : Option Bool :=
 ((base_Within a0.1 (w64 (0 - a1)) a1).bind fun x1 =>
  bif x1 then
   (base_Within a0.2.1 (w64 (0 - a1)) a1).bind fun x2 =>
   some x2
  else
   some false).bind fun (p3 : Bool) =>
 some p3
def e_ref04_isSized : Entry := ⟨114, [.ty gT, .ty I], [(.bool, 0)], fun x => ref04_isSized x.1 x.2⟩
def j_ref04_isSized : TH := mkTH [([], 114, .region 1, { lv := [⟨none, 4, 0⟩], ps := [(.bool, 0)], D := ⟨524272⟩, rs := [⟨0, 2⟩], Dn := ⟨520144⟩ })] []
theorem k_ref04_isSized : KT e_ref04_isSized j_ref04_isSized [e_base_Within] 40 := fun x => by kernel_rfl
theorem o_ref04_isSized : OT e_ref04_isSized := entK (tab_cons o_base_Within tab_nil) hJ k_ref04_isSized
def ref04_RunsErr (a0 : ((List (List (Int × Int × Unit))) × (List (List (Int × Int × Unit))) × Unit)) : Option Int :=
 (bif decide ((a0.1.length : Int) = 0) then
   some true
  else
   some (!(decide ((a0.2.1.length : Int) = (a0.1.length : Int))))).bind fun (p1 : Bool) =>
 bif p1 then
  some 10
 else
  bif decide ((a0.1.length : Int) > 6) then
   some 8
  else
   (loopO (fun (s3 : Int) =>
     bif decide (s3 < (a0.1.length : Int)) then
      (idx a0.1 s3).bind fun x4 =>
      (idx a0.2.1 s3).bind fun x5 =>
      (bif decide ((x4.length : Int) = 0) then
        some true
       else
        (idx a0.1 0).bind fun x6 =>
        bif !(decide ((x4.length : Int) = (x6.length : Int))) then
         some true
        else
         some (!(decide ((x5.length : Int) = (x4.length : Int))))).bind fun (p7 : Bool) =>
      bif p7 then
       some (.inr (.inr 10))
      else
       bif decide ((x4.length : Int) > 3) then
        some (.inr (.inr 8))
       else
        (loopO (fun (s9 : Int) =>
          bif decide (s9 < (x4.length : Int)) then
           ((idx x4 s9).bind fun x10 =>
            (ref04_isSized x10 (9 : Int)).bind fun x11 =>
            bif !x11 then
             some true
            else
             (idx x5 s9).bind fun x12 =>
             (ref04_isSized x12 (9 : Int)).bind fun x13 =>
             some (!x13)).bind fun (p14 : Bool) =>
           bif p14 then
            some (.inr (.inr (.inr (.inr 2))))
           else
            some (.inl (w64 (s9 + 1)))
          else
           some (.inr (.inl ()))) 0).bind (Sum.elim (fun (p15 : Unit) =>
        some (.inl (w64 (s3 + 1)))) some)
     else
      some (.inr (.inl ()))) 0).bind (Sum.elim (fun (p16 : Unit) =>
   some 0) some)
def e_ref04_RunsErr : Entry := ⟨134, [.ty (.pair (.sl (.sl gT)) (.pair (.sl (.sl gT)) .unit))], [(I, 0)], fun x => ref04_RunsErr x⟩
def j_ref04_RunsErr : TH := mkTH [([], 134, .region 1, { lv := [⟨none, 19, 0⟩], ps := [(.bool, 0)], D := ⟨1048448⟩, rs := [⟨0, 1⟩], Dn := ⟨1011456⟩ }),
 ([], 134, .block 0, { lv := [], ps := [], abn := true, D := ⟨19342813113834066778521720⟩, rs := [⟨0, 1⟩], Dn := ⟨19342813113834066744967288⟩ }),
 ([], 134, .loop 0, { lv := [⟨none, 3, 0⟩], ps := [(I, 0)], D := ⟨19342813113834066778521720⟩, rs := [⟨0, 1⟩], Dn := ⟨19342813113693258389651576⟩ }),
 ([], 134, .region 9, { lv := [⟨none, 60, 0⟩], ps := [(.bool, 0)], D := ⟨2305840810190438400⟩, rs := [⟨0, 1⟩], Dn := ⟨2305700072702083072⟩ }),
 ([], 134, .block 2, { lv := [], ps := [], abn := true, D := ⟨19342794667089993085747264⟩ }),
 ([], 134, .loop 2, { lv := [⟨none, 6, 0⟩], ps := [(I, 0)], D := ⟨19342794667089993085747264⟩ }),
 ([], 134, .region 16, { lv := [⟨none, 83, 0⟩], ps := [(.bool, 0)], D := ⟨19341632522213349383995392⟩ })] []
theorem k_ref04_RunsErr : KT e_ref04_RunsErr j_ref04_RunsErr [e_ref04_isSized] 40 := fun x => by kernel_rfl
theorem o_ref04_RunsErr : OT e_ref04_RunsErr := entK (tab_cons o_ref04_isSized tab_nil) hJ k_ref04_RunsErr
def base_GConj (a0 : (Int × Int × Unit)) : Option (Int × Int × Unit) :=
 some (a0.1, w64 (0 - a0.2.1), ())
def e_base_GConj : Entry := ⟨95, [.ty gT], [(gT, 0)], fun x => base_GConj x⟩
def j_base_GConj : TH := mkTH [] []
theorem k_base_GConj : KT e_base_GConj j_base_GConj [] 40 := fun x => by kernel_rfl
theorem o_base_GConj : OT e_base_GConj := entK tab_nil hJ k_base_GConj
def base_GMul (a0 : (Int × Int × Unit)) (a1 : (Int × Int × Unit)) : Option (Int × Int × Unit) :=
 some (w64 ((w64 (a0.1 * a1.1)) - (w64 (a0.2.1 * a1.2.1))), w64 ((w64 (a0.1 * a1.2.1)) + (w64 (a0.2.1 * a1.1))), ())
def e_base_GMul : Entry := ⟨94, [.ty gT, .ty gT], [(gT, 0)], fun x => base_GMul x.1 x.2⟩
def j_base_GMul : TH := mkTH [] []
theorem k_base_GMul : KT e_base_GMul j_base_GMul [] 40 := fun x => by kernel_rfl
theorem o_base_GMul : OT e_base_GMul := entK tab_nil hJ k_base_GMul
def base_GAdd (a0 : (Int × Int × Unit)) (a1 : (Int × Int × Unit)) : Option (Int × Int × Unit) :=
 some (w64 (a0.1 + a1.1), w64 (a0.2.1 + a1.2.1), ())
def e_base_GAdd : Entry := ⟨68, [.ty gT, .ty gT], [(gT, 0)], fun x => base_GAdd x.1 x.2⟩
def j_base_GAdd : TH := mkTH [] []
theorem k_base_GAdd : KT e_base_GAdd j_base_GAdd [] 40 := fun x => by kernel_rfl
theorem o_base_GAdd : OT e_base_GAdd := entK tab_nil hJ k_base_GAdd
def ref04_Crossed (a0 : (List (List (Int × Int × Unit)))) (a1 : (List (List (Int × Int × Unit)))) : Option (List (List (Int × Int × Unit))) :=
 (loopO (fun (s3 : ((List (List (Int × Int × Unit))) × Int)) =>
   (idx a0 0).bind fun x4 =>
   bif decide (s3.2 < (x4.length : Int)) then
    (loopO (fun (s7 : ((List (Int × Int × Unit)) × Int)) =>
      (idx a1 0).bind fun x8 =>
      bif decide (s7.2 < (x8.length : Int)) then
       (loopO (fun (s10 : (Int × Int × Int)) =>
         bif decide (s10.1 < (a0.length : Int)) then
          (idx a0 s10.1).bind fun x11 =>
          (idx x11 s3.2).bind fun x12 =>
          (idx a1 s10.1).bind fun x13 =>
          (idx x13 s7.2).bind fun x14 =>
          (base_GConj x14).bind fun x15 =>
          (base_GMul x12 x15).bind fun x16 =>
          (base_GAdd (s10.2.1, s10.2.2, ()) x16).bind fun x17 =>
          some (.inl (w64 (s10.1 + 1), x17.1, x17.2.1))
         else
          some (.inr (s10.2.1, s10.2.2))) (0, 0, 0)).bind fun (p18 : (Int × Int)) =>
       (app s7.1 ([(p18.1, p18.2, ())])).bind fun x19 =>
       some (.inl (x19, w64 (s7.2 + 1)))
      else
       some (.inr s7.1)) ([], 0)).bind fun (p20 : (List (Int × Int × Unit))) =>
    (app s3.1 ([p20])).bind fun x21 =>
    some (.inl (x21, w64 (s3.2 + 1)))
   else
    some (.inr s3.1)) ([], 0)).bind fun (p22 : (List (List (Int × Int × Unit)))) =>
 some p22
def e_ref04_Crossed : Entry := ⟨91, [.ty (.sl (.sl gT)), .ty (.sl (.sl gT))], [((.sl (.sl gT)), 2)], fun x => ref04_Crossed x.1 x.2⟩
def j_ref04_Crossed : TH := mkTH [([], 91, .block 0, { lv := [⟨none, 5, 0⟩], ps := [((.sl (.sl gT)), 2)], D := ⟨576460752303423456⟩, wr := [⟨0, 9⟩] }),
 ([], 91, .loop 0, { lv := [⟨none, 5, 0⟩, ⟨none, 6, 0⟩], ps := [((.sl (.sl gT)), 2), (I, 0)], D := ⟨576460752303423456⟩, wr := [⟨0, 9⟩] }),
 ([], 91, .block 2, { lv := [⟨none, 7, 0⟩], ps := [((.sl gT), 1)], D := ⟨36028797018441600⟩, wr := [⟨0, 9⟩] }),
 ([], 91, .loop 2, { lv := [⟨none, 7, 0⟩, ⟨none, 8, 0⟩], ps := [((.sl gT), 1), (I, 0)], D := ⟨36028797018441600⟩, wr := [⟨0, 9⟩], rs := [⟨0, 9⟩], Dn := ⟨36028797018441088⟩ }),
 ([], 91, .block 4, { lv := [⟨some 0, 9, 0⟩, ⟨some 0, 9, 1⟩], ps := [(I, 0), (I, 0)], D := ⟨2251799679468544⟩, wr := [⟨0, 9⟩] }),
 ([], 91, .loop 4, { lv := [⟨none, 10, 0⟩, ⟨some 0, 9, 0⟩, ⟨some 0, 9, 1⟩], ps := [(I, 0), (I, 0), (I, 0)], D := ⟨2251799679468544⟩, wr := [⟨0, 9⟩] })] []
theorem k_ref04_Crossed : KT e_ref04_Crossed j_ref04_Crossed [e_base_GAdd, e_base_GConj, e_base_GMul] 40 := fun x => by kernel_rfl
theorem o_ref04_Crossed : OT e_ref04_Crossed := entK (tab_cons o_base_GAdd (tab_cons o_base_GConj (tab_cons o_base_GMul tab_nil))) hJ k_ref04_Crossed
def ref04_without (a0 : (List (List (Int × Int × Unit)))) (a1 : Int) (a2 : Int) : Option (List (List (Int × Int × Unit))) :=
 (loopO (fun (s2 : ((List (List (Int × Int × Unit))) × Int)) =>
   bif decide (s2.2 < (a0.length : Int)) then
    (bif decide (s2.2 = a1) then
      some s2.1
     else
      (loopO (fun (s4 : ((List (Int × Int × Unit)) × Int)) =>
        bif decide (s4.2 < (a0.length : Int)) then
         (bif !(decide (s4.2 = a2)) then
           (idx a0 s2.2).bind fun x5 =>
           (idx x5 s4.2).bind fun x6 =>
           (app s4.1 ([x6])).bind fun x7 =>
           some x7
          else
           some s4.1).bind fun (p8 : (List (Int × Int × Unit))) =>
         some (.inl (p8, w64 (s4.2 + 1)))
        else
         some (.inr s4.1)) ([], 0)).bind fun (p9 : (List (Int × Int × Unit))) =>
      (app s2.1 ([p9])).bind fun x10 =>
      some x10).bind fun (p11 : (List (List (Int × Int × Unit)))) =>
    some (.inl (p11, w64 (s2.2 + 1)))
   else
    some (.inr s2.1)) ([], 0)).bind fun (p12 : (List (List (Int × Int × Unit)))) =>
 some p12
def e_ref04_without : Entry := ⟨138, [.ty (.sl (.sl gT)), .ty I, .ty I], [((.sl (.sl gT)), 2)], fun x => ref04_without x.1 x.2.1 x.2.2⟩
def j_ref04_without : TH := mkTH [([], 138, .block 0, { lv := [⟨none, 7, 0⟩], ps := [((.sl (.sl gT)), 2)], D := ⟨8796093022080⟩ }),
 ([], 138, .loop 0, { lv := [⟨none, 7, 0⟩, ⟨none, 8, 0⟩], ps := [((.sl (.sl gT)), 2), (I, 0)], D := ⟨8796093022080⟩ }),
 ([], 138, .block 1, { lv := [⟨none, 7, 0⟩], ps := [((.sl (.sl gT)), 2)], D := ⟨8796092892800⟩ }),
 ([], 138, .block 2, { lv := [⟨none, 9, 0⟩], ps := [((.sl gT), 1)], D := ⟨549754766848⟩ }),
 ([], 138, .loop 2, { lv := [⟨none, 9, 0⟩, ⟨none, 10, 0⟩], ps := [((.sl gT), 1), (I, 0)], D := ⟨549754766848⟩ }),
 ([], 138, .cond 28, { lv := [⟨none, 9, 0⟩], ps := [((.sl gT), 1)], D := ⟨549218943488⟩ })] []
theorem k_ref04_without : KT e_ref04_without j_ref04_without [] 40 := fun x => by kernel_rfl
theorem o_ref04_without : OT e_ref04_without := entK tab_nil hJ k_ref04_without
def base_Mod (a0 : Int) (a1 : Int) : Option Int :=
 bif decide (a1 = 0) then
  none
 else
  (bif decide (a0.tmod a1 < 0) then
    some (w64 ((a0.tmod a1) + a1))
   else
    some (a0.tmod a1)).bind fun (p1 : Int) =>
  some p1
def e_base_Mod : Entry := ⟨67, [.ty I, .ty I], [(I, 0)], fun x => base_Mod x.1 x.2⟩
def j_base_Mod : TH := mkTH [([], 67, .cond 9, { lv := [⟨none, 0, 0⟩], ps := [(I, 0)], D := ⟨7169⟩ })] []
theorem k_base_Mod : KT e_base_Mod j_base_Mod [] 40 := fun x => by kernel_rfl
theorem o_base_Mod : OT e_base_Mod := entK tab_nil hJ k_base_Mod
def base_GSub (a0 : (Int × Int × Unit)) (a1 : (Int × Int × Unit)) : Option (Int × Int × Unit) :=
 some (w64 (a0.1 - a1.1), w64 (a0.2.1 - a1.2.1), ())
def e_base_GSub : Entry := ⟨41, [.ty gT, .ty gT], [(gT, 0)], fun x => base_GSub x.1 x.2⟩
def j_base_GSub : TH := mkTH [] []
theorem k_base_GSub : KT e_base_GSub j_base_GSub [] 40 := fun x => by kernel_rfl
theorem o_base_GSub : OT e_base_GSub := entK tab_nil hJ k_base_GSub
def ref04_Determinant_n (n : Nat) : (List (List (Int × Int × Unit))) -> Option (Int × Int × Unit) :=
 Nat.rec (motive := fun _ => (List (List (Int × Int × Unit))) -> Option (Int × Int × Unit)) (fun _ => none) (fun _ ih a0 =>
 bif decide ((a0.length : Int) = 0) then
  some (1, 0, ())
 else
  (loopO (fun (s2 : (Int × Int × Int)) =>
    bif decide (s2.1 < (a0.length : Int)) then
     (idx a0 0).bind fun x3 =>
     (idx x3 s2.1).bind fun x4 =>
     (ref04_without a0 (0 : Int) s2.1).bind fun x5 =>
     (ih x5).bind fun x6 =>
     (base_GMul x4 x6).bind fun x7 =>
     (base_Mod s2.1 (2 : Int)).bind fun x8 =>
     (bif decide (x8 = 0) then
       (base_GAdd (s2.2.1, s2.2.2, ()) x7).bind fun x9 =>
       some (x9.1, x9.2.1)
      else
       (base_GSub (s2.2.1, s2.2.2, ()) x7).bind fun x10 =>
       some (x10.1, x10.2.1)).bind fun (p11 : (Int × Int)) =>
     some (.inl (w64 (s2.1 + 1), p11.1, p11.2))
    else
     some (.inr (s2.2.1, s2.2.2))) (0, 0, 0)).bind fun (p12 : (Int × Int)) =>
  some (p12.1, p12.2, ())) n
def ref04_Determinant : (List (List (Int × Int × Unit))) -> Option (Int × Int × Unit) := ref04_Determinant_n 12
def e_ref04_Determinant : Entry := ⟨69, [.ty (.sl (.sl gT))], [(gT, 0)], fun x => ref04_Determinant x⟩
def j_ref04_Determinant : TH := mkTH [([], 69, .block 0, { lv := [⟨some 0, 3, 0⟩, ⟨some 0, 3, 1⟩], ps := [(I, 0), (I, 0)], D := ⟨68719475760⟩, wr := [⟨0, 3⟩, ⟨0, 5⟩] }),
 ([], 69, .loop 0, { lv := [⟨none, 4, 0⟩, ⟨some 0, 3, 0⟩, ⟨some 0, 3, 1⟩], ps := [(I, 0), (I, 0), (I, 0)], D := ⟨68719475760⟩, wr := [⟨0, 3⟩, ⟨0, 5⟩], rs := [⟨0, 5⟩], Dn := ⟨68719475728⟩ }),
 ([], 69, .cond 29, { lv := [⟨some 0, 3, 0⟩, ⟨some 0, 3, 1⟩], ps := [(I, 0), (I, 0)], D := ⟨67645734912⟩, wr := [⟨0, 3⟩] })] []
def e_ref04_Determinant_n (n : Nat) : Entry := ⟨69, [.ty (.sl (.sl gT))], [(gT, 0)], fun x => ref04_Determinant_n n x⟩
theorem k_ref04_Determinant (n : Nat) (x : denP (e_ref04_Determinant_n (n + 1)).ps) : fnT Tryz.prog Hn.hints j_ref04_Determinant (tabT [(e_ref04_Determinant_n n), e_base_GAdd, e_base_GMul, e_base_GSub, e_base_Mod, e_ref04_without]) 40 69 (ofPms (e_ref04_Determinant_n (n + 1)).ps x) (e_ref04_Determinant_n (n + 1)).rs = (e_ref04_Determinant_n (n + 1)).F x := by kernel_rfl
theorem o_ref04_Determinant_n : ∀ n, EntryOk Tryz.prog Hn.hints Lb (e_ref04_Determinant_n n)
 | 0 => fun x y h => by cases (show none = some y from h)
 | n + 1 => entry_ok (tab_cons (o_ref04_Determinant_n n) (tab_cons o_base_GAdd (tab_cons o_base_GMul (tab_cons o_base_GSub (tab_cons o_base_Mod (tab_cons o_ref04_without tab_nil)))))) hJ 40 _ _ _ _ (k_ref04_Determinant n)
theorem o_ref04_Determinant : EntryOk Tryz.prog Hn.hints Lb e_ref04_Determinant := o_ref04_Determinant_n 12
def ref04_EstimateErr (a0 : ((List (List (Int × Int × Unit))) × (List (List (Int × Int × Unit))) × Unit)) : Option Int :=
 (ref04_RunsErr (a0.1, a0.2.1, ())).bind fun x1 =>
 bif !(decide (x1 = 0)) then
  some x1
 else
  (ref04_Crossed a0.1 a0.1).bind fun x2 =>
  (ref04_Determinant x2).bind fun x3 =>
  let v4 : Bool := (bif decide (x3.1 = 0) then (bif decide (x3.2.1 = 0) then true else false) else false)
  bif v4 then
   some 11
  else
   some 0
def e_ref04_EstimateErr : Entry := ⟨56, [.ty (.pair (.sl (.sl gT)) (.pair (.sl (.sl gT)) .unit))], [(I, 0)], fun x => ref04_EstimateErr x⟩
def j_ref04_EstimateErr : TH := mkTH [] []
theorem k_ref04_EstimateErr : KT e_ref04_EstimateErr j_ref04_EstimateErr [e_ref04_Crossed, e_ref04_Determinant, e_ref04_RunsErr] 40 := fun x => by kernel_rfl
theorem o_ref04_EstimateErr : OT e_ref04_EstimateErr := entK (tab_cons o_ref04_Crossed (tab_cons o_ref04_Determinant (tab_cons o_ref04_RunsErr tab_nil))) hJ k_ref04_EstimateErr
def base_GNorm (a0 : (Int × Int × Unit)) : Option Int :=
 some (w64 ((w64 (a0.1 * a0.1)) + (w64 (a0.2.1 * a0.2.1))))
def e_base_GNorm : Entry := ⟨137, [.ty gT], [(I, 0)], fun x => base_GNorm x⟩
def j_base_GNorm : TH := mkTH [] []
theorem k_base_GNorm : KT e_base_GNorm j_base_GNorm [] 40 := fun x => by kernel_rfl
theorem o_base_GNorm : OT e_base_GNorm := entK tab_nil hJ k_base_GNorm
def ref04_power (a0 : ((List (List (Int × Int × Unit))) × (List (List (Int × Int × Unit))) × Unit)) (a1 : Int) : Option Int :=
 (loopO (fun (s2 : (Int × Int)) =>
   bif decide (s2.2 < (a0.2.1.length : Int)) then
    (idx a0.2.1 s2.2).bind fun x3 =>
    (idx x3 a1).bind fun x4 =>
    (base_GNorm x4).bind fun x5 =>
    some (.inl (w64 (s2.1 + x5), w64 (s2.2 + 1)))
   else
    some (.inr s2.1)) (0, 0)).bind fun (p6 : Int) =>
 some p6
def e_ref04_power : Entry := ⟨90, [.ty (.pair (.sl (.sl gT)) (.pair (.sl (.sl gT)) .unit)), .ty I], [(I, 0)], fun x => ref04_power x.1 x.2⟩
def j_ref04_power : TH := mkTH [([], 90, .block 0, { lv := [⟨none, 5, 0⟩], ps := [(I, 0)], D := ⟨33554400⟩, rs := [⟨0, 2⟩], Dn := ⟨33554144⟩ }),
 ([], 90, .loop 0, { lv := [⟨none, 5, 0⟩, ⟨none, 6, 0⟩], ps := [(I, 0), (I, 0)], D := ⟨33554400⟩, rs := [⟨0, 2⟩], Dn := ⟨33521376⟩ })] []
theorem k_ref04_power : KT e_ref04_power j_ref04_power [e_base_GNorm] 40 := fun x => by kernel_rfl
theorem o_ref04_power : OT e_ref04_power := entK (tab_cons o_base_GNorm tab_nil) hJ k_ref04_power
def ref04_Adjugate (a0 : (List (List (Int × Int × Unit)))) : Option (List (List (Int × Int × Unit))) :=
 (loopO (fun (s3 : ((List (List (Int × Int × Unit))) × Int)) =>
   bif decide (s3.2 < (a0.length : Int)) then
    (loopO (fun (s6 : ((List (Int × Int × Unit)) × Int)) =>
      bif decide (s6.2 < (a0.length : Int)) then
       (ref04_without a0 s6.2 s3.2).bind fun x7 =>
       (ref04_Determinant x7).bind fun x8 =>
       (base_Mod (w64 (s3.2 + s6.2)) (2 : Int)).bind fun x9 =>
       (bif decide (x9 = 1) then
         (base_GSub (0, 0, ()) x8).bind fun x10 =>
         some (x10.1, x10.2.1)
        else
         some (x8.1, x8.2.1)).bind fun (p11 : (Int × Int)) =>
       (app s6.1 ([(p11.1, p11.2, ())])).bind fun x12 =>
       some (.inl (x12, w64 (s6.2 + 1)))
      else
       some (.inr s6.1)) ([], 0)).bind fun (p13 : (List (Int × Int × Unit))) =>
    (app s3.1 ([p13])).bind fun x14 =>
    some (.inl (x14, w64 (s3.2 + 1)))
   else
    some (.inr s3.1)) ([], 0)).bind fun (p15 : (List (List (Int × Int × Unit)))) =>
 some p15
def e_ref04_Adjugate : Entry := ⟨93, [.ty (.sl (.sl gT))], [((.sl (.sl gT)), 2)], fun x => ref04_Adjugate x⟩
def j_ref04_Adjugate : TH := mkTH [([], 93, .block 0, { lv := [⟨none, 3, 0⟩], ps := [((.sl (.sl gT)), 2)], D := ⟨2199023255544⟩, wr := [⟨0, 7⟩] }),
 ([], 93, .loop 0, { lv := [⟨none, 3, 0⟩, ⟨none, 4, 0⟩], ps := [((.sl (.sl gT)), 2), (I, 0)], D := ⟨2199023255544⟩, wr := [⟨0, 7⟩] }),
 ([], 93, .block 2, { lv := [⟨none, 5, 0⟩], ps := [((.sl gT), 1)], D := ⟨137438937312⟩, wr := [⟨0, 7⟩] }),
 ([], 93, .loop 2, { lv := [⟨none, 5, 0⟩, ⟨none, 6, 0⟩], ps := [((.sl gT), 1), (I, 0)], D := ⟨137438937312⟩, wr := [⟨0, 7⟩], rs := [⟨0, 7⟩], Dn := ⟨137438937184⟩ }),
 ([], 93, .cond 29, { lv := [⟨some 0, 7, 0⟩, ⟨some 0, 7, 1⟩], ps := [(I, 0), (I, 0)], D := ⟨7516192768⟩, wr := [⟨0, 7⟩] })] []
theorem k_ref04_Adjugate : KT e_ref04_Adjugate j_ref04_Adjugate [e_base_GSub, e_base_Mod, e_ref04_Determinant, e_ref04_without] 40 := fun x => by kernel_rfl
theorem o_ref04_Adjugate : OT e_ref04_Adjugate := entK (tab_cons o_base_GSub (tab_cons o_base_Mod (tab_cons o_ref04_Determinant (tab_cons o_ref04_without tab_nil)))) hJ k_ref04_Adjugate
def ref04_Product (a0 : (List (List (Int × Int × Unit)))) (a1 : (List (List (Int × Int × Unit)))) : Option (List (List (Int × Int × Unit))) :=
 (loopO (fun (s3 : ((List (List (Int × Int × Unit))) × Int)) =>
   bif decide (s3.2 < (a0.length : Int)) then
    (loopO (fun (s6 : ((List (Int × Int × Unit)) × Int)) =>
      (idx a1 0).bind fun x7 =>
      bif decide (s6.2 < (x7.length : Int)) then
       (loopO (fun (s9 : (Int × Int × Int)) =>
         bif decide (s9.1 < (a1.length : Int)) then
          (idx a0 s3.2).bind fun x10 =>
          (idx x10 s9.1).bind fun x11 =>
          (idx a1 s9.1).bind fun x12 =>
          (idx x12 s6.2).bind fun x13 =>
          (base_GMul x11 x13).bind fun x14 =>
          (base_GAdd (s9.2.1, s9.2.2, ()) x14).bind fun x15 =>
          some (.inl (w64 (s9.1 + 1), x15.1, x15.2.1))
         else
          some (.inr (s9.2.1, s9.2.2))) (0, 0, 0)).bind fun (p16 : (Int × Int)) =>
       (app s6.1 ([(p16.1, p16.2, ())])).bind fun x17 =>
       some (.inl (x17, w64 (s6.2 + 1)))
      else
       some (.inr s6.1)) ([], 0)).bind fun (p18 : (List (Int × Int × Unit))) =>
    (app s3.1 ([p18])).bind fun x19 =>
    some (.inl (x19, w64 (s3.2 + 1)))
   else
    some (.inr s3.1)) ([], 0)).bind fun (p20 : (List (List (Int × Int × Unit)))) =>
 some p20
def e_ref04_Product : Entry := ⟨92, [.ty (.sl (.sl gT)), .ty (.sl (.sl gT))], [((.sl (.sl gT)), 2)], fun x => ref04_Product x.1 x.2⟩
def j_ref04_Product : TH := mkTH [([], 92, .block 0, { lv := [⟨none, 5, 0⟩], ps := [((.sl (.sl gT)), 2)], D := ⟨72057594037927904⟩, wr := [⟨0, 9⟩] }),
 ([], 92, .loop 0, { lv := [⟨none, 5, 0⟩, ⟨none, 6, 0⟩], ps := [((.sl (.sl gT)), 2), (I, 0)], D := ⟨72057594037927904⟩, wr := [⟨0, 9⟩] }),
 ([], 92, .block 2, { lv := [⟨none, 7, 0⟩], ps := [((.sl gT), 1)], D := ⟨4503599627241344⟩, wr := [⟨0, 9⟩] }),
 ([], 92, .loop 2, { lv := [⟨none, 7, 0⟩, ⟨none, 8, 0⟩], ps := [((.sl gT), 1), (I, 0)], D := ⟨4503599627241344⟩, wr := [⟨0, 9⟩], rs := [⟨0, 9⟩], Dn := ⟨4503599627240832⟩ }),
 ([], 92, .block 4, { lv := [⟨some 0, 9, 0⟩, ⟨some 0, 9, 1⟩], ps := [(I, 0), (I, 0)], D := ⟨281474943157248⟩, wr := [⟨0, 9⟩] }),
 ([], 92, .loop 4, { lv := [⟨none, 10, 0⟩, ⟨some 0, 9, 0⟩, ⟨some 0, 9, 1⟩], ps := [(I, 0), (I, 0), (I, 0)], D := ⟨281474943157248⟩, wr := [⟨0, 9⟩] })] []
theorem k_ref04_Product : KT e_ref04_Product j_ref04_Product [e_base_GAdd, e_base_GMul] 40 := fun x => by kernel_rfl
theorem o_ref04_Product : OT e_ref04_Product := entK (tab_cons o_base_GAdd (tab_cons o_base_GMul tab_nil)) hJ k_ref04_Product
def base_Size (a0 : Int) : Option Int :=
 some (max a0 (w64 (0 - a0)))
def e_base_Size : Entry := ⟨42, [.ty I], [(I, 0)], fun x => base_Size x⟩
def j_base_Size : TH := mkTH [] []
theorem k_base_Size : KT e_base_Size j_base_Size [] 40 := fun x => by kernel_rfl
theorem o_base_Size : OT e_base_Size := entK tab_nil hJ k_base_Size
def base_Gcd (a0 : Int) (a1 : Int) : Option Int :=
 (loopO (fun (s2 : (Int × Int)) =>
   bif !(decide (s2.2 = 0)) then
    bif decide (s2.2 = 0) then
     none
    else
     some (.inl (s2.2, s2.1.tmod s2.2))
   else
    some (.inr s2.1)) (a0, a1)).bind fun (p3 : Int) =>
 (base_Size p3).bind fun x4 =>
 some x4
def e_base_Gcd : Entry := ⟨155, [.ty I, .ty I], [(I, 0)], fun x => base_Gcd x.1 x.2⟩
def j_base_Gcd : TH := mkTH [([], 155, .block 0, { lv := [⟨none, 0, 0⟩], ps := [(I, 0)], D := ⟨2019⟩ }),
 ([], 155, .loop 0, { lv := [⟨none, 0, 0⟩, ⟨none, 1, 0⟩], ps := [(I, 0), (I, 0)], D := ⟨2019⟩ })] []
theorem k_base_Gcd : KT e_base_Gcd j_base_Gcd [e_base_Size] 40 := fun x => by kernel_rfl
theorem o_base_Gcd : OT e_base_Gcd := entK (tab_cons o_base_Size tab_nil) hJ k_base_Gcd
def base_Lowest (a0 : Int) (a1 : Int) : Option (Int × Int × Unit) :=
 (base_Gcd a0 a1).bind fun x1 =>
 (bif decide (a1 < 0) then
   some (w64 (0 - x1))
  else
   some x1).bind fun (p2 : Int) =>
 bif decide (p2 = 0) then
  none
 else
  bif decide (p2 = 0) then
   none
  else
   some (w64 (a0.tdiv p2), w64 (a1.tdiv p2), ())
def e_base_Lowest : Entry := ⟨96, [.ty I, .ty I], [(gT, 0)], fun x => base_Lowest x.1 x.2⟩
def j_base_Lowest : TH := mkTH [([], 96, .cond 10, { lv := [⟨none, 5, 0⟩], ps := [(I, 0)], D := ⟨6176⟩ })] []
theorem k_base_Lowest : KT e_base_Lowest j_base_Lowest [e_base_Gcd] 40 := fun x => by kernel_rfl
theorem o_base_Lowest : OT e_base_Lowest := entK (tab_cons o_base_Gcd tab_nil) hJ k_base_Lowest
def ref04_Coherence (a0 : ((List (List (Int × Int × Unit))) × (List (List (Int × Int × Unit))) × Unit)) (a1 : Int) : Option (Int × Int × Unit) :=
 (ref04_Crossed a0.1 a0.1).bind fun x1 =>
 (ref04_Crossed a0.2.1 a0.1).bind fun x2 =>
 (idx x2 a1).bind fun x3 =>
 (ref04_Adjugate x1).bind fun x4 =>
 (ref04_Product ([x3]) x4).bind fun x5 =>
 (idx x5 0).bind fun x6 =>
 (loopO (fun (s8 : (Int × Int)) =>
   bif decide (s8.2 < (x3.length : Int)) then
    (idx x6 s8.2).bind fun x9 =>
    (idx x3 s8.2).bind fun x10 =>
    (base_GConj x10).bind fun x11 =>
    (base_GMul x9 x11).bind fun x12 =>
    some (.inl (w64 (s8.1 + x12.1), w64 (s8.2 + 1)))
   else
    some (.inr s8.1)) (0, 0)).bind fun (p13 : Int) =>
 (ref04_Determinant x1).bind fun x14 =>
 (ref04_power a0 a1).bind fun x15 =>
 (base_Lowest p13 (w64 (x14.1 * x15))).bind fun x16 =>
 some x16
def e_ref04_Coherence : Entry := ⟨17, [.ty (.pair (.sl (.sl gT)) (.pair (.sl (.sl gT)) .unit)), .ty I], [(gT, 0)], fun x => ref04_Coherence x.1 x.2⟩
def j_ref04_Coherence : TH := mkTH [([], 17, .block 0, { lv := [⟨none, 8, 0⟩], ps := [(I, 0)], D := ⟨562948879680256⟩ }),
 ([], 17, .loop 0, { lv := [⟨none, 8, 0⟩, ⟨none, 9, 0⟩], ps := [(I, 0), (I, 0)], D := ⟨562948879680256⟩ })] []
theorem k_ref04_Coherence : KT e_ref04_Coherence j_ref04_Coherence [e_base_GConj, e_base_GMul, e_base_Lowest, e_ref04_Adjugate, e_ref04_Crossed, e_ref04_Determinant, e_ref04_Product, e_ref04_power] 40 := fun x => by kernel_rfl
theorem o_ref04_Coherence : OT e_ref04_Coherence := entK (tab_cons o_base_GConj (tab_cons o_base_GMul (tab_cons o_base_Lowest (tab_cons o_ref04_Adjugate (tab_cons o_ref04_Crossed (tab_cons o_ref04_Determinant (tab_cons o_ref04_Product (tab_cons o_ref04_power tab_nil)))))))) hJ k_ref04_Coherence
def base_IsSmall (a0 : (Int × Int × Unit)) : Option Bool :=
 ((base_Within a0.1 (-1000000000 : Int) (1000000000 : Int)).bind fun x1 =>
  bif x1 then
   (base_Within a0.2.1 (1 : Int) (1000000000 : Int)).bind fun x2 =>
   some x2
  else
   some false).bind fun (p3 : Bool) =>
 some p3
def e_base_IsSmall : Entry := ⟨40, [.ty gT], [(.bool, 0)], fun x => base_IsSmall x⟩
def j_base_IsSmall : TH := mkTH [([], 40, .region 1, { lv := [⟨none, 2, 0⟩], ps := [(.bool, 0)], D := ⟨2044⟩, rs := [⟨0, 1⟩], Dn := ⟨1908⟩ })] []
theorem k_base_IsSmall : KT e_base_IsSmall j_base_IsSmall [e_base_Within] 40 := fun x => by kernel_rfl
theorem o_base_IsSmall : OT e_base_IsSmall := entK (tab_cons o_base_Within tab_nil) hJ k_base_IsSmall
def ref04_CoherenceErr (a0 : ((List (List (Int × Int × Unit))) × (List (List (Int × Int × Unit))) × Unit)) (a1 : Int) : Option Int :=
 (ref04_EstimateErr (a0.1, a0.2.1, ())).bind fun x1 =>
 bif !(decide (x1 = 0)) then
  some x1
 else
  (idx a0.1 0).bind fun x2 =>
  (base_Within a1 (0 : Int) (w64 ((x2.length : Int) - 1))).bind fun x3 =>
  bif !x3 then
   some 6
  else
   (ref04_power (a0.1, a0.2.1, ()) a1).bind fun x4 =>
   bif decide (x4 = 0) then
    some 12
   else
    (ref04_Coherence (a0.1, a0.2.1, ()) a1).bind fun x5 =>
    (base_IsSmall x5).bind fun x6 =>
    bif !x6 then
     some 8
    else
     some 0
def e_ref04_CoherenceErr : Entry := ⟨16, [.ty (.pair (.sl (.sl gT)) (.pair (.sl (.sl gT)) .unit)), .ty I], [(I, 0)], fun x => ref04_CoherenceErr x.1 x.2⟩
def j_ref04_CoherenceErr : TH := mkTH [] []
theorem k_ref04_CoherenceErr : KT e_ref04_CoherenceErr j_ref04_CoherenceErr [e_base_IsSmall, e_base_Within, e_ref04_Coherence, e_ref04_EstimateErr, e_ref04_power] 40 := fun x => by kernel_rfl
theorem o_ref04_CoherenceErr : OT e_ref04_CoherenceErr := entK (tab_cons o_base_IsSmall (tab_cons o_base_Within (tab_cons o_ref04_Coherence (tab_cons o_ref04_EstimateErr (tab_cons o_ref04_power tab_nil))))) hJ k_ref04_CoherenceErr
def law04_DriveCoherences (a0 : ((List (List (Int × Int × Unit))) × (List (List (Int × Int × Unit))) × Unit)) (a1 : Int) : Option Bool :=
 (law04_awake).bind fun x1 =>
 bif !x1 then
  some false
 else
  (law04_fewRuns (a0.1, a0.2.1, ())).bind fun x2 =>
  bif !x2 then
   some true
  else
   (ref04_CopyRuns (a0.1, a0.2.1, ())).bind fun x3 =>
   (drive_CoherenceOf x3 a1).bind fun x4 =>
   (ref04_CoherenceErr (a0.1, a0.2.1, ()) a1).bind fun x5 =>
   bif !(decide (x5 = 0)) then
    (bif decide (x4.2 = x5) then
      let v6 : Bool := (bif decide (x4.1.1 = 0) then (bif decide (x4.1.2.1 = 0) then true else false) else false)
      some v6
     else
      some false).bind fun (p7 : Bool) =>
    some p7
   else
    (bif decide (x4.2 = 0) then
      (ref04_Coherence (a0.1, a0.2.1, ()) a1).bind fun x8 =>
      let v9 : Bool := (bif decide (x4.1.1 = x8.1) then (bif decide (x4.1.2.1 = x8.2.1) then true else false) else false)
      bif v9 then
       (base_Within x4.1.1 (0 : Int) x4.1.2.1).bind fun x10 =>
       some x10
      else
       some false
     else
      some false).bind fun (p11 : Bool) =>
    some p11
def e_law04_DriveCoherences : Entry := ⟨3, [.ty (.pair (.sl (.sl gT)) (.pair (.sl (.sl gT)) .unit)), .ty I], [(.bool, 0)], fun x => law04_DriveCoherences x.1 x.2⟩
def j_law04_DriveCoherences : TH := mkTH [([], 3, .region 8, { lv := [⟨none, 4, 0⟩], ps := [(.bool, 0)], D := ⟨8556380176⟩ }),
 ([], 3, .region 9, { lv := [⟨none, 4, 0⟩], ps := [(.bool, 0)], D := ⟨562941363486736⟩, rs := [⟨0, 5⟩], Dn := ⟨518960898375696⟩ })] []
theorem k_law04_DriveCoherences : KT e_law04_DriveCoherences j_law04_DriveCoherences [e_base_Within, e_drive_CoherenceOf, e_law04_awake, e_law04_fewRuns, e_ref04_Coherence, e_ref04_CoherenceErr, e_ref04_CopyRuns] 40 := fun x => by kernel_rfl
theorem o_law04_DriveCoherences : OT e_law04_DriveCoherences := entK (tab_cons o_base_Within (tab_cons o_drive_CoherenceOf (tab_cons o_law04_awake (tab_cons o_law04_fewRuns (tab_cons o_ref04_Coherence (tab_cons o_ref04_CoherenceErr (tab_cons o_ref04_CopyRuns tab_nil))))))) hJ k_law04_DriveCoherences
def ref04_one (a0 : Int) (a1 : Int) : Option (List (List (Int × Int × Unit))) :=
 (loopO (fun (s3 : ((List (List (Int × Int × Unit))) × Int)) =>
   bif decide (s3.2 < a0) then
    (mkS (0, 0, ()) a0).bind fun x4 =>
    bif decide (a0 = a0) then
     (idx x4 s3.2).bind fun x5 =>
     (idx x4 s3.2).bind fun x6 =>
     let l7 : (List (Int × Int × Unit)) := List.set x4 s3.2.toNat (a1, 0, ())
     (app s3.1 ([l7])).bind fun x8 =>
     some (.inl (x8, w64 (s3.2 + 1)))
    else
     none
   else
    some (.inr s3.1)) ([], 0)).bind fun (p9 : (List (List (Int × Int × Unit)))) =>
 some p9
end
end Go.Proofs.YtbcdgfgacigaoaaGreat
end
section
namespace Go.Proofs.YtbcdgfgacigaoaaGreat.Mat
open Go Go.Ab Go.Tx Go.Proofs.YtbcdgfgacigaoaaGreat
theorem wid {n : Int} (h1 : -9223372036854775808 <= n) (h2 : n <= 9223372036854775807) : w64 n = n := wrap_id h1 h2
theorem Within_ok (a b c : Int) : base_Within a b c = some (decide (b <= a /\ a <= c)) := by
 unfold base_Within;by_cases h : b <= a <;> simp [h]
theorem within_ok (a b c : Int) : drive_within a b c = some (decide (b <= a /\ a <= c)) := by
 unfold drive_within;by_cases h : b <= a <;> simp [h]
theorem isSized_ok (a k : Int) (h0 : 0 <= k) (h1 : k <= 4611686018427387904) : drive_isSized a k = some (decide (-k <= a /\ a <= k)) := by
 unfold drive_isSized;rw [within_ok, wid (by omega) (by omega)];simp
theorem unless_eq (b : Bool) (e : Int) : drive_unless b e = some (if b then 0 else e) := by cases b <;> rfl
theorem first_eq (l : List Int) (h : l.length <= 1000000000) : drive_first l = some (fst0 l) := by
 unfold drive_first;rw [for_first l h]
instance (B : Int) (z : G) : Decidable (Bd B z) := inferInstanceAs (Decidable (_ /\ _))
theorem whole_isSized_ok (z : G) (k : Int) (h0 : 0 <= k) (h1 : k <= 4611686018427387904) : drive_whole_isSized z k = some (decide (Bd k z)) := by
 unfold drive_whole_isSized;rw [isSized_ok _ _ h0 h1, isSized_ok _ _ h0 h1];unfold Bd;by_cases c : -k <= z.1 /\ z.1 <= k <;> simp [c]
theorem refIsSized_ok (z : G) (k : Int) (h0 : 0 <= k) (h1 : k <= 4611686018427387904) : ref04_isSized z k = some (decide (Bd k z)) := by
 unfold ref04_isSized;rw [wid (by omega) (by omega), Within_ok, Within_ok];unfold Bd;have e : (0 : Int) - k = -k := by omega
 rw [e];by_cases c : -k <= z.1 /\ z.1 <= k <;> simp [c]
def badZ (B : Int) (z : G) : Bool := !(decide (Bd B z))
theorem at_ok {n c i k : Nat} (f : Nat -> Nat -> G) (hi : i < n) (hk : k < c) : drive_matrix_at (mx n c f) (i : Int) (k : Int) = some (f i k) := by
 unfold drive_matrix_at;rw [idx_of (mx_at f hi), Option.bind_some, idx_of (mkL_get (fun k => f i k) hk)]; rfl
theorem times_ok' {A B : Int} {a b : G} (h : Bd A a) (h' : Bd B b) (hb : 2 * (A * B) <= 9000000000000000000) : drive_whole_times a b = some (gmul a b) := congrArg some (mul_w h h' hb)
theorem plus_ok {A B : Int} {a b : G} (h : Bd A a) (h' : Bd B b) (hb : A + B <= 9000000000000000000) : drive_whole_plus a b = some (gadd a b) := congrArg some (add_w h h' hb)
theorem GMul_ok {A B : Int} {a b : G} (h : Bd A a) (h' : Bd B b) (hb : 2 * (A * B) <= 9000000000000000000) : base_GMul a b = some (gmul a b) := congrArg some (mul_w h h' hb)
theorem GAdd_ok {A B : Int} {a b : G} (h : Bd A a) (h' : Bd B b) (hb : A + B <= 9000000000000000000) : base_GAdd a b = some (gadd a b) := congrArg some (add_w h h' hb)
theorem le_next {i n : Nat} {A : Int} (hA : 0 <= A) (h : i < n) (hb : (n : Int) * A <= 9000000000000000000) : (i : Int) * A + A <= 9000000000000000000 := by
 have : ((i + 1 : Nat) : Int) * A <= (n : Int) * A := Int.mul_le_mul_of_nonneg_right (by omega) hA;have e : ((i + 1 : Nat) : Int) * A = (i : Int) * A + A := by rw [Int.natCast_add, Int.add_mul]; simp
 omega
theorem times1_ok {a b c i k : Nat} {A B : Int} {f h : Nat -> Nat -> G} (hA : 0 <= A) (hB : 0 <= B) (hf : BdF A a b f) (hh : BdF B b c h) (hb : b <= 1000) (hbd : (b : Int) * (2 * (A * B)) <= 9000000000000000000) (hb1 : 2 * (A * B) <= 9000000000000000000) (hi : i < a) (hk : k < c) :
  drive_matrix_times_1 (i : Int) (k : Int) (mx b c h) (mx a b f) = some (prodF b f h i k) := by
 unfold drive_matrix_times_1;rw [mx_len];have h0 : 0 <= 2 * (A * B) := by have := Int.mul_nonneg hA hB; omega
 rw [sum_loop b hb h0 hbd (fun j => gmul (f i j) (h j k)) (fun j hj => (hf i j hi hj).mul (hh j k hj hk)) (fun j hj x y hxy => ?_) (fun x y => ?_)]
 ·rfl
 ·have e0 : decide ((j : Int) < (b : Int)) = true := decide_eq_true (by omega);simp only [e0, cond_true];rw [at_ok f hi hj, at_ok h hj hk];simp only [Option.bind_some];rw [times_ok' (hf i j hi hj) (hh j k hj hk) hb1];simp only [Option.bind_some];rw [plus_ok hxy ((hf i j hi hj).mul (hh j k hj hk)) (le_next h0 hj hbd)];rfl
 ·have e0 : decide ((b : Int) < (b : Int)) = false := by simp
  simp only [e0, cond_false]
theorem times_ok {a b c : Nat} {A B : Int} {f h : Nat -> Nat -> G} (hA : 0 <= A) (hB : 0 <= B) (hf : BdF A a b f) (hh : BdF B b c h) (ha : a <= 1000) (hb : b <= 1000) (hb1 : 1 <= b) (hc : c <= 1000) (hbd : (b : Int) * (2 * (A * B)) <= 9000000000000000000) :
  drive_matrix_times (mx a b f) (mx b c h) = some (mx a c (prodF b f h)) := by
 unfold drive_matrix_times drive_made_of_drive_matrix_times_1;rw [idx_zero, mx_at h (by omega), Option.bind_some, mkL_len, mx_len];have h0 : 0 <= 2 * (A * B) := by have := Int.mul_nonneg hA hB; omega
 have h1 : 2 * (A * B) <= 9000000000000000000 := by
  have := Int.mul_le_mul_of_nonneg_right (show (1 : Int) <= b by omega) h0;omega
 have := made_loop a c ha hc (fun i k => drive_matrix_times_1 i k (mx b c h) (mx a b f)) (prodF b f h) (fun i k hi hk => times1_ok hA hB hf hh hb hbd h1 hi hk);show Option.bind _ _ = _;rw [this]; rfl
theorem Product_ok {a b c : Nat} {A B : Int} {f h : Nat -> Nat -> G} (hA : 0 <= A) (hB : 0 <= B) (hf : BdF A a b f) (hh : BdF B b c h) (ha : a <= 1000) (hb : b <= 1000) (hb1 : 1 <= b) (hc : c <= 1000) (hbd : (b : Int) * (2 * (A * B)) <= 9000000000000000000) :
  ref04_Product (mx a b f) (mx b c h) = some (mx a c (prodF b f h)) := by
 unfold ref04_Product;rw [mx_len, mx_len];have h0 : 0 <= 2 * (A * B) := by have := Int.mul_nonneg hA hB; omega
 have h1 : 2 * (A * B) <= 9000000000000000000 := by
  have := Int.mul_le_mul_of_nonneg_right (show (1 : Int) <= b by omega) h0;omega
 rw [for_mk a (fun i => mkL c fun k => prodF b f h i k) (fun i hi => ?_) ?_]
 ·rfl
 ·have e0 : decide ((a : Int) < (a : Int)) = false := by simp
  simp only [e0, cond_false]
 ·have e0 : decide ((i : Int) < (a : Int)) = true := decide_eq_true (by omega);simp only [e0, cond_true];rw [for_mk c (fun k => prodF b f h i k) (fun k hk => ?_) ?_]
  ·simp only [Option.bind_some];rw [app_one (by rw [mkL_len]; omega)];simp only [Option.bind_some];rw [wid (by omega) (by omega)]
  ·have e1 : decide ((c : Int) < (c : Int)) = false := by simp
   rw [idx_zero, mx_at h (by omega)];simp only [Option.bind_some, mkL_len, e1, cond_false]
  ·have e1 : decide ((k : Int) < (c : Int)) = true := decide_eq_true (by omega);rw [idx_zero, mx_at h (by omega)];simp only [Option.bind_some, mkL_len, e1, cond_true];rw [sum_loop b hb h0 hbd (fun j => gmul (f i j) (h j k)) (fun j hj => (hf i j hi hj).mul (hh j k hj hk)) (fun j hj x y hxy => ?_) (fun x y => ?_)]
   ·simp only [Option.bind_some];rw [app_one (by rw [mkL_len]; omega)];simp only [Option.bind_some];rw [wid (by omega) (by omega)];rfl
   ·have e0 : decide ((j : Int) < (b : Int)) = true := decide_eq_true (by omega);simp only [e0, cond_true];rw [idx_of (mx_at f hi), Option.bind_some, idx_of (mkL_get (fun k => f i k) hj), Option.bind_some, idx_of (mx_at h hj), Option.bind_some, idx_of (mkL_get (fun k => h j k) hk), Option.bind_some];rw [GMul_ok (hf i j hi hj) (hh j k hj hk) h1];simp only [Option.bind_some];rw [GAdd_ok hxy ((hf i j hi hj).mul (hh j k hj hk)) (le_next h0 hj hbd)];rfl
   ·have e0 : decide ((b : Int) < (b : Int)) = false := by simp
    simp only [e0, cond_false]
theorem without_ok {n c : Nat} (hn : n <= 1000) (f : Nat -> Nat -> G) (hc : c < n + 1) : drive_matrix_without (mx (n + 1) (n + 1) f) 0 (c : Int) = some (mx n n (minor f 0 c)) := by
 unfold drive_matrix_without;rw [mx_len];refine Ok.eq ?_;rw [ok_bind];refine (loop_up (n + 1) (fun i (s : Mx × Int) => s = (mkL (i - 1) (fun j => mkL n fun k => minor f 0 c j k), (i : Int))) (fun r => r = mx n n (minor f 0 c)) rfl ?_).mono (fun a ha => by rw [ha]; exact ok_some.2 rfl);rintro i s hi rfl;by_cases hlt : i < n + 1
 ·have e0 : decide ((i : Int) < ((n + 1 : Nat) : Int)) = true := decide_eq_true (by omega);simp only [e0, cond_true];rw [idx_of (mx_at f hlt)];simp only [Option.bind_some];by_cases hz : i = 0
  ·subst hz;simp only [Int.ofNat_eq_natCast, Int.natCast_zero, decide_true, Bool.not_true, cond_false, Option.bind_some];rw [wid (by omega) (by omega), rnd_inl];exact ⟨by omega, rfl⟩
  ·have e1 : decide ((i : Int) = 0) = false := decide_eq_false (by omega);simp only [e1, Bool.not_false, cond_true];rw [slc_in (by rw [mkL_len]; omega)];simp only [Option.bind_some, decide_true, cond_true];rw [wid (n := (c : Int) + 1) (by omega) (by omega), slc_in (by rw [mkL_len]; omega)];simp only [Option.bind_some, mkL_len];have e2 : ((c : Int) + 1).toNat = c + 1 := by omega
   have e3 : ((n + 1 : Nat) : Int).toNat = n + 1 := by omega
   have e4 : (0 : Int).toNat = 0 := rfl;rw [e2, e3, e4, Int.toNat_natCast, app_in (by simp [mkL_len]; omega)];simp only [Option.bind_some];rw [mkL_cut (fun k => f i k) hc, app_one (by rw [mkL_len]; omega)];simp only [Option.bind_some];rw [wid (by omega) (by omega), rnd_inl];refine ⟨hlt, ?_⟩;have e5 : i + 1 - 1 = (i - 1) + 1 := by omega
   rw [e5, mkL_succ];congr 1
   congr 2
   refine mkL_congr fun k hk => ?_;unfold minor;congr 1
   all_goals (unfold skip; rw [if_neg (by omega)]; omega)
 ·have : i = n + 1 := by omega
  subst this;have e0 : decide (((n + 1 : Nat) : Int) < ((n + 1 : Nat) : Int)) = false := by simp
  simp only [e0, cond_false];rw [rnd_inr];rfl
theorem refWithout_ok {n c : Nat} (hn : n <= 1000) (f : Nat -> Nat -> G) (hc : c < n + 1) : ref04_without (mx (n + 1) (n + 1) f) 0 (c : Int) = some (mx n n (minor f 0 c)) := by
 unfold ref04_without;rw [mx_len];refine Ok.eq ?_;rw [ok_bind];refine (loop_up (n + 1) (fun i (s : Mx × Int) => s = (mkL (i - 1) (fun j => mkL n fun k => minor f 0 c j k), (i : Int))) (fun r => r = mx n n (minor f 0 c)) rfl ?_).mono (fun a ha => by rw [ha]; exact ok_some.2 rfl);rintro i s hi rfl;by_cases hlt : i < n + 1
 ·have e0 : decide ((i : Int) < ((n + 1 : Nat) : Int)) = true := decide_eq_true (by omega);simp only [e0, cond_true];by_cases hz : i = 0
  ·subst hz;simp only [Int.ofNat_eq_natCast, Int.natCast_zero, decide_true, cond_true, Option.bind_some];rw [wid (by omega) (by omega), rnd_inl];exact ⟨by omega, rfl⟩
  ·have e1 : decide ((i : Int) = 0) = false := decide_eq_false (by omega);simp only [e1, cond_false];rw [rnd_bind, ok_bind];refine (loop_up (n + 1) (fun k (s : List G × Int) => s = (mkL (if k <= c then k else k - 1) (fun k => f i (skip c k)), (k : Int))) (fun r => r = mkL n fun k => f i (skip c k)) ?_ ?_).mono ?_
   ·simp [mkL_zero]
   ·rintro k s hk rfl;by_cases hlt2 : k < n + 1
    ·have e2 : decide ((k : Int) < ((n + 1 : Nat) : Int)) = true := decide_eq_true (by omega);simp only [e2, cond_true];by_cases hkc : k = c
     ·subst hkc;simp only [decide_true, Bool.not_true, cond_false, Option.bind_some];rw [wid (by omega) (by omega), rnd_inl];refine ⟨hlt2, ?_⟩;rw [if_pos (by omega), if_neg (by omega)];rfl
     ·have e3 : decide ((k : Int) = (c : Int)) = false := decide_eq_false (by omega);simp only [e3, Bool.not_false, cond_true];rw [idx_of (mx_at f hlt)];simp only [Option.bind_some];rw [idx_of (mkL_get (fun k => f i k) hlt2)];simp only [Option.bind_some];rw [app_one (by rw [mkL_len]; split <;> omega)];simp only [Option.bind_some];rw [wid (by omega) (by omega), rnd_inl];refine ⟨hlt2, ?_⟩;congr 1
      by_cases hkl : k < c
      ·rw [if_pos (by omega), if_pos (by omega), mkL_succ];congr 3
       unfold skip; rw [if_pos hkl]
      ·rw [if_neg (by omega), if_neg (by omega)];have e5 : k + 1 - 1 = (k - 1) + 1 := by omega
       rw [e5, mkL_succ];congr 3
       unfold skip; rw [if_neg (by omega)]; omega
    ·have : k = n + 1 := by omega
     subst this;have e2 : decide (((n + 1 : Nat) : Int) < ((n + 1 : Nat) : Int)) = false := by simp
     simp only [e2, cond_false];rw [rnd_inr, if_neg (by omega)];rfl
   ·rintro r rfl;rw [app_one (by rw [mkL_len]; omega)];simp only [Option.bind_some];rw [ok_some, wid (by omega) (by omega), rnd_inl];refine ⟨hlt, ?_⟩;have e5 : i + 1 - 1 = (i - 1) + 1 := by omega
    rw [e5, mkL_succ];congr 1
    congr 2
    refine mkL_congr fun k hk => ?_;unfold minor;congr 1
    all_goals (unfold skip; rw [if_neg (by omega)]; omega)
 ·have : i = n + 1 := by omega
  subst this;have e0 : decide (((n + 1 : Nat) : Int) < ((n + 1 : Nat) : Int)) = false := by simp
  simp only [e0, cond_false];rw [rnd_inr];rfl
theorem dB_mono {B : Int} (hB : 1 <= B) (n : Nat) : dB B n <= dB B (n + 1) := by
 have e : dB B (n + 1) = ((n + 1 : Nat) : Int) * (2 * (B * dB B n)) := rfl;rw [e];have h0 := dB_nonneg (show 0 <= B by omega) n;have h1 : dB B n <= B * dB B n := by
  have := Int.mul_le_mul_of_nonneg_right hB h0; omega
 have h2 : (1 : Int) * (2 * (B * dB B n)) <= ((n + 1 : Nat) : Int) * (2 * (B * dB B n)) := Int.mul_le_mul_of_nonneg_right (by omega) (by omega);omega
theorem det_ok {B : Int} (hB : 1 <= B) : ∀ (k n : Nat) (f : Nat -> Nat -> G), n <= 100 -> n < k -> BdF B n n f -> dB B n <= 9000000000000000000 -> drive_matrix_determinant_n k (mx n n f) = some (detF n f)
 | 0, n, f, _, h, _, _ => by omega
 | k + 1, 0, f, _, _, _, _ => rfl
 | k + 1, n + 1, f, hn, hk, hf, hb => by
  have hB0 : 0 <= B := by omega
  have hD0 := dB_nonneg hB0 n;have h0 : 0 <= 2 * (B * dB B n) := by have := Int.mul_nonneg hB0 hD0; omega
  have hDn : dB B n <= 9000000000000000000 := by have := dB_mono hB n; omega
  have hb1 : 2 * (B * dB B n) <= 9000000000000000000 := by
   have h9 : (1 : Int) * (2 * (B * dB B n)) <= ((n + 1 : Nat) : Int) * (2 * (B * dB B n)) := Int.mul_le_mul_of_nonneg_right (by omega) h0;simp only [dB] at hb;omega
  have hunf : drive_matrix_determinant_n (k + 1) (mx (n + 1) (n + 1) f) = (bif decide (((mx (n + 1) (n + 1) f).length : Int) = 0) then some (1, 0, ()) else
   (loopO (fun (s2 : (Int × Int × Int)) =>
    bif decide (s2.1 < ((mx (n + 1) (n + 1) f).length : Int)) then
     (drive_matrix_at (mx (n + 1) (n + 1) f) (0 : Int) s2.1).bind fun x3 =>
     (drive_matrix_without (mx (n + 1) (n + 1) f) (0 : Int) s2.1).bind fun x4 =>
     (drive_matrix_determinant_n k x4).bind fun x5 =>
     (drive_whole_times x3 x5).bind fun x6 =>
     (bif decide (s2.1.tmod 2 = 1) then
       (drive_whole_minus (0, 0, ()) x6).bind fun x7 =>
       some (x7.1, x7.2.1)
      else
       some (x6.1, x6.2.1)).bind fun (p8 : (Int × Int)) =>
     (drive_whole_plus (s2.2.1, s2.2.2, ()) (p8.1, p8.2, ())).bind fun x9 =>
     some (.inl (w64 (s2.1 + 1), x9.1, x9.2.1))
    else
     some (.inr (s2.2.1, s2.2.2))) (0, 0, 0)).bind fun (p10 : (Int × Int)) =>
   some (p10.1, p10.2, ())) := rfl
  rw [hunf, mx_len];have e0 : decide (((n + 1 : Nat) : Int) = 0) = false := decide_eq_false (by omega);rw [e0, cond_false];have htb : ∀ j, j < n + 1 -> Bd (2 * (B * dB B n)) (gmul (f 0 j) (detF n (minor f 0 j))) := fun j hj => (hf 0 j (by omega) hj).mul (detF_bd hB0 n _ (minor_bd hf));rw [sum_loop (n + 1) (by omega) h0 hb (fun j => if j % 2 = 1 then gneg (gmul (f 0 j) (detF n (minor f 0 j))) else gmul (f 0 j) (detF n (minor f 0 j)))
   (fun j hj => by
           split; · exact (htb j hj).neg
           ·exact htb j hj) (fun j hj x y hxy => ?_) (fun x y => ?_)]
  ·rfl
  ·have e1 : decide ((j : Int) < ((n + 1 : Nat) : Int)) = true := decide_eq_true (by omega);simp only [e1, cond_true];have hat := at_ok (n := n + 1) (c := n + 1) f (i := 0) (k := j) (by omega) hj;simp only [Int.natCast_zero] at hat;rw [hat];simp only [Option.bind_some];rw [without_ok (by omega) f hj];simp only [Option.bind_some];rw [det_ok hB k n _ (by omega) (by omega) (minor_bd hf) hDn];simp only [Option.bind_some];rw [times_ok' (hf 0 j (by omega) hj) (detF_bd hB0 n _ (minor_bd (r := 0) (c := j) hf)) hb1];simp only [Option.bind_some];have htm : (j : Int).tmod 2 = ((j % 2 : Nat) : Int) := by rw [Int.tmod_eq_emod_of_nonneg (by omega)]; omega
   rw [htm];by_cases hp : j % 2 = 1
   ·have e2 : decide (((j % 2 : Nat) : Int) = 1) = true := decide_eq_true (by omega);rw [e2, cond_true, if_pos hp];have hm : drive_whole_minus (0, 0, ()) (gmul (f 0 j) (detF n (minor f 0 j))) = some (gneg (gmul (f 0 j) (detF n (minor f 0 j)))) := by
     have := sub_w (a := g0) (bd_zero (B := 0) (by omega)) (htb j hj) (by omega);rw [gzero_sub] at this;exact congrArg some this
    rw [hm];simp only [Option.bind_some, geta];rw [plus_ok hxy (htb j hj).neg (le_next h0 hj hb)];rfl
   ·have e2 : decide (((j % 2 : Nat) : Int) = 1) = false := decide_eq_false (by omega);rw [e2, cond_false, if_neg hp];simp only [Option.bind_some, geta];rw [plus_ok hxy (htb j hj) (le_next h0 hj hb)];rfl
  ·have e1 : decide (((n + 1 : Nat) : Int) < ((n + 1 : Nat) : Int)) = false := by simp
   simp only [e1, cond_false]
theorem Mod2_ok (n : Nat) (h : n <= 1000000000) : base_Mod (n : Int) 2 = some ((n % 2 : Nat) : Int) := by
 unfold base_Mod;have e : ((n : Int).tmod 2) = ((n % 2 : Nat) : Int) := by rw [Int.tmod_eq_emod_of_nonneg (by omega)]; omega
 rw [e];have e1 : decide ((2 : Int) = 0) = false := by decide
 have e2 : decide (((n % 2 : Nat) : Int) < 0) = false := decide_eq_false (by omega);simp only [e1, e2, cond_false, Option.bind_some]
theorem refDet_ok {B : Int} (hB : 1 <= B) : ∀ (k n : Nat) (f : Nat -> Nat -> G), n <= 100 -> n < k -> BdF B n n f -> dB B n <= 9000000000000000000 -> ref04_Determinant_n k (mx n n f) = some (detF n f)
 | 0, n, f, _, h, _, _ => by omega
 | k + 1, 0, f, _, _, _, _ => rfl
 | k + 1, n + 1, f, hn, hk, hf, hb => by
  have hB0 : 0 <= B := by omega
  have hD0 := dB_nonneg hB0 n;have h0 : 0 <= 2 * (B * dB B n) := by have := Int.mul_nonneg hB0 hD0; omega
  have hDn : dB B n <= 9000000000000000000 := by have := dB_mono hB n; omega
  have hb1 : 2 * (B * dB B n) <= 9000000000000000000 := by
   have h9 : (1 : Int) * (2 * (B * dB B n)) <= ((n + 1 : Nat) : Int) * (2 * (B * dB B n)) := Int.mul_le_mul_of_nonneg_right (by omega) h0;simp only [dB] at hb;omega
  have hunf : ref04_Determinant_n (k + 1) (mx (n + 1) (n + 1) f) = (bif decide (((mx (n + 1) (n + 1) f).length : Int) = 0) then some (1, 0, ()) else
   (loopO (fun (s2 : (Int × Int × Int)) =>
    bif decide (s2.1 < ((mx (n + 1) (n + 1) f).length : Int)) then
     (idx (mx (n + 1) (n + 1) f) 0).bind fun x3 =>
     (idx x3 s2.1).bind fun x4 =>
     (ref04_without (mx (n + 1) (n + 1) f) (0 : Int) s2.1).bind fun x5 =>
     (ref04_Determinant_n k x5).bind fun x6 =>
     (base_GMul x4 x6).bind fun x7 =>
     (base_Mod s2.1 (2 : Int)).bind fun x8 =>
     (bif decide (x8 = 0) then
       (base_GAdd (s2.2.1, s2.2.2, ()) x7).bind fun x9 =>
       some (x9.1, x9.2.1)
      else
       (base_GSub (s2.2.1, s2.2.2, ()) x7).bind fun x10 =>
       some (x10.1, x10.2.1)).bind fun (p11 : (Int × Int)) =>
     some (.inl (w64 (s2.1 + 1), p11.1, p11.2))
    else
     some (.inr (s2.2.1, s2.2.2))) (0, 0, 0)).bind fun (p12 : (Int × Int)) =>
   some (p12.1, p12.2, ())) := rfl
  rw [hunf, mx_len];have e0 : decide (((n + 1 : Nat) : Int) = 0) = false := decide_eq_false (by omega);rw [e0, cond_false];have htb : ∀ j, j < n + 1 -> Bd (2 * (B * dB B n)) (gmul (f 0 j) (detF n (minor f 0 j))) := fun j hj => (hf 0 j (by omega) hj).mul (detF_bd hB0 n _ (minor_bd hf));rw [sum_loop (n + 1) (by omega) h0 hb (fun j => if j % 2 = 1 then gneg (gmul (f 0 j) (detF n (minor f 0 j))) else gmul (f 0 j) (detF n (minor f 0 j)))
   (fun j hj => by
           split; · exact (htb j hj).neg
           ·exact htb j hj) (fun j hj x y hxy => ?_) (fun x y => ?_)]
  ·rfl
  ·have e1 : decide ((j : Int) < ((n + 1 : Nat) : Int)) = true := decide_eq_true (by omega);simp only [e1, cond_true];rw [idx_zero, mx_at f (by omega)];simp only [Option.bind_some];rw [idx_of (mkL_get (fun k => f 0 k) hj)];simp only [Option.bind_some];rw [refWithout_ok (by omega) f hj];simp only [Option.bind_some];rw [refDet_ok hB k n _ (by omega) (by omega) (minor_bd hf) hDn];simp only [Option.bind_some];rw [GMul_ok (hf 0 j (by omega) hj) (detF_bd hB0 n _ (minor_bd (r := 0) (c := j) hf)) hb1];simp only [Option.bind_some];rw [Mod2_ok j (by omega)];simp only [Option.bind_some];by_cases hp : j % 2 = 1
   ·have e2 : decide (((j % 2 : Nat) : Int) = 0) = false := decide_eq_false (by omega);rw [e2, cond_false, if_pos hp];have hm : base_GSub (x, y, ()) (gmul (f 0 j) (detF n (minor f 0 j))) = some (gadd (x, y, ()) (gneg (gmul (f 0 j) (detF n (minor f 0 j))))) := by
     have := sub_w hxy (htb j hj) (le_next h0 hj hb);rw [gsub_eq] at this;exact congrArg some this
    rw [hm];rfl
   ·have e2 : decide (((j % 2 : Nat) : Int) = 0) = true := decide_eq_true (by omega);rw [e2, cond_true, if_neg hp];rw [GAdd_ok hxy (htb j hj) (le_next h0 hj hb)];rfl
  ·have e1 : decide (((n + 1 : Nat) : Int) < ((n + 1 : Nat) : Int)) = false := by simp
   simp only [e1, cond_false]
end Go.Proofs.YtbcdgfgacigaoaaGreat.Mat
end
section
namespace Go.Proofs.YtbcdgfgacigaoaaGreat.Mat
open Go Go.Ab Go.Tx Go.Proofs.YtbcdgfgacigaoaaGreat
theorem CopyGausses_ok {l : List G} (h : l.length <= 1000000000) : base_CopyGausses l = some l := by
 unfold base_CopyGausses; rw [app_nil (by omega)]; rfl
theorem CopyMatrix_ok {m : Mx} (h : m.length <= 1000000000) (hr : ∀ r ∈ m, r.length <= 1000000000) : ref04_CopyMatrix m = some m := by
 unfold ref04_CopyMatrix;rw [for_map m (fun r => r) (fun i a out hi ho => ?_) (fun out ho => ?_)]
 ·simp
 ·have hlt := len_lt hi;have e0 : decide ((i : Int) < (m.length : Int)) = true := decide_eq_true (by omega);simp only [e0, cond_true, idx_of hi, Option.bind_some];rw [CopyGausses_ok (hr a (List.mem_of_getElem? hi))];simp only [Option.bind_some];rw [app_one (by omega)];simp only [Option.bind_some];rw [wid (by omega) (by omega)]
 ·have e0 : decide ((m.length : Int) < (m.length : Int)) = false := by simp
  simp only [e0, cond_false]
theorem geq_dec (a b : G) : (bif decide (a.1 = b.1) then (bif decide (a.2.1 = b.2.1) then true else false) else false) = decide (a = b) := by
 rw [Bool.eq_iff_iff];rw [decide_eq_true_iff, gext_iff];by_cases h1 : a.1 = b.1 <;> by_cases h2 : a.2.1 = b.2.1 <;> simp [h1, h2]
def FewM (m : Mx) (rows : Nat) : Prop := m.length <= rows /\ ∀ r ∈ m, r.length <= 5
theorem fewOf_ok (m : Mx) (rows : Nat) (h : rows <= 1000) : Ok (law04_fewOf m (rows : Int)) fun b => b = true -> FewM m rows := by
 unfold law04_fewOf;by_cases hl : m.length <= rows
 case neg =>
  have d : decide ((m.length : Int) > (rows : Int)) = true := decide_eq_true (by omega);rw [d, cond_true]; exact ok_some.2 (by simp)
 have d : decide ((m.length : Int) > (rows : Int)) = false := decide_eq_false (by omega);rw [d, cond_false, for_find m _ (fun _ r => if r.length <= 5 then none else some false) (fun i a hi => ?_), elim_toSum]
 ·cases hf : findI (fun _ (r : List G) => if r.length <= 5 then none else some false) 0 m with
  | none =>
   rw [findI_none] at hf;refine ok_some.2 fun _ => ⟨hl, fun r hr => ?_⟩
   obtain ⟨i, hi⟩ := List.mem_iff_getElem?.1 hr;have := hf i r hi;simpa using this
  | some r =>
   obtain ⟨i, a, _, h2, _⟩ := findI_some hf;refine ok_some.2 fun h3 => ?_;subst h3;split at h2 <;> cases h2
 ·have hlt := len_lt hi;rw [idx_of hi, wid (by omega) (by omega)];simp only [Option.bind_some];by_cases c : a.length <= 5
  ·have d : decide ((a.length : Int) > 5) = false := decide_eq_false (by omega);simp only [d, cond_false, c, if_true, stp]
  ·have d : decide ((a.length : Int) > 5) = true := decide_eq_true (by omega);simp only [d, cond_true, c, if_false, stp]
end Go.Proofs.YtbcdgfgacigaoaaGreat.Mat
end
section
set_option maxRecDepth 1000000
namespace Go.Tx
open Go
def dd (a b c d e f g h i : G) : G := gadd (gsub (gmul a (gsub (gmul e i) (gmul f h))) (gmul b (gsub (gmul d i) (gmul f g)))) (gmul c (gsub (gmul d h) (gmul e g)))
theorem det1_eq (f : Nat -> Nat -> G) : detF 1 f = f 0 0 := by
 simp only [detF, sumG];exact gext (by simp [gmul, g1, g0, gadd]) (by simp [gmul, g1, g0, gadd])
theorem det2_eq (f : Nat -> Nat -> G) : detF 2 f = gsub (gmul (f 0 0) (f 1 1)) (gmul (f 0 1) (f 1 0)) := by
 have e0 : detF 1 (minor f 0 0) = f 1 1 := by rw [det1_eq]; rfl
 have e1 : detF 1 (minor f 0 1) = f 1 0 := by rw [det1_eq]; rfl
 have e : detF 2 f = gadd (gadd g0 (gmul (f 0 0) (detF 1 (minor f 0 0)))) (gneg (gmul (f 0 1) (detF 1 (minor f 0 1)))) := rfl;rw [e, e0, e1, gzero_add, <- gsub_eq]
theorem det3_eq (f : Nat -> Nat -> G) : detF 3 f = dd (f 0 0) (f 0 1) (f 0 2) (f 1 0) (f 1 1) (f 1 2) (f 2 0) (f 2 1) (f 2 2) := by
 have e0 : detF 2 (minor f 0 0) = gsub (gmul (f 1 1) (f 2 2)) (gmul (f 1 2) (f 2 1)) := by rw [det2_eq]; rfl
 have e1 : detF 2 (minor f 0 1) = gsub (gmul (f 1 0) (f 2 2)) (gmul (f 1 2) (f 2 0)) := by rw [det2_eq]; rfl
 have e2 : detF 2 (minor f 0 2) = gsub (gmul (f 1 0) (f 2 1)) (gmul (f 1 1) (f 2 0)) := by rw [det2_eq]; rfl
 have e : detF 3 f = gadd (gadd (gadd g0 (gmul (f 0 0) (detF 2 (minor f 0 0)))) (gneg (gmul (f 0 1) (detF 2 (minor f 0 1))))) (gmul (f 0 2) (detF 2 (minor f 0 2))) := rfl;rw [e, e0, e1, e2, gzero_add, <- gsub_eq];rfl
theorem prod1 (f h : Nat -> Nat -> G) (i k : Nat) : prodF 1 f h i k = gmul (f i 0) (h 0 k) := by simp only [prodF, sumG, gzero_add]
theorem prod2 (f h : Nat -> Nat -> G) (i k : Nat) : prodF 2 f h i k = gadd (gmul (f i 0) (h 0 k)) (gmul (f i 1) (h 1 k)) := by simp only [prodF, sumG, gzero_add]
theorem prod3 (f h : Nat -> Nat -> G) (i k : Nat) : prodF 3 f h i k = gadd (gadd (gmul (f i 0) (h 0 k)) (gmul (f i 1) (h 1 k))) (gmul (f i 2) (h 2 k)) := by simp only [prodF, sumG, gzero_add]
end Go.Tx
end
section
namespace Go.Proofs.YtbcdgfgacigaoaaGreat.Mat
open Go Go.Ab Go.Tx Go.Proofs.YtbcdgfgacigaoaaGreat
theorem Size_ok {n : Int} (h : -9223372036854775807 <= n /\ n <= 9223372036854775807) : base_Size n = some (n.natAbs : Int) := by
 unfold base_Size;rw [wid (by omega) (by omega)];congr 1; omega
theorem divisor_ok (l : List Int) (hl : l.length <= 1000000000) (hb : ∀ x ∈ l, x.natAbs <= 4611686018427387904) : drive_divisor l = some (gcdL l : Int) := by
 unfold drive_divisor; exact divisor_loop l hl hb
theorem without_any {n r c : Nat} (hn : n <= 1000) (f : Nat -> Nat -> G) (hr : r < n + 1) (hc : c < n + 1) : drive_matrix_without (mx (n + 1) (n + 1) f) (r : Int) (c : Int) = some (mx n n (minor f r c)) := by
 unfold drive_matrix_without;rw [mx_len];refine Ok.eq ?_;rw [ok_bind];refine (loop_up (n + 1) (fun i (s : Mx × Int) => s = (mkL (if i <= r then i else i - 1) (fun j => mkL n fun k => minor f r c j k), (i : Int))) (fun q => q = mx n n (minor f r c)) (by simp [mkL_zero]) ?_).mono (fun a ha => by rw [ha]; exact ok_some.2 rfl);rintro i s hi rfl;by_cases hlt : i < n + 1
 ·have e0 : decide ((i : Int) < ((n + 1 : Nat) : Int)) = true := decide_eq_true (by omega);simp only [e0, cond_true];rw [idx_of (mx_at f hlt)];simp only [Option.bind_some];by_cases hz : i = r
  ·subst hz;simp only [decide_true, Bool.not_true, cond_false, Option.bind_some];rw [wid (by omega) (by omega), rnd_inl];refine ⟨hlt, ?_⟩;rw [if_pos (Nat.le_refl _), if_neg (by omega)]; rfl
  ·have e1 : decide ((i : Int) = (r : Int)) = false := decide_eq_false (by omega);simp only [e1, Bool.not_false, cond_true];rw [slc_in (by rw [mkL_len]; omega)];simp only [Option.bind_some, decide_true, cond_true];rw [wid (n := (c : Int) + 1) (by omega) (by omega), slc_in (by rw [mkL_len]; omega)];simp only [Option.bind_some, mkL_len];have e2 : ((c : Int) + 1).toNat = c + 1 := by omega
   have e3 : ((n + 1 : Nat) : Int).toNat = n + 1 := by omega
   have e4 : (0 : Int).toNat = 0 := rfl;rw [e2, e3, e4, Int.toNat_natCast, app_in (by simp [mkL_len]; omega)];simp only [Option.bind_some];rw [mkL_cut (fun k => f i k) hc, app_one (by rw [mkL_len]; split <;> omega)];simp only [Option.bind_some];rw [wid (by omega) (by omega), rnd_inl];refine ⟨hlt, ?_⟩;congr 1
   by_cases hir : i < r
   ·rw [if_pos (by omega), if_pos (by omega), mkL_succ];congr 2
    refine mkL_congr fun k hk => ?_;unfold minor;rw [show skip r i = i by unfold skip; rw [if_pos hir]]
   ·rw [if_neg (by omega), if_neg (by omega)];have e5 : i + 1 - 1 = (i - 1) + 1 := by omega
    rw [e5, mkL_succ];congr 2
    refine mkL_congr fun k hk => ?_;unfold minor;rw [show skip r (i - 1) = i by unfold skip; rw [if_neg (by omega)]; omega]
 ·have : i = n + 1 := by omega
  subst this;have e0 : decide (((n + 1 : Nat) : Int) < ((n + 1 : Nat) : Int)) = false := by simp
  simp only [e0, cond_false];rw [rnd_inr, if_neg (by omega)];rfl
theorem refWithout_any {n r c : Nat} (hn : n <= 1000) (f : Nat -> Nat -> G) (hr : r < n + 1) (hc : c < n + 1) : ref04_without (mx (n + 1) (n + 1) f) (r : Int) (c : Int) = some (mx n n (minor f r c)) := by
 unfold ref04_without;rw [mx_len];refine Ok.eq ?_;rw [ok_bind];refine (loop_up (n + 1) (fun i (s : Mx × Int) => s = (mkL (if i <= r then i else i - 1) (fun j => mkL n fun k => minor f r c j k), (i : Int))) (fun q => q = mx n n (minor f r c)) (by simp [mkL_zero]) ?_).mono (fun a ha => by rw [ha]; exact ok_some.2 rfl);rintro i s hi rfl;by_cases hlt : i < n + 1
 ·have e0 : decide ((i : Int) < ((n + 1 : Nat) : Int)) = true := decide_eq_true (by omega);simp only [e0, cond_true];by_cases hz : i = r
  ·subst hz;simp only [decide_true, cond_true, Option.bind_some];rw [wid (by omega) (by omega), rnd_inl];refine ⟨hlt, ?_⟩;rw [if_pos (Nat.le_refl _), if_neg (by omega)]; rfl
  ·have e1 : decide ((i : Int) = (r : Int)) = false := decide_eq_false (by omega);simp only [e1, cond_false];rw [rnd_bind, ok_bind];refine (loop_up (n + 1) (fun k (s : List G × Int) => s = (mkL (if k <= c then k else k - 1) (fun k => f i (skip c k)), (k : Int))) (fun q => q = mkL n fun k => f i (skip c k)) (by simp [mkL_zero]) ?_).mono ?_
   ·rintro k s hk rfl;by_cases hlt2 : k < n + 1
    ·have e2 : decide ((k : Int) < ((n + 1 : Nat) : Int)) = true := decide_eq_true (by omega);simp only [e2, cond_true];by_cases hkc : k = c
     ·subst hkc;simp only [decide_true, Bool.not_true, cond_false, Option.bind_some];rw [wid (by omega) (by omega), rnd_inl];refine ⟨hlt2, ?_⟩;rw [if_pos (Nat.le_refl _), if_neg (by omega)];rfl
     ·have e3 : decide ((k : Int) = (c : Int)) = false := decide_eq_false (by omega);simp only [e3, Bool.not_false, cond_true];rw [idx_of (mx_at f hlt)];simp only [Option.bind_some];rw [idx_of (mkL_get (fun k => f i k) hlt2)];simp only [Option.bind_some];rw [app_one (by rw [mkL_len]; split <;> omega)];simp only [Option.bind_some];rw [wid (by omega) (by omega), rnd_inl];refine ⟨hlt2, ?_⟩;congr 1
      by_cases hkl : k < c
      ·rw [if_pos (by omega), if_pos (by omega), mkL_succ];congr 3
       unfold skip; rw [if_pos hkl]
      ·rw [if_neg (by omega), if_neg (by omega)];have e5 : k + 1 - 1 = (k - 1) + 1 := by omega
       rw [e5, mkL_succ];congr 3
       unfold skip; rw [if_neg (by omega)]; omega
    ·have : k = n + 1 := by omega
     subst this;have e2 : decide (((n + 1 : Nat) : Int) < ((n + 1 : Nat) : Int)) = false := by simp
     simp only [e2, cond_false];rw [rnd_inr, if_neg (by omega)];rfl
   ·rintro q rfl;rw [app_one (by rw [mkL_len]; split <;> omega)];simp only [Option.bind_some];rw [ok_some, wid (by omega) (by omega), rnd_inl];refine ⟨hlt, ?_⟩;congr 1
    by_cases hir : i < r
    ·rw [if_pos (by omega), if_pos (by omega), mkL_succ];congr 2
     refine mkL_congr fun k hk => ?_;unfold minor;rw [show skip r i = i by unfold skip; rw [if_pos hir]]
    ·rw [if_neg (by omega), if_neg (by omega)];have e5 : i + 1 - 1 = (i - 1) + 1 := by omega
     rw [e5, mkL_succ];congr 2
     refine mkL_congr fun k hk => ?_;unfold minor;rw [show skip r (i - 1) = i by unfold skip; rw [if_neg (by omega)]; omega]
 ·have : i = n + 1 := by omega
  subst this;have e0 : decide (((n + 1 : Nat) : Int) < ((n + 1 : Nat) : Int)) = false := by simp
  simp only [e0, cond_false];rw [rnd_inr, if_neg (by omega)];rfl
def parts (l : List G) : List Int := l.flatMap fun z => [z.1, z.2.1]
def partsM (m : Mx) : List Int := m.flatMap parts
theorem parts_app (l : List G) (z : G) : parts (l ++ [z]) = parts l ++ [z.1] ++ [z.2.1] := by simp [parts]
theorem partsM_app (m : Mx) (r : List G) : partsM (m ++ [r]) = partsM m ++ parts r := by simp [partsM]
theorem gcdF_app : ∀ (l m : List Int) (g : Nat), gcdF g (l ++ m) = gcdF (gcdF g l) m
 | [], m, g => rfl
 | x :: l, m, g => by simp only [List.cons_append, gcdF]; exact gcdF_app l m _
def qg (den : Int) (m : Mx) : Nat := gcdF den.natAbs (partsM m)
def quotF (g : Int) (f : Nat -> Nat -> G) (i k : Nat) : G := ((f i k).1.tdiv g, (f i k).2.1.tdiv g, ())
theorem parts_bd {B : Int} {l : List G} (h : ∀ z ∈ l, Bd B z) {x : Int} (hx : x ∈ parts l) : -B <= x /\ x <= B := by
 unfold parts at hx;obtain ⟨z, hz, hx⟩ := List.mem_flatMap.1 hx;have := h z hz;unfold Bd at this;simp only [List.mem_cons, List.not_mem_nil, or_false] at hx;rcases hx with rfl | rfl <;> omega
theorem partsM_bd {B : Int} {m : Mx} (h : BdM B m) {x : Int} (hx : x ∈ partsM m) : -B <= x /\ x <= B := by
 unfold partsM at hx;obtain ⟨r, hr, hx⟩ := List.mem_flatMap.1 hx;exact parts_bd (h r hr) hx
theorem qg_le {B : Int} {den : Int} {m : Mx} (h0 : 0 <= den) (hd : den <= B) (h : BdM B m) : (qg den m : Int) <= B := by
 have : qg den m <= B.toNat := gcdF_le (by omega) fun x hx => by have := partsM_bd h hx; omega
 omega
theorem qg_pos {den : Int} {m : Mx} (h : den ≠ 0) : 0 < qg den m := by
 rcases Nat.eq_zero_or_pos (qg den m) with h0 | h0
 ·have := (gcdF_zero.1 h0).1; omega
 ·exact h0
theorem row_gcd {B : Int} (hB : B <= 4611686018427387904) {r : List G} (hl : r.length <= 1000000) (h : ∀ z ∈ r, Bd B z) {g : Nat} (hg : (g : Int) <= B) {K : Nat × Int -> Prop} :
  Ok (loopO (fun (s5 : (Int × Int)) =>
      bif decide (s5.1 < (r.length : Int)) then
       (idx r s5.1).bind fun x6 =>
       (drive_divisor ([s5.2, x6.1, x6.2.1])).bind fun x7 =>
       some (.inl (w64 (s5.1 + 1), x7))
      else
       some (.inr s5.2)) (0, (g : Int))) fun x => x = (gcdF g (parts r) : Int) := by
 refine loop_up r.length (fun i (s : Int × Int) => s = ((i : Int), (gcdF g (parts (r.take i)) : Int))) _ rfl ?_;rintro i s hi rfl;by_cases hlt : i < r.length
 ·have e0 : decide ((i : Int) < (r.length : Int)) = true := decide_eq_true (by omega);have hz : r[i]? = some (r.getD i g0) := at_getD _ hlt;have hb := h _ (getD_mem (d := g0) hlt);have hgb : gcdF g (parts (r.take i)) <= B.toNat := gcdF_le (by omega) fun x hx => by
   have := parts_bd (fun z hz => h z (List.mem_of_mem_take hz)) hx; omega
  unfold Bd at hb;simp only [e0, cond_true];rw [idx_of hz];simp only [Option.bind_some];rw [divisor_ok _ (by simp) (by
   intro x hx;simp only [List.mem_cons, List.not_mem_nil, or_false] at hx;rcases hx with rfl | rfl | rfl <;> omega)]
  simp only [Option.bind_some];rw [wid (by omega) (by omega), rnd_inl];refine ⟨hlt, ?_⟩;congr 2
  rw [take_next g0 hlt, parts_app, gcdF_snoc, gcdF_snoc, gcdL_three];rfl
 ·have : i = r.length := by omega
  subst this;have e0 : decide ((r.length : Int) < (r.length : Int)) = false := by simp
  simp only [e0, cond_false];rw [rnd_inr, List.take_length]
theorem all_gcd {B den : Int} (hB : B <= 4611686018427387904) {m : Mx} (hl : m.length <= 1000000) (hr : ∀ r ∈ m, r.length <= 1000000) (h : BdM B m) (h0 : 0 <= den) (hd : den <= B) :
  loopO (fun (s2 : (Int × Int)) =>
   bif decide (s2.1 < (m.length : Int)) then
    (idx m s2.1).bind fun x3 =>
    (loopO (fun (s5 : (Int × Int)) =>
      bif decide (s5.1 < (x3.length : Int)) then
       (idx x3 s5.1).bind fun x6 =>
       (drive_divisor ([s5.2, x6.1, x6.2.1])).bind fun x7 =>
       some (.inl (w64 (s5.1 + 1), x7))
      else
       some (.inr s5.2)) (0, s2.2)).bind fun (p8 : Int) =>
    some (.inl (w64 (s2.1 + 1), p8))
   else
    some (.inr s2.2)) (0, den) = some (qg den m : Int) := by
 refine Ok.eq (loop_up m.length (fun i (s : Int × Int) => s = ((i : Int), (qg den (m.take i) : Int))) _ (by
  have : ((qg den (m.take 0) : Nat) : Int) = den := by simp [qg, partsM, gcdF] <;> omega
  rw [this]; rfl) ?_)
 rintro i s hi rfl;by_cases hlt : i < m.length
 ·have e0 : decide ((i : Int) < (m.length : Int)) = true := decide_eq_true (by omega);have hz : m[i]? = some (m.getD i []) := at_getD _ hlt;have hmem := getD_mem (d := ([] : List G)) hlt;simp only [e0, cond_true];rw [idx_of hz];simp only [Option.bind_some];rw [rnd_bind];refine (row_gcd hB (hr _ hmem) (h _ hmem) (qg_le h0 hd (fun r hr => h r (List.mem_of_mem_take hr))) (K := fun _ => True)).mono ?_;rintro x rfl;rw [wid (by omega) (by omega), rnd_inl];refine ⟨hlt, ?_⟩;congr 2
  rw [take_next [] hlt];unfold qg;rw [partsM_app, gcdF_app]
 ·have : i = m.length := by omega
  subst this;have e0 : decide ((m.length : Int) < (m.length : Int)) = false := by simp
  simp only [e0, cond_false];rw [rnd_inr, List.take_length]
theorem tdiv_bd {x g B : Int} (h : -B <= x /\ x <= B) : -B <= x.tdiv g /\ x.tdiv g <= B := by
 have h1 : (x.tdiv g).natAbs <= x.natAbs := by rw [Int.natAbs_tdiv]; exact Nat.div_le_self _ _
 omega
def quotQ (n c : Nat) (f : Nat -> Nat -> G) (den : Int) : Int × Mx × Unit := (den.tdiv (qg den (mx n c f)), mx n c (quotF (qg den (mx n c f)) f), ())
theorem made_q {n c : Nat} (hn : n <= 1000) (hc : c <= 1000) (m : Mx) (g : Int) (f : Nat -> Nat -> G) (h : ∀ i k : Nat, i < n -> k < c -> drive_quotient_1 i k m g = some (f i k)) : drive_made_of_drive_quotient_1 (n : Int) (c : Int) m g = some (mx n c f) := by
 unfold drive_made_of_drive_quotient_1;exact made_loop n c hn hc (fun i k => drive_quotient_1 i k m g) f h
theorem quotient_ok {n c : Nat} {B den : Int} {f : Nat -> Nat -> G} (hB : B <= 4611686018427387904) (hn : 1 <= n) (hn2 : n <= 1000) (hc : c <= 1000) (h : BdF B n c f) (h0 : 0 < den) (hd : den <= B) :
  drive_quotient (mx n c f) den = some (quotQ n c f den) := by
 unfold drive_quotient;rw [all_gcd hB (by rw [mx_len]; omega) (fun r hr => by rw [(mx_rect n c f).2 r hr]; omega) (bdM_mx.2 h) (by omega) hd];simp only [Option.bind_some];rw [idx_zero, mx_at f (by omega), Option.bind_some, mkL_len, mx_len];have hg : 0 < qg den (mx n c f) := qg_pos (by omega);have hgne : decide ((qg den (mx n c f) : Int) = 0) = false := decide_eq_false (by omega);have hm := made_q hn2 hc (mx n c f) (qg den (mx n c f)) (quotF (qg den (mx n c f)) f) (fun i k hi hk => by
  unfold drive_quotient_1;rw [idx_of (mx_at f hi)];simp only [Option.bind_some];rw [idx_of (mkL_get (fun k => f i k) hk)];simp only [Option.bind_some, hgne, cond_false];have hb := h i k hi hk;unfold Bd at hb;have t1 := tdiv_bd (g := (qg den (mx n c f) : Int)) hb.1;have t2 := tdiv_bd (g := (qg den (mx n c f) : Int)) hb.2;rw [wid (by omega) (by omega), wid (by omega) (by omega)];rfl)
 rw [hm];simp only [Option.bind_some, hgne, cond_false];have t3 := tdiv_bd (g := (qg den (mx n c f) : Int)) (B := B) (x := den) (by omega);rw [wid (by omega) (by omega)];rfl
end Go.Proofs.YtbcdgfgacigaoaaGreat.Mat
end
section
namespace Go.Proofs.YtbcdgfgacigaoaaGreat.Mat
open Go Go.Ab Go.Tx Go.Proofs.YtbcdgfgacigaoaaGreat
def dC (B : Int) : Nat -> Int
 | 0 => 1
 | 1 => B
 | n + 2 => ((n + 2 : Nat) : Int) * (2 * (B * dC B (n + 1)))
theorem detF_bdC {B : Int} (hB : 0 <= B) : ∀ (n : Nat) (f : Nat -> Nat -> G), BdF B n n f -> Bd (dC B n) (detF n f)
 | 0, f, _ => bd_one (by simp [dC])
 | 1, f, h => by rw [det1_eq]; exact h 0 0 (by omega) (by omega)
 | n + 2, f, h => by
  simp only [detF, dC];refine Bd.sum fun k hk => ?_;have h1 := (h 0 k (by omega) hk).mul (detF_bdC hB (n + 1) _ (minor_bd (r := 0) (c := k) h));split
  ·exact h1.neg
  ·exact h1
def cofF (n : Nat) (f : Nat -> Nat -> G) (i k : Nat) : G := detF n (minor f k i)
def adjF (n : Nat) (f : Nat -> Nat -> G) (i k : Nat) : G := if (i + k) % 2 = 1 then gneg (cofF n f i k) else cofF n f i k
def invT (n : Nat) (f : Nat -> Nat -> G) (d : G) (i k : Nat) : G := gmul (adjF n f i k) (gconj d)
def norm (d : G) : Int := d.1 * d.1 + d.2.1 * d.2.1
theorem norm_mul (d : G) : gmul d (gconj d) = (norm d, 0, ()) := gext (by simp only [gmul, gconj, norm]; grind) (by simp only [gmul, gconj]; grind)
theorem norm_pos {d : G} (h : d ≠ g0) : 0 < norm d := by
 unfold norm;have h1 := sq_nonneg d.1;have h2 := sq_nonneg d.2.1;rcases Int.lt_or_le 0 (d.1 * d.1 + d.2.1 * d.2.1) with h3 | h3
 ·exact h3
 ·exfalso
  have e1 := sq_zero (show d.1 * d.1 = 0 by omega);have e2 := sq_zero (show d.2.1 * d.2.1 = 0 by omega);exact h (gext e1 e2)
theorem conj_ok {B : Int} {d : G} (h : Bd B d) (hB : B <= 9000000000000000000) : drive_whole_conj d = some (gconj d) := by
 unfold drive_whole_conj gconj;unfold Bd at h;rw [wid (by omega) (by omega)];have e : (0 : Int) - d.2.1 = -d.2.1 := by omega
 rw [e]
theorem GConj_ok {B : Int} {d : G} (h : Bd B d) (hB : B <= 9000000000000000000) : base_GConj d = some (gconj d) := by
 unfold base_GConj gconj;unfold Bd at h;rw [wid (by omega) (by omega)];have e : (0 : Int) - d.2.1 = -d.2.1 := by omega
 rw [e]
theorem neg_mul (a b : G) : gmul (gneg a) b = gneg (gmul a b) := gext (by simp only [gmul, gneg]; grind) (by simp only [gmul, gneg]; grind)
theorem minus0_ok {B : Int} {a : G} (h : Bd B a) (hB : B <= 9000000000000000000) : drive_whole_minus (0, 0, ()) a = some (gneg a) := by
 have := sub_w (a := g0) (bd_zero (B := 0) (by omega)) h (by omega);rw [gzero_sub] at this;exact congrArg some this
theorem GSub0_ok {B : Int} {a : G} (h : Bd B a) (hB : B <= 9000000000000000000) : base_GSub (0, 0, ()) a = some (gneg a) := by
 have := sub_w (a := g0) (bd_zero (B := 0) (by omega)) h (by omega);rw [gzero_sub] at this;exact congrArg some this
theorem tmod2 (j : Nat) : (j : Int).tmod 2 = ((j % 2 : Nat) : Int) := by rw [Int.tmod_eq_emod_of_nonneg (by omega)]; omega
theorem made_inv {n c : Nat} (hn : n <= 1000) (hc : c <= 1000) (m : Mx) (d : G) (f : Nat -> Nat -> G) (h : ∀ i k : Nat, i < n -> k < c -> drive_matrix_inverse_1 i k m d = some (f i k)) : drive_made_of_drive_matrix_inverse_1 (n : Int) (c : Int) m d = some (mx n c f) := by
 unfold drive_made_of_drive_matrix_inverse_1;exact made_loop n c hn hc (fun i k => drive_matrix_inverse_1 i k m d) f h
structure InvB (n : Nat) (f : Nat -> Nat -> G) (d : G) (B M D Q : Int) : Prop where
 hB : 1 <= B
 hf : BdF B (n + 1) (n + 1) f
 crude : dB B n <= 9000000000000000000
 minor : ∀ i k, i < n + 1 -> k < n + 1 -> Bd M (cofF n f i k)
 hd : Bd D d
 md : 2 * (M * D) <= Q
 dd : 2 * (D * D) <= 9000000000000000000
 hQ : Q <= 4611686018427387904
 M0 : M <= 9000000000000000000
 D0 : D <= 9000000000000000000
 nq : norm d <= Q
 nz : d ≠ g0
theorem InvB.adj {n : Nat} {f : Nat -> Nat -> G} {d : G} {B M D Q : Int} (h : InvB n f d B M D Q) {i k : Nat} (hi : i < n + 1) (hk : k < n + 1) : Bd M (adjF n f i k) := by
 unfold adjF;split
 ·exact (h.minor i k hi hk).neg
 ·exact h.minor i k hi hk
theorem InvB.t {n : Nat} {f : Nat -> Nat -> G} {d : G} {B M D Q : Int} (h : InvB n f d B M D Q) : BdF Q (n + 1) (n + 1) (invT n f d) := fun i k hi hk => ((h.adj hi hk).mul h.hd.conj).mono h.md
theorem det12 {n : Nat} {f : Nat -> Nat -> G} {B : Int} (hB : 1 <= B) (hn : n <= 10) (hf : BdF B n n f) (hb : dB B n <= 9000000000000000000) : drive_matrix_determinant (mx n n f) = some (detF n f) := by
 unfold drive_matrix_determinant; exact det_ok hB 12 n f (by omega) (by omega) hf hb
theorem refDet12 {n : Nat} {f : Nat -> Nat -> G} {B : Int} (hB : 1 <= B) (hn : n <= 10) (hf : BdF B n n f) (hb : dB B n <= 9000000000000000000) : ref04_Determinant (mx n n f) = some (detF n f) := by
 unfold ref04_Determinant; exact refDet_ok hB 12 n f (by omega) (by omega) hf hb
theorem inverse_ok {n : Nat} {f : Nat -> Nat -> G} {d : G} {B M D Q : Int} (hn : n <= 5) (h : InvB n f d B M D Q) :
  drive_matrix_inverse (mx (n + 1) (n + 1) f) d = some (quotQ (n + 1) (n + 1) (invT n f d) (norm d)) := by
 unfold drive_matrix_inverse;rw [mx_len];have h2Q : 2 * (M * D) <= 9000000000000000000 := by have := h.md; have := h.hQ; omega
 rw [made_inv (by omega) (by omega) _ d (invT n f d) (fun i k hi hk => by
  unfold drive_matrix_inverse_1;rw [without_any (by omega) f hk hi];simp only [Option.bind_some];rw [det12 h.hB (by omega) (minor_bd h.hf) h.crude];simp only [Option.bind_some];rw [conj_ok h.hd h.D0];simp only [Option.bind_some];have hb := h.minor i k hi hk;unfold cofF at hb;rw [times_ok' hb h.hd.conj h2Q];simp only [Option.bind_some];rw [wid (by omega) (by omega)];have e0 : ((i : Int) + (k : Int)) = ((i + k : Nat) : Int) := by omega
  rw [e0, tmod2];unfold invT adjF cofF;by_cases hp : (i + k) % 2 = 1
  ·have e2 : decide ((((i + k) % 2 : Nat) : Int) = 1) = true := decide_eq_true (by omega);rw [e2, cond_true, if_pos hp, minus0_ok (hb.mul h.hd.conj) h2Q, neg_mul]; rfl
  ·have e2 : decide ((((i + k) % 2 : Nat) : Int) = 1) = false := decide_eq_false (by omega);rw [e2, cond_false, if_neg hp])]
 simp only [Option.bind_some];rw [conj_ok h.hd h.D0];simp only [Option.bind_some];rw [times_ok' h.hd h.hd.conj h.dd, norm_mul];simp only [Option.bind_some];rw [quotient_ok h.hQ (by omega) (by omega) (by omega) h.t (norm_pos h.nz) h.nq];rfl
def gsize (z : G) : Int := (z.1.natAbs : Int) + (z.2.1.natAbs : Int)
def sumZ : Nat -> (Nat -> Int) -> Int
 | 0, _ => 0
 | n + 1, f => sumZ n f + f n
def maxZ : Nat -> (Nat -> Int) -> Int
 | 0, _ => 0
 | n + 1, f => max (maxZ n f) (f n)
def rsum (n c : Nat) (f : Nat -> Nat -> G) : Int := maxZ n fun i => sumZ c fun k => gsize (f i k)
def diagF (s : Int) (i k : Nat) : G := if i = k then (s, 0, ()) else g0
theorem one_ok {n : Nat} {s : Int} (hn : n <= 1000) : ref04_one (n : Int) s = some (mx n n (diagF s)) := by
 unfold ref04_one;rw [for_mk n (fun i => mkL n fun k => diagF s i k) (fun i hi => ?_) ?_]
 ·rfl
 ·have e0 : decide ((n : Int) < (n : Int)) = false := by simp
  simp only [e0, cond_false]
 ·have e0 : decide ((i : Int) < (n : Int)) = true := decide_eq_true (by omega);simp only [e0, cond_true];rw [mkS_in (by omega)];simp only [Option.bind_some, decide_true, cond_true];have hl : (List.replicate ((n : Int).toNat) ((0, 0, ()) : G)).length = n := by simp
  rw [idx_in g0 (by omega) (by rw [hl]; omega)];simp only [Option.bind_some, Int.toNat_natCast];have hrow : (List.replicate n ((0, 0, ()) : G)).set i (s, 0, ()) = mkL n fun k => diagF s i k := by
   refine mkL_of (by simp) fun k hk => ?_;rw [List.getElem?_set, List.getElem?_replicate, List.length_replicate];unfold diagF;by_cases h : i = k
   ·rw [if_pos h, if_pos h, if_pos (by omega)]
   ·rw [if_neg h, if_neg h, if_pos hk]; rfl
  rw [hrow, app_one (by rw [mkL_len]; omega)];simp only [Option.bind_some];rw [wid (by omega) (by omega)]
end Go.Proofs.YtbcdgfgacigaoaaGreat.Mat
end
section
namespace Go.Proofs.YtbcdgfgacigaoaaGreat.Mat
open Go Go.Ab Go.Tx Go.Proofs.YtbcdgfgacigaoaaGreat
instance (B : Int) (m : Mx) : Decidable (BdM B m) := inferInstanceAs (Decidable (∀ r ∈ m, ∀ z ∈ r, Bd B z))
theorem first2 (a b : Int) : drive_first [a, b] = some (if a = 0 then b else a) := by
 rw [first_eq _ (by simp)];by_cases h : a = 0 <;> by_cases h2 : b = 0 <;> simp [fst0, h, h2]
end Go.Proofs.YtbcdgfgacigaoaaGreat.Mat
end
section
namespace Go.Proofs.YtbcdgfgacigaoaaGreat.Mat
open Go Go.Ab Go.Tx Go.Proofs.YtbcdgfgacigaoaaGreat
def detM (m : Mx) : G := detF m.length (ent m)
def invF (m : Mx) : Nat -> Nat -> G := quotF (qg (norm (detM m)) (mx m.length m.length (invT (m.length - 1) (ent m) (detM m)))) (invT (m.length - 1) (ent m) (detM m))
def invD (m : Mx) : Int := (norm (detM m)).tdiv (qg (norm (detM m)) (mx m.length m.length (invT (m.length - 1) (ent m) (detM m))))
end Go.Proofs.YtbcdgfgacigaoaaGreat.Mat
namespace Go.Proofs.YtbcdgfgacigaoaaGreat
open Go Go.Ab Go.Tx
end Go.Proofs.YtbcdgfgacigaoaaGreat
end
section
namespace Go.Proofs.YtbcdgfgacigaoaaGreat.Mat
open Go Go.Ab Go.Tx Go.Proofs.YtbcdgfgacigaoaaGreat
theorem sumG_mul {n : Nat} {f : Nat -> G} (c : G) : sumG n (fun k => gmul (f k) c) = gmul (sumG n f) c := by
 induction n with
 | zero => exact (gzero_mul c).symm
 | succ n ih => simp only [sumG, ih, gadd_mul]
theorem gadd_swap (a b c d : G) : gadd (gadd a b) (gadd c d) = gadd (gadd a c) (gadd b d) := gext (by simp only [gadd]; omega) (by simp only [gadd]; omega)
theorem sumG_add {n : Nat} (f h : Nat -> G) : sumG n (fun k => gadd (f k) (h k)) = gadd (sumG n f) (sumG n h) := by
 induction n with
 | zero => exact (gadd_zero g0).symm
 | succ n ih => simp only [sumG, ih]; exact gadd_swap _ _ _ _
theorem sumG_zero : ∀ n, sumG n (fun _ => g0) = g0
 | 0 => rfl
 | n + 1 => by simp only [sumG, sumG_zero n] <;> rfl
theorem sumG_swap {n c : Nat} (f : Nat -> Nat -> G) : sumG n (fun i => sumG c (fun k => f i k)) = sumG c (fun k => sumG n (fun i => f i k)) := by
 induction n with
 | zero => exact (sumG_zero c).symm
 | succ n ih => simp only [sumG, ih]; exact (sumG_add _ _).symm
theorem sumG_one {n : Nat} {f : Nat -> G} {i : Nat} (hi : i < n) (h : ∀ j, j < n -> j ≠ i -> f j = g0) : sumG n f = f i := by
 induction n with
 | zero => omega
 | succ n ih =>
  simp only [sumG];by_cases e : i = n
  ·subst e;rw [sumG_congr (h := fun _ => g0) (fun k hk => h k (by omega) (by omega)), sumG_zero, gzero_add]
  ·rw [ih (by omega) (fun j hj hne => h j (by omega) hne), h n (by omega) (by omega), gadd_zero]
theorem prodF_congr {n i k : Nat} {f f' h h' : Nat -> Nat -> G} (e1 : ∀ j, j < n -> f i j = f' i j) (e2 : ∀ j, j < n -> h j k = h' j k) : prodF n f h i k = prodF n f' h' i k := by
 unfold prodF;exact sumG_congr fun j hj => by rw [e1 j hj, e2 j hj]
theorem prodF_mulr (n : Nat) (f h : Nat -> Nat -> G) (c : G) (i k : Nat) : prodF n f (fun i k => gmul (h i k) c) i k = gmul (prodF n f h i k) c := by
 unfold prodF;rw [<- sumG_mul];exact sumG_congr fun j hj => (gmul_assoc _ _ _).symm
theorem prodF_mull (n : Nat) (f h : Nat -> Nat -> G) (c : G) (i k : Nat) : prodF n (fun i k => gmul (f i k) c) h i k = gmul (prodF n f h i k) c := by
 unfold prodF;rw [<- sumG_mul];exact sumG_congr fun j hj => by rw [gmul_assoc, gmul_comm c, <- gmul_assoc]
theorem prodF_assoc (n : Nat) (f g h : Nat -> Nat -> G) (i k : Nat) : prodF n f (prodF n g h) i k = prodF n (prodF n f g) h i k := by
 unfold prodF;have e1 : sumG n (fun j => gmul (f i j) (sumG n fun l => gmul (g j l) (h l k))) = sumG n (fun j => sumG n fun l => gmul (gmul (f i j) (g j l)) (h l k)) := sumG_congr fun j hj => by
  rw [gmul_comm, <- sumG_mul];exact sumG_congr fun l hl => by rw [gmul_comm, gmul_assoc]
 rw [e1, sumG_swap];exact sumG_congr fun l hl => sumG_mul _
theorem prodF_diagl {n : Nat} (s : Int) (h : Nat -> Nat -> G) {i k : Nat} (hi : i < n) : prodF n (diagF s) h i k = gmul (h i k) (s, 0, ()) := by
 unfold prodF;rw [sumG_one hi (fun j hj hne => by unfold diagF; rw [if_neg (fun e => hne e.symm)]; exact gzero_mul _)];unfold diagF;rw [if_pos rfl, gmul_comm]
theorem adj2 (f : Nat -> Nat -> G) (i k : Nat) : adjF 1 f i k = if (i + k) % 2 = 1 then gneg (f (skip k 0) (skip i 0)) else f (skip k 0) (skip i 0) := by
 unfold adjF cofF;rw [det1_eq]; rfl
def mm (f : Nat -> Nat -> G) (a b c d : Nat) : G := gsub (gmul (f a c) (f b d)) (gmul (f a d) (f b c))
theorem adj3 (f : Nat -> Nat -> G) (i k : Nat) : adjF 2 f i k = if (i + k) % 2 = 1 then gneg (mm f (skip k 0) (skip k 1) (skip i 0) (skip i 1)) else mm f (skip k 0) (skip k 1) (skip i 0) (skip i 1) := by
 unfold adjF cofF;rw [det2_eq]; rfl
set_option maxHeartbeats 4000000 in
theorem adj_right {n : Nat} (hn : n + 1 <= 3) (f : Nat -> Nat -> G) {i k : Nat} (hi : i < n + 1) (hk : k < n + 1) : prodF (n + 1) f (adjF n f) i k = if i = k then detF (n + 1) f else g0 := by
 match n, hn with
 | 0, _ =>
  obtain rfl : i = 0 := by omega
  obtain rfl : k = 0 := by omega
  rw [prod1, det1_eq];exact gmul_one _
 | 1, _ =>
  rw [prod2, det2_eq];have hi' : i = 0 \/ i = 1 := by omega
  have hk' : k = 0 \/ k = 1 := by omega
  rcases hi' with rfl | rfl <;> rcases hk' with rfl | rfl <;> simp only [adj2] <;> simp [skip] <;> refine gext ?_ ?_ <;> simp only [gadd, gmul, gsub, gneg, g0] <;> grind
 | 2, _ =>
  rw [prod3, det3_eq];have hi' : i = 0 \/ i = 1 \/ i = 2 := by omega
  have hk' : k = 0 \/ k = 1 \/ k = 2 := by omega
  rcases hi' with rfl | rfl | rfl <;> rcases hk' with rfl | rfl | rfl <;> simp only [adj3] <;> simp [skip] <;> refine gext ?_ ?_ <;> simp only [dd, mm, gadd, gmul, gsub, gneg, g0] <;> grind
theorem mem_parts {n c : Nat} {f : Nat -> Nat -> G} {x : Int} : x ∈ partsM (mx n c f) ↔ ∃ i k, i < n /\ k < c /\ (x = (f i k).1 \/ x = (f i k).2.1) := by
 unfold partsM;rw [List.mem_flatMap];constructor
 ·rintro ⟨r, hr, hx⟩;obtain ⟨i, hi, rfl⟩ := mkL_mem hr;unfold parts at hx;obtain ⟨z, hz, hx⟩ := List.mem_flatMap.1 hx;obtain ⟨k, hk, rfl⟩ := mkL_mem hz;exact ⟨i, k, hi, hk, by simpa using hx⟩
 ·rintro ⟨i, k, hi, hk, hx⟩;refine ⟨mkL c fun k => f i k, mem_mkL (f := fun i => mkL c fun k => f i k) hi, ?_⟩;unfold parts;exact List.mem_flatMap.2 ⟨f i k, mem_mkL (f := fun k => f i k) hk, by simpa using hx⟩
theorem gscale (a : G) (s : Int) : gmul a (s, 0, ()) = (a.1 * s, a.2.1 * s, ()) := gext (by simp [gmul]) (by simp [gmul])
end Go.Proofs.YtbcdgfgacigaoaaGreat.Mat
end
section
set_option maxRecDepth 1000000
namespace Go.Tx
open Go
def nrm (a : G) : Int := a.1 * a.1 + a.2.1 * a.2.1
theorem nrm_nonneg (a : G) : 0 <= nrm a := by
 have := sq_nonneg a.1;have := sq_nonneg a.2.1;unfold nrm; omega
def gr (N : Nat) (f h : Nat -> G) : G := sumG N fun j => gmul (f j) (gconj (h j))
def grn (N : Nat) (f : Nat -> G) : Int := match N with
 | 0 => 0
 | n + 1 => grn n f + nrm (f n)
theorem gr_self : ∀ (N : Nat) (f : Nat -> G), gr N f f = (grn N f, 0, ())
 | 0, f => rfl
 | n + 1, f => by
  have h := gr_self n f;unfold gr at h ⊢;simp only [sumG, h, grn];exact gext (by simp only [gadd, gmul, gconj, nrm]; grind) (by simp only [gadd, gmul, gconj, nrm]; grind)
theorem gr_conj : ∀ (N : Nat) (f h : Nat -> G), gr N h f = gconj (gr N f h)
 | 0, f, h => rfl
 | n + 1, f, h => by
  have e := gr_conj n f h;unfold gr at e ⊢;simp only [sumG, e];exact gext (by simp only [gadd, gmul, gconj]; grind) (by simp only [gadd, gmul, gconj]; grind)
theorem grn_nonneg : ∀ (N : Nat) (f : Nat -> G), 0 <= grn N f
 | 0, f => by simp [grn]
 | n + 1, f => by
  have h := grn_nonneg n f;have := nrm_nonneg (f n);simp only [grn] <;> omega
def form3 (a b c : Int) (x y z p q r : G) : Int :=
 a * nrm p + b * nrm q + c * nrm r + 2 * (gmul (gconj p) (gmul x q)).1 + 2 * (gmul (gconj p) (gmul y r)).1 + 2 * (gmul (gconj q) (gmul z r)).1
set_option maxHeartbeats 4000000 in
theorem form3_step (a b c : Int) (x y z p q r u v t : G) :
  form3 (a + nrm u) (b + nrm v) (c + nrm t) (gadd x (gmul u (gconj v))) (gadd y (gmul u (gconj t))) (gadd z (gmul v (gconj t))) p q r =
   form3 a b c x y z p q r + nrm (gadd (gadd (gmul (gconj p) u) (gmul (gconj q) v)) (gmul (gconj r) t)) := by
 obtain ⟨u1, u2, _⟩ := u;obtain ⟨v1, v2, _⟩ := v;obtain ⟨t1, t2, _⟩ := t;obtain ⟨p1, p2, _⟩ := p;obtain ⟨q1, q2, _⟩ := q;obtain ⟨r1, r2, _⟩ := r;obtain ⟨x1, x2, _⟩ := x;obtain ⟨y1, y2, _⟩ := y;obtain ⟨z1, z2, _⟩ := z;simp only [form3, nrm, gadd, gmul, gconj];grind
theorem form3_nonneg (p q r : G) (u v t : Nat -> G) : ∀ N, 0 <= form3 (grn N u) (grn N v) (grn N t) (gr N u v) (gr N u t) (gr N v t) p q r
 | 0 => by simp [form3, grn, gr, sumG, g0, gmul, gconj, nrm]
 | n + 1 => by
  have h := form3_nonneg p q r u v t n;have e := form3_step (grn n u) (grn n v) (grn n t) (gr n u v) (gr n u t) (gr n v t) p q r (u n) (v n) (t n);have := nrm_nonneg (gadd (gadd (gmul (gconj p) (u n)) (gmul (gconj q) (v n))) (gmul (gconj r) (t n)));have e2 : form3 (grn (n + 1) u) (grn (n + 1) v) (grn (n + 1) t) (gr (n + 1) u v) (gr (n + 1) u t) (gr (n + 1) v t) p q r = form3 (grn n u + nrm (u n)) (grn n v + nrm (v n)) (grn n t + nrm (t n)) (gadd (gr n u v) (gmul (u n) (gconj (v n)))) (gadd (gr n u t) (gmul (u n) (gconj (t n)))) (gadd (gr n v t) (gmul (v n) (gconj (t n)))) p q r := rfl;rw [e2, e]; omega
def form2 (a c : Int) (x p q : G) : Int := a * nrm p + c * nrm q + 2 * (gmul (gconj p) (gmul x q)).1
theorem form2_le {a c : Int} {x : G} (h : ∀ p q, 0 <= form2 a c x p q) : 0 <= a /\ 0 <= c /\ nrm x <= a * c := by
 have ha : 0 <= a := by
  have := h (1, 0, ()) (0, 0, ());simp [form2, nrm, gmul, gconj] at this;exact this
 have hc : 0 <= c := by
  have := h (0, 0, ()) (1, 0, ());simp [form2, nrm, gmul, gconj] at this;exact this
 refine ⟨ha, hc, ?_⟩;by_cases h0 : a = 0
 ·subst h0;have h1 := h (-((c + 1) * x.1), -((c + 1) * x.2.1), ()) (1, 0, ());have e : form2 0 c x (-((c + 1) * x.1), -((c + 1) * x.2.1), ()) (1, 0, ()) = c - 2 * ((c + 1) * nrm x) := by
   simp only [form2, nrm, gmul, gconj]; grind
  rw [e] at h1;have hn := nrm_nonneg x;rw [Int.zero_mul];false_or_by_contra
  have h2 : (c + 1) * 1 <= (c + 1) * nrm x := Int.mul_le_mul_of_nonneg_left (by omega) (by omega);omega
 ·have h1 := h (gneg x) (a, 0, ());have e : form2 a c x (gneg x) (a, 0, ()) = a * (a * c - nrm x) := by
   simp only [form2, nrm, gmul, gconj, gneg]; grind
  rw [e] at h1;have : 0 <= a * c - nrm x := by
   false_or_by_contra
   have h3 : a * (a * c - nrm x) <= a * (-1) := Int.mul_le_mul_of_nonneg_left (by omega) ha;omega
  omega
def hdet (a b c : Int) (x y z : G) : Int := a * b * c + 2 * (gmul (gmul x z) (gconj y)).1 - a * nrm z - b * nrm y - c * nrm x
set_option maxHeartbeats 4000000 in
theorem form3_schur (a b c : Int) (x y z q r : G) :
  form3 a b c x y z (gneg (gadd (gmul x q) (gmul y r))) (a * q.1, a * q.2.1, ()) (a * r.1, a * r.2.1, ()) =
   a * form2 (a * b - nrm x) (a * c - nrm y) (gsub (a * z.1, a * z.2.1, ()) (gmul (gconj x) y)) q r := by
 obtain ⟨q1, q2, _⟩ := q;obtain ⟨r1, r2, _⟩ := r;obtain ⟨x1, x2, _⟩ := x;obtain ⟨y1, y2, _⟩ := y;obtain ⟨z1, z2, _⟩ := z;simp only [form3, form2, nrm, gadd, gmul, gconj, gneg, gsub];grind
set_option maxHeartbeats 4000000 in
theorem schur_det (a b c : Int) (x y z : G) : (a * b - nrm x) * (a * c - nrm y) - nrm (gsub (a * z.1, a * z.2.1, ()) (gmul (gconj x) y)) = a * hdet a b c x y z := by
 obtain ⟨x1, x2, _⟩ := x;obtain ⟨y1, y2, _⟩ := y;obtain ⟨z1, z2, _⟩ := z;simp only [hdet, nrm, gadd, gmul, gconj, gneg, gsub];grind
theorem nrm_zero {x : G} (h : nrm x <= 0) : x = g0 := by
 have h1 := sq_nonneg x.1;have h2 := sq_nonneg x.2.1;unfold nrm at h;exact gext (sq_zero (by omega)) (sq_zero (by omega))
theorem form3_det {a b c : Int} {x y z : G} (h : ∀ p q r, 0 <= form3 a b c x y z p q r) : 0 <= a /\ 0 <= b /\ 0 <= c /\ nrm x <= a * b /\ nrm y <= a * c /\ nrm z <= b * c /\ 0 <= hdet a b c x y z /\ hdet a b c x y z <= a * b * c := by
 have hx : ∀ p q, 0 <= form2 a b x p q := fun p q => by
  have := h p q g0;have e : form3 a b c x y z p q g0 = form2 a b x p q := by simp [form3, form2, nrm, gmul, gconj, g0]
  rw [e] at this; exact this
 have hy : ∀ p q, 0 <= form2 a c y p q := fun p q => by
  have := h p g0 q;have e : form3 a b c x y z p g0 q = form2 a c y p q := by simp [form3, form2, nrm, gmul, gconj, g0]
  rw [e] at this; exact this
 have hz : ∀ p q, 0 <= form2 b c z p q := fun p q => by
  have := h g0 p q;have e : form3 a b c x y z g0 p q = form2 b c z p q := by simp [form3, form2, nrm, gmul, gconj, g0]
  rw [e] at this; exact this
 obtain ⟨a0, b0, x1⟩ := form2_le hx;obtain ⟨_, c0, y1⟩ := form2_le hy;obtain ⟨_, _, z1⟩ := form2_le hz;refine ⟨a0, b0, c0, x1, y1, z1, ?_⟩;by_cases ha : a = 0
 ·subst ha;rw [Int.zero_mul] at x1 y1;have ex := nrm_zero x1;have ey := nrm_zero y1;subst ex ey;have e : hdet 0 b c g0 g0 z = 0 := by simp [hdet, nrm, gmul, gconj, g0]
  rw [e]; simp
 ·have hk : ∀ q r, 0 <= form2 (a * b - nrm x) (a * c - nrm y) (gsub (a * z.1, a * z.2.1, ()) (gmul (gconj x) y)) q r := fun q r => by
   have h1 := h (gneg (gadd (gmul x q) (gmul y r))) (a * q.1, a * q.2.1, ()) (a * r.1, a * r.2.1, ());rw [form3_schur] at h1;false_or_by_contra
   have h3 : a * form2 (a * b - nrm x) (a * c - nrm y) (gsub (a * z.1, a * z.2.1, ()) (gmul (gconj x) y)) q r <= a * (-1) := Int.mul_le_mul_of_nonneg_left (by omega) a0;omega
  obtain ⟨k1, k2, k3⟩ := form2_le hk;have hd := schur_det a b c x y z;have hn := nrm_nonneg (gsub (a * z.1, a * z.2.1, ()) (gmul (gconj x) y));have m1 := Int.mul_le_mul (show a * b - nrm x <= a * b by have := nrm_nonneg x; omega) (show a * c - nrm y <= a * c by have := nrm_nonneg y; omega) k2 (Int.mul_nonneg a0 b0);have e1 : a * b * (a * c) = a * (a * b * c) := by grind
  constructor
  ·false_or_by_contra
   have h3 : a * hdet a b c x y z <= a * (-1) := Int.mul_le_mul_of_nonneg_left (by omega) a0;omega
  ·false_or_by_contra
   have h3 : a * (a * b * c + 1) <= a * hdet a b c x y z := Int.mul_le_mul_of_nonneg_left (by omega) a0;rw [Int.mul_add, Int.mul_one] at h3;omega
set_option maxHeartbeats 4000000 in
theorem dd_herm (a b c : Int) (x y z : G) : dd (a, 0, ()) x y (gconj x) (b, 0, ()) z (gconj y) (gconj z) (c, 0, ()) = (hdet a b c x y z, 0, ()) := by
 obtain ⟨x1, x2, _⟩ := x;obtain ⟨y1, y2, _⟩ := y;obtain ⟨z1, z2, _⟩ := z;exact gext (by simp only [dd, hdet, nrm, gadd, gmul, gconj, gneg, gsub]; grind) (by simp only [dd, hdet, nrm, gadd, gmul, gconj, gneg, gsub]; grind)
def gramF (N : Nat) (v : Nat -> Nat -> G) (i k : Nat) : G := gr N (fun j => v j i) (fun j => v j k)
theorem gram_det {N n : Nat} (hn : n <= 3) {v : Nat -> Nat -> G} {B : Int} (hB : 1 <= B) (hd : ∀ i, i < n -> grn N (fun j => v j i) <= B) : ∃ w : Int, detF n (gramF N v) = (w, 0, ()) /\ 0 <= w /\ w <= B * B * B := by
 have b0 : 0 <= B := by omega
 have bb : B * 1 <= B * B := Int.mul_le_mul_of_nonneg_left hB b0;have bbb : B * B * 1 <= B * B * B := Int.mul_le_mul_of_nonneg_left hB (by omega);have hg : ∀ i k, gramF N v k i = gconj (gramF N v i k) := fun i k => gr_conj N _ _;have hs : ∀ i, gramF N v i i = (grn N (fun j => v j i), 0, ()) := fun i => gr_self N _;have hq := fun p q r => form3_nonneg p q r (fun j => v j 0) (fun j => v j 1) (fun j => v j 2) N;obtain ⟨a0, c0, d0, x1, y1, z1, hd0, hd1⟩ := form3_det hq
 match n, hn, hd with
 | 0, _, _ => exact ⟨1, rfl, by omega, by omega⟩
 | 1, _, hd =>
  have := hd 0 (by omega);refine ⟨grn N (fun j => v j 0), ?_, a0, by omega⟩;rw [det1_eq, hs]
 | 2, _, hd =>
  have h0 := hd 0 (by omega);have h1 := hd 1 (by omega);have m := Int.mul_le_mul h0 h1 c0 b0;have := nrm_nonneg (gramF N v 0 1);refine ⟨grn N (fun j => v j 0) * grn N (fun j => v j 1) - nrm (gramF N v 0 1), ?_, ?_, by omega⟩
  ·rw [det2_eq, hs 0, hs 1, hg 0 1];exact gext (by simp only [gsub, gmul, gconj, nrm]; grind) (by simp only [gsub, gmul, gconj, nrm]; grind)
  ·have e : nrm (gramF N v 0 1) <= grn N (fun j => v j 0) * grn N (fun j => v j 1) := x1;omega
 | 3, _, hd =>
  have h0 := hd 0 (by omega);have h1 := hd 1 (by omega);have h2 := hd 2 (by omega);have m1 := Int.mul_le_mul h0 h1 c0 b0;have m2 := Int.mul_le_mul m1 h2 d0 (by omega);refine ⟨_, ?_, hd0, by omega⟩;rw [det3_eq, hs 0, hs 1, hs 2, hg 0 1, hg 0 2, hg 1 2, dd_herm];rfl
end Go.Tx
end
section
namespace Go.Proofs.YtbcdgfgacigaoaaGreat.Mat
open Go Go.Ab Go.Tx Go.Proofs.YtbcdgfgacigaoaaGreat
abbrev Rn := Mx × Mx × Unit
def rowR (n0 : Nat) (d r : List G) : Int := if ¬ d.length = 0 /\ d.length = n0 /\ r.length = d.length then (if 3 < d.length then 8 else if (d.any (badZ 9) || r.any (badZ 9)) = true then 2 else 0) else 10
def preE (ρ : Rn) : Nat -> Int
 | 0 => 0
 | i + 1 => if preE ρ i = 0 then rowR (ρ.1.getD 0 []).length (ρ.1.getD i []) (ρ.2.1.getD i []) else preE ρ i
def runE (ρ : Rn) : Int := if ρ.1.length = 0 \/ ¬ ρ.2.1.length = ρ.1.length then 10 else if 6 < ρ.1.length then 8 else preE ρ ρ.1.length
theorem preE_stay {ρ : Rn} {i j : Nat} (h : preE ρ i ≠ 0) (hij : i <= j) : preE ρ j = preE ρ i := by
 induction j with
 | zero => rw [show i = 0 by omega]
 | succ j ih =>
  by_cases c : i = j + 1
  ·rw [c]
  ·have := ih (by omega);simp only [preE];rw [this, if_neg h]
theorem preE_zero {ρ : Rn} {n : Nat} (h : preE ρ n = 0) {i : Nat} (hi : i < n) : rowR (ρ.1.getD 0 []).length (ρ.1.getD i []) (ρ.2.1.getD i []) = 0 := by
 have h1 : preE ρ (i + 1) = 0 := by
  false_or_by_contra
  rename_i h9;have := preE_stay h9 (show i + 1 <= n by omega);omega
 simp only [preE] at h1;by_cases c : preE ρ i = 0
 ·rw [if_pos c] at h1; exact h1
 ·rw [if_neg c] at h1; exact absurd h1 c
theorem rowR_zero {n0 : Nat} {d r : List G} (h : rowR n0 d r = 0) : d.length = n0 /\ r.length = n0 /\ 1 <= n0 /\ n0 <= 3 /\ (∀ z ∈ d, Bd 9 z) /\ ∀ z ∈ r, Bd 9 z := by
 unfold rowR at h;by_cases c : ¬ d.length = 0 /\ d.length = n0 /\ r.length = d.length
 case neg => rw [if_neg c] at h; cases h
 rw [if_pos c] at h;by_cases c2 : 3 < d.length
 ·rw [if_pos c2] at h; cases h
 rw [if_neg c2] at h;cases hb : (d.any (badZ 9) || r.any (badZ 9)) with
 | true => rw [hb, if_pos rfl] at h; cases h
 | false =>
  rw [Bool.or_eq_false_iff] at hb;refine ⟨c.2.1, by omega, by omega, by omega, fun z hz => ?_, fun z hz => ?_⟩
  ·have := List.any_eq_false.1 hb.1 z hz;unfold badZ at this;simpa using this
  ·have := List.any_eq_false.1 hb.2 z hz;unfold badZ at this;simpa using this
structure RunB (ρ : Rn) (n : Nat) : Prop where
 len : ρ.2.1.length = ρ.1.length
 l1 : 1 <= ρ.1.length
 l6 : ρ.1.length <= 6
 n1 : 1 <= n
 n3 : n <= 3
 hn : (ρ.1.getD 0 []).length = n
 dl : ∀ j, j < ρ.1.length -> (ρ.1.getD j []).length = n
 rl : ∀ j, j < ρ.1.length -> (ρ.2.1.getD j []).length = n
 dB : ∀ j i, j < ρ.1.length -> i < n -> Bd 9 (ent ρ.1 j i)
 rB : ∀ j i, j < ρ.1.length -> i < n -> Bd 9 (ent ρ.2.1 j i)
theorem runB {ρ : Rn} (h : runE ρ = 0) : RunB ρ (ρ.1.getD 0 []).length := by
 unfold runE at h;by_cases c : ρ.1.length = 0 \/ ¬ ρ.2.1.length = ρ.1.length
 ·rw [if_pos c] at h; cases h
 rw [if_neg c] at h;by_cases c2 : 6 < ρ.1.length
 ·rw [if_pos c2] at h; cases h
 rw [if_neg c2] at h;have hz := fun j hj => rowR_zero (preE_zero h (i := j) hj);have h0 := hz 0 (by omega);refine ⟨by omega, by omega, by omega, h0.2.2.1, h0.2.2.2.1, rfl, fun j hj => (hz j hj).1, fun j hj => (hz j hj).2.1, fun j i hj hi => (hz j hj).2.2.2.2.1 _ (getD_mem (by rw [(hz j hj).1]; exact hi)), fun j i hj hi => (hz j hj).2.2.2.2.2 _ (getD_mem (by rw [(hz j hj).2.1]; exact hi))⟩
theorem row_loop {d r : List G} (hl : r.length = d.length) (hd : d.length <= 1000000000) (v : Int) (K2 : Unit -> Option (Int ⊕ (Unit ⊕ Int))) :
  ((loopO (fun (s9 : Int) =>
   bif decide (s9 < (d.length : Int)) then
    ((idx d s9).bind fun x10 =>
     (ref04_isSized x10 (9 : Int)).bind fun x11 =>
     bif !x11 then
      some true
     else
      (idx r s9).bind fun x12 =>
      (ref04_isSized x12 (9 : Int)).bind fun x13 =>
      some (!x13)).bind fun (p14 : Bool) =>
    bif p14 then
     some (.inr (.inr (.inr (.inr v))))
    else
     some (.inl (w64 (s9 + 1)))
   else
    some (.inr (.inl ()))) 0) : Option (Unit ⊕ (Int ⊕ (Unit ⊕ Int)))).bind (Sum.elim K2 some) = if (d.any (badZ 9) || r.any (badZ 9)) = true then some (.inr (.inr v)) else K2 () := by
 rw [for_find d _ (fun i z => if (badZ 9 z || badZ 9 (r.getD i g0)) = true then some (Sum.inr (Sum.inr v) : Int ⊕ (Unit ⊕ Int)) else none) (fun i z hi => ?_), elim_toSum]
 ·cases hf : findI (fun i z => if (badZ 9 z || badZ 9 (r.getD i g0)) = true then some (Sum.inr (Sum.inr v) : Int ⊕ (Unit ⊕ Int)) else none) 0 d with
  | none =>
   rw [findI_none] at hf;have h1 : (d.any (badZ 9) || r.any (badZ 9)) = false := by
    rw [Bool.or_eq_false_iff];refine ⟨List.any_eq_false.2 fun x hx => ?_, List.any_eq_false.2 fun x hx => ?_⟩
    ·obtain ⟨k, hk⟩ := List.mem_iff_getElem?.1 hx;have := hf k x hk;intro hb;rw [hb] at this;simp at this
    ·obtain ⟨k, hk⟩ := List.mem_iff_getElem?.1 hx;have hlt := len_lt hk;have := hf k (d.getD k g0) (at_getD g0 (by omega));intro hb;rw [Nat.zero_add, getD_at hk, hb, Bool.or_true] at this;simp at this
   rw [h1]; simp
  | some q =>
   obtain ⟨k, z, h1, h2, _⟩ := findI_some hf;by_cases hp : (badZ 9 z || badZ 9 (r.getD (0 + k) g0)) = true
   case neg => rw [if_neg hp] at h2; cases h2
   rw [if_pos hp] at h2;cases h2;have hlt := len_lt h1;have hb : (d.any (badZ 9) || r.any (badZ 9)) = true := by
    rw [Bool.or_eq_true] at hp ⊢;rcases hp with hp | hp
    ·exact .inl (List.any_eq_true.2 ⟨z, List.mem_of_getElem? h1, hp⟩)
    ·exact .inr (List.any_eq_true.2 ⟨_, getD_mem (by omega), hp⟩)
   rw [hb]; simp
 ·have hlt := len_lt hi;rw [idx_of hi, Option.bind_some, refIsSized_ok _ _ (by omega) (by omega), Option.bind_some, idx_in g0 (l := r) (by omega) (by omega), Option.bind_some, refIsSized_ok _ _ (by omega) (by omega), Option.bind_some, wid (by omega) (by omega), Int.toNat_natCast];unfold badZ;generalize r.getD i g0 = y;by_cases c1 : Bd 9 z <;> by_cases c2 : Bd 9 y <;> simp [c1, c2, stp]
theorem RunsErr_ok {ρ : Rn} (h1 : ρ.1.length <= 1000000000) (hr : ∀ d ∈ ρ.1, d.length <= 1000000000) : ref04_RunsErr ρ = some (runE ρ) := by
 unfold ref04_RunsErr runE;have e1 : (bif decide ((ρ.1.length : Int) = 0) then some true else some (!(decide ((ρ.2.1.length : Int) = (ρ.1.length : Int))))) = some (decide (ρ.1.length = 0 \/ ¬ ρ.2.1.length = ρ.1.length)) := by
  by_cases c : ρ.1.length = 0
  ·rw [decide_eq_true (show (ρ.1.length : Int) = 0 by omega), cond_true, decide_eq_true (show ρ.1.length = 0 \/ ¬ ρ.2.1.length = ρ.1.length from .inl c)]
  ·rw [decide_eq_false (show ¬ (ρ.1.length : Int) = 0 by omega), cond_false];by_cases c2 : ρ.2.1.length = ρ.1.length
   ·rw [decide_eq_true (show (ρ.2.1.length : Int) = (ρ.1.length : Int) by omega), decide_eq_false (show ¬ (ρ.1.length = 0 \/ ¬ ρ.2.1.length = ρ.1.length) by omega)]; rfl
   ·rw [decide_eq_false (show ¬ (ρ.2.1.length : Int) = (ρ.1.length : Int) by omega), decide_eq_true (show ρ.1.length = 0 \/ ¬ ρ.2.1.length = ρ.1.length from .inr c2)]; rfl
 rw [e1, Option.bind_some];by_cases c : ρ.1.length = 0 \/ ¬ ρ.2.1.length = ρ.1.length
 ·rw [decide_eq_true c, cond_true, if_pos c]
 rw [decide_eq_false c, cond_false, if_neg c];by_cases c2 : 6 < ρ.1.length
 ·rw [decide_eq_true (show (ρ.1.length : Int) > 6 by omega), cond_true, if_pos c2]
 rw [decide_eq_false (show ¬ (ρ.1.length : Int) > 6 by omega), cond_false, if_neg c2];refine Ok.eq ?_;refine ok_elim.2 ?_;refine (loop_up ρ.1.length (fun i (s : Int) => s = (i : Int) /\ preE ρ i = 0) (fun q : Unit ⊕ Int => match q with
  | .inl _ => preE ρ ρ.1.length = 0
  | .inr e => e = preE ρ ρ.1.length) ⟨rfl, rfl⟩ ?_).mono ?_
 ·rintro i s hi ⟨rfl, hz⟩;by_cases hlt : i < ρ.1.length
  ·have e2 : decide ((i : Int) < (ρ.1.length : Int)) = true := decide_eq_true (by omega);have f1 : idx ρ.1 (i : Int) = some (ρ.1.getD i []) := by rw [idx_in [] (by omega) (by omega), Int.toNat_natCast]
   have f2 : idx ρ.2.1 (i : Int) = some (ρ.2.1.getD i []) := by rw [idx_in [] (by omega) (by omega), Int.toNat_natCast]
   have f3 : idx ρ.1 0 = some (ρ.1.getD 0 []) := by rw [idx_in [] (by omega) (by omega)]; rfl
   have hnext : preE ρ (i + 1) = rowR (ρ.1.getD 0 []).length (ρ.1.getD i []) (ρ.2.1.getD i []) := by simp only [preE]; rw [if_pos hz]
   have hdl : (ρ.1.getD i []).length <= 1000000000 := hr _ (getD_mem hlt);simp only [e2, cond_true, f1, f2, f3, Option.bind_some];generalize ρ.1.getD i [] = d at *;generalize ρ.2.1.getD i [] = r at *;generalize (ρ.1.getD 0 []).length = n0 at *;have e3 : (bif decide ((d.length : Int) = 0) then some true else bif !(decide ((d.length : Int) = (n0 : Int))) then some true else some (!(decide ((r.length : Int) = (d.length : Int))))) = some (!(decide (¬ d.length = 0 /\ d.length = n0 /\ r.length = d.length))) := by
    by_cases b1 : d.length = 0
    ·rw [decide_eq_true (show (d.length : Int) = 0 by omega), cond_true, decide_eq_false (show ¬ (¬ d.length = 0 /\ d.length = n0 /\ r.length = d.length) from fun h => h.1 b1)]; rfl
    rw [decide_eq_false (show ¬ (d.length : Int) = 0 by omega), cond_false];by_cases b2 : d.length = n0
    case neg => rw [decide_eq_false (show ¬ (d.length : Int) = (n0 : Int) by omega), Bool.not_false, cond_true, decide_eq_false (show ¬ (¬ d.length = 0 /\ d.length = n0 /\ r.length = d.length) from fun h => b2 h.2.1)]; rfl
    rw [decide_eq_true (show (d.length : Int) = (n0 : Int) by omega), Bool.not_true, cond_false];by_cases b3 : r.length = d.length
    ·rw [decide_eq_true (show (r.length : Int) = (d.length : Int) by omega), decide_eq_true (show ¬ d.length = 0 /\ d.length = n0 /\ r.length = d.length from ⟨b1, b2, b3⟩)]
    ·rw [decide_eq_false (show ¬ (r.length : Int) = (d.length : Int) by omega), decide_eq_false (show ¬ (¬ d.length = 0 /\ d.length = n0 /\ r.length = d.length) from fun h => b3 h.2.2)]
   rw [e3, Option.bind_some];unfold rowR at hnext;by_cases b : ¬ d.length = 0 /\ d.length = n0 /\ r.length = d.length
   case neg =>
    rw [decide_eq_false b, Bool.not_false, cond_true, rnd_inr];rw [if_neg b] at hnext;show (10 : Int) = _;rw [preE_stay (i := i + 1) (by omega) (by omega), hnext]
   rw [decide_eq_true b, Bool.not_true, cond_false];rw [if_pos b] at hnext;by_cases b4 : 3 < d.length
   ·rw [decide_eq_true (show (d.length : Int) > 3 by omega), cond_true, rnd_inr];rw [if_pos b4] at hnext;show (8 : Int) = _;rw [preE_stay (i := i + 1) (by omega) (by omega), hnext]
   rw [decide_eq_false (show ¬ (d.length : Int) > 3 by omega), cond_false];rw [if_neg b4] at hnext;rw [row_loop b.2.2 hdl 2 (fun _ => some (.inl (w64 ((i : Int) + 1))))];by_cases b5 : (d.any (badZ 9) || r.any (badZ 9)) = true
   ·rw [if_pos b5, rnd_inr];rw [if_pos b5] at hnext;show (2 : Int) = _;rw [preE_stay (i := i + 1) (by omega) (by omega), hnext]
   ·rw [if_neg b5, wid (by omega) (by omega), rnd_inl];rw [if_neg b5] at hnext;exact ⟨hlt, by simp, hnext⟩
  ·have : i = ρ.1.length := by omega
   subst this;have e2 : decide ((ρ.1.length : Int) < (ρ.1.length : Int)) = false := by simp
   simp only [e2, cond_false];rw [rnd_inr];exact hz
 ·rintro (_ | e) hq
  ·exact ok_some.2 hq.symm
  ·exact hq
end Go.Proofs.YtbcdgfgacigaoaaGreat.Mat
end
section
namespace Go.Proofs.YtbcdgfgacigaoaaGreat.Mat
open Go Go.Ab Go.Tx Go.Proofs.YtbcdgfgacigaoaaGreat
abbrev Rg := Mx × Mx × Int × Int × Int × Unit
theorem first4 (a b c d : Int) : drive_first [a, b, c, d] = some (if a = 0 then if b = 0 then if c = 0 then d else c else b else a) := by
 rw [first_eq _ (by simp)];by_cases h : a = 0 <;> by_cases h2 : b = 0 <;> by_cases h3 : c = 0 <;> by_cases h4 : d = 0 <;> simp [fst0, h, h2, h3, h4]
theorem divisor_gen (l : List Int) (hl : l.length <= 1000000000) (hb : gcdL l <= 9223372036854775807) : drive_divisor l = some (gcdL l : Int) := by
 unfold drive_divisor;refine Ok.eq ?_;rw [ok_bind];refine (loop_up l.length (fun i (s : Int × Int) => s.2 = (i : Int) /\ s.1.natAbs = gcdL (l.take i)) (fun r : Int => r.natAbs = gcdL l) ⟨rfl, rfl⟩ ?_).mono ?_
 ·rintro i ⟨g, s⟩ hi ⟨h1, h2⟩;simp only at h1 h2;subst h1;by_cases hlt : i < l.length
  ·have e0 : decide ((i : Int) < (l.length : Int)) = true := decide_eq_true (by omega);simp only [e0, cond_true];rw [idx_in 0 (by omega) (by omega)];simp only [Option.bind_some, Int.toNat_natCast];obtain ⟨r, h3, h4⟩ := euclid_loop (f := fun (s5 : (Int × Int)) => bif !(decide (s5.2 = 0)) then bif decide (s5.2 = 0) then none else some (.inl (s5.2, s5.1.tmod s5.2)) else some (.inr s5.1)) (fun s => by
    by_cases h : s.2 = 0 <;> simp [h]) (l.getD i 0).natAbs g (l.getD i 0) (Nat.le_refl _)
   rw [h3];simp only [Option.bind_some];rw [wid (by omega) (by omega), rnd_inl];refine ⟨hlt, by simp, ?_⟩;rw [h4, take_next 0 hlt];unfold gcdL at h2 ⊢;rw [gcdF_snoc, <- h2];rfl
  ·have : i = l.length := by omega
   subst this;have e0 : decide ((l.length : Int) < (l.length : Int)) = false := by simp
   simp only [e0, cond_false];rw [rnd_inr];simpa using h2
 ·intro r hr;rw [wid (by omega) (by omega), ok_some];omega
theorem gcd_pos_le {a b : Int} (h0 : 0 < b) : (Int.gcd a b : Int) <= b /\ 1 <= Int.gcd a b := by
 have h1 : Nat.gcd a.natAbs b.natAbs ∣ b.natAbs := Nat.gcd_dvd_right _ _;have h2 := Nat.le_of_dvd (by omega) h1;have h3 : 0 < Nat.gcd a.natAbs b.natAbs := Nat.pos_of_dvd_of_pos h1 (by omega);have e : Int.gcd a b = Nat.gcd a.natAbs b.natAbs := rfl;rw [e]; omega
theorem divisor2_ok {a b : Int} (h0 : 0 < b) (h1 : b <= 9223372036854775807) : drive_divisor [a, b] = some (Int.gcd a b : Int) := by
 have h := (gcd_pos_le (a := a) h0).1;rw [divisor_gen _ (by simp) (by rw [gcdL_two]; omega), gcdL_two]
theorem Gcd_gen {a b : Int} (h0 : 0 < b) (h1 : b <= 9223372036854775807) : base_Gcd a b = some (Int.gcd a b : Int) := by
 unfold base_Gcd;refine Ok.eq ?_;rw [ok_bind];obtain ⟨r, h3, h4⟩ := euclid_loop (f := fun (s2 : (Int × Int)) => bif !(decide (s2.2 = 0)) then bif decide (s2.2 = 0) then none else some (.inl (s2.2, s2.1.tmod s2.2)) else some (.inr s2.1)) (fun s => by
  by_cases h : s.2 = 0 <;> simp [h]) b.natAbs a b (Nat.le_refl _)
 refine ⟨r, h3, ?_⟩;have h := (gcd_pos_le (a := a) h0).1;show Ok ((base_Size r).bind fun x4 => some x4) _;rw [Size_ok (by omega), Option.bind_some, ok_some, h4]
def low (num den : Int) : Prop := 0 < den /\ Int.gcd num den = 1
instance (num den : Int) : Decidable (low num den) := inferInstanceAs (Decidable (_ /\ _))
def conF (r : Rg) (i k : Nat) : G := gsub (diagF (r.2.2.2.1 * invD r.2.1) i k) (gmul (prodF r.2.1.length (ent r.1) (invF r.2.1) i k) (r.2.2.1, 0, ()))
def conR (r : Rg) : Int := rsum r.2.1.length r.2.1.length (conF r)
def conQ (r : Rg) : Int := r.2.2.2.1 * invD r.2.1
structure ConB (r : Rg) : Prop where
 pB : BdF 73728000000 r.2.1.length r.2.1.length (prodF r.2.1.length (ent r.1) (invF r.2.1))
 sB : BdF 14745600000000 r.2.1.length r.2.1.length (fun i k => gmul (prodF r.2.1.length (ent r.1) (invF r.2.1) i k) (r.2.2.1, 0, ()))
 qB : 1 <= conQ r /\ conQ r <= 7372800000000
 cB : BdF 22118400000000 r.2.1.length r.2.1.length (conF r)
 rB : 0 <= conR r /\ conR r <= 132710400000000
 n1 : 1 <= r.2.1.length
 n3 : r.2.1.length <= 3
def smallC (c : G) : Prop := (-1000000000 <= c.1 /\ c.1 <= 1000000000) /\ c.2.1 <= 1000000000
instance (c : G) : Decidable (smallC c) := inferInstanceAs (Decidable (_ /\ _))
theorem IsSmall_ok {c : G} (h : 1 <= c.2.1) : base_IsSmall c = some (decide (smallC c)) := by
 unfold base_IsSmall;rw [Within_ok, Option.bind_some];by_cases c1 : -1000000000 <= c.1 /\ c.1 <= 1000000000
 ·rw [decide_eq_true c1, cond_true, Within_ok, Option.bind_some, Option.bind_some];congr 1
  by_cases c2 : c.2.1 <= 1000000000
  ·rw [decide_eq_true (show 1 <= c.2.1 /\ c.2.1 <= 1000000000 from ⟨h, c2⟩), decide_eq_true (show smallC c from ⟨c1, c2⟩)]
  ·rw [decide_eq_false (show ¬ (1 <= c.2.1 /\ c.2.1 <= 1000000000) from fun hh => c2 hh.2), decide_eq_false (show ¬ smallC c from fun hh => c2 hh.2)]
 ·rw [decide_eq_false c1, cond_false, decide_eq_false (show ¬ smallC c from fun hh => c1 hh.1)]; rfl
end Go.Proofs.YtbcdgfgacigaoaaGreat.Mat
namespace Go.Proofs.YtbcdgfgacigaoaaGreat
open Go Go.Ab Go.Tx
end Go.Proofs.YtbcdgfgacigaoaaGreat
end
section
namespace Go.Proofs.YtbcdgfgacigaoaaGreat.Mat
open Go Go.Ab Go.Tx Go.Proofs.YtbcdgfgacigaoaaGreat
theorem anyR {l : List G} (hl : l.length <= 1000000000) :
  ((loopO (fun (s2 : Int) =>
   bif decide (s2 < (l.length : Int)) then
    (idx l s2).bind fun x3 =>
    (drive_openRuns_1 x3).bind fun x4 =>
    bif x4 then
     some (.inr (.inr s2))
    else
     some (.inl (w64 (s2 + 1)))
   else
    some (.inr (.inl ()))) 0).bind (Sum.elim (fun (p5 : Unit) =>
  some (-1)) some)).bind (fun x1 : Int => some (decide (x1 >= 0))) = some (l.any (badZ 9)) :=
 for_any l drive_openRuns_1 (badZ 9) (fun x _ => by
  unfold drive_openRuns_1;rw [whole_isSized_ok _ _ (by omega) (by omega)]; rfl) hl
theorem any0 : ((loopO (fun (s15 : Int) =>
   bif decide (s15 < 0) then
    none
   else
    some (.inr (.inl ()))) 0 : Option (Unit ⊕ Int)).bind (Sum.elim (fun (p16 : Unit) =>
  some (-1)) some)).bind (fun p17 : Int => some (decide (p17 >= 0))) = some false := by
 rw [loopO_inr (r := .inl ()) (by rfl)];rfl
set_option maxHeartbeats 4000000 in
theorem far_ok {d r : List G} (hd : d.length <= 1000000) (hr : r.length <= 1000000) :
  (bif decide (w64 (0 + (d.length : Int)) < 0) then
    none
   else
    bif decide (w64 ((w64 (0 + (d.length : Int))) + (r.length : Int)) < 0) then
     none
    else
     bif decide (w64 ((w64 (0 + (d.length : Int))) + (r.length : Int)) < 0) then
      none
     else
      let v13 : Bool := decide (w64 ((w64 ((w64 (0 + (d.length : Int))) + (r.length : Int))) - 0) > 0)
      bif v13 then
       bif (decide (0 < w64 ((w64 ((w64 (0 + (d.length : Int))) + (r.length : Int))) - 0)) && decide (w64 ((w64 ((w64 (0 + (d.length : Int))) + (r.length : Int))) - 0) <= 4294967296)) then
        bif List.isEmpty d then
         bif List.isEmpty r then
          ((loopO (fun (s15 : Int) =>
             bif decide (s15 < 0) then
              none
             else
              some (.inr (.inl ()))) 0).bind (Sum.elim (fun (p16 : Unit) =>
           some (-1)) some)).bind fun (p17 : Int) =>
          some (decide (p17 >= 0))
         else
          (app [] r).bind fun x18 =>
          ((loopO (fun (s20 : Int) =>
             bif decide (s20 < (x18.length : Int)) then
              (idx x18 s20).bind fun x21 =>
              (drive_openRuns_1 x21).bind fun x22 =>
              bif x22 then
               some (.inr (.inr s20))
              else
               some (.inl (w64 (s20 + 1)))
             else
              some (.inr (.inl ()))) 0).bind (Sum.elim (fun (p23 : Unit) =>
           some (-1)) some)).bind fun (p24 : Int) =>
          some (decide (p24 >= 0))
        else
         (app [] d).bind fun x25 =>
         (app x25 r).bind fun x26 =>
         ((loopO (fun (s28 : Int) =>
            bif decide (s28 < (x26.length : Int)) then
             (idx x26 s28).bind fun x29 =>
             (drive_openRuns_1 x29).bind fun x30 =>
             bif x30 then
              some (.inr (.inr s28))
             else
              some (.inl (w64 (s28 + 1)))
            else
             some (.inr (.inl ()))) 0).bind (Sum.elim (fun (p31 : Unit) =>
          some (-1)) some)).bind fun (p32 : Int) =>
         some (decide (p32 >= 0))
       else
        none
      else
       bif List.isEmpty d then
        bif List.isEmpty r then
         ((loopO (fun (s34 : Int) =>
            bif decide (s34 < 0) then
             none
            else
             some (.inr (.inl ()))) 0).bind (Sum.elim (fun (p35 : Unit) =>
          some (-1)) some)).bind fun (p36 : Int) =>
         some (decide (p36 >= 0))
        else
         (app [] r).bind fun x37 =>
         ((loopO (fun (s39 : Int) =>
            bif decide (s39 < (x37.length : Int)) then
             (idx x37 s39).bind fun x40 =>
             (drive_openRuns_1 x40).bind fun x41 =>
             bif x41 then
              some (.inr (.inr s39))
             else
              some (.inl (w64 (s39 + 1)))
            else
             some (.inr (.inl ()))) 0).bind (Sum.elim (fun (p42 : Unit) =>
          some (-1)) some)).bind fun (p43 : Int) =>
         some (decide (p43 >= 0))
       else
        (app [] d).bind fun x44 =>
        (app x44 r).bind fun x45 =>
        ((loopO (fun (s47 : Int) =>
           bif decide (s47 < (x45.length : Int)) then
            (idx x45 s47).bind fun x48 =>
            (drive_openRuns_1 x48).bind fun x49 =>
            bif x49 then
             some (.inr (.inr s47))
            else
             some (.inl (w64 (s47 + 1)))
           else
            some (.inr (.inl ()))) 0).bind (Sum.elim (fun (p50 : Unit) =>
         some (-1)) some)).bind fun (p51 : Int) =>
        some (decide (p51 >= 0))) = some (d.any (badZ 9) || r.any (badZ 9)) := by
 have w1 : w64 (0 + (d.length : Int)) = (d.length : Int) := by rw [Int.zero_add, wid (by omega) (by omega)]
 have w2 : w64 ((d.length : Int) + (r.length : Int)) = (d.length : Int) + (r.length : Int) := wid (by omega) (by omega);have w3 : w64 ((d.length : Int) + (r.length : Int) - 0) = (d.length : Int) + (r.length : Int) := by rw [Int.sub_zero]; exact w2
 simp only [w1, w2, w3];rw [decide_eq_false (show ¬ (d.length : Int) < 0 by omega), cond_false, decide_eq_false (show ¬ (d.length : Int) + (r.length : Int) < 0 by omega), cond_false, cond_false];have hA : ∀ l : List G, l.length <= 1000000000 -> _ := fun l hl => anyR (l := l) hl;cases d with
 | nil =>
  cases r with
  | nil =>
   simp only [List.length_nil, List.isEmpty_nil];rw [decide_eq_false (show ¬ (((0 : Nat) : Int) + ((0 : Nat) : Int) > 0) by omega)];simp only [cond_false, cond_true];rw [any0]; rfl
  | cons z r =>
   have hp : decide ((([] : List G).length : Int) + ((z :: r).length : Int) > 0) = true := decide_eq_true (by simp only [List.length_nil, List.length_cons]; omega);have hp1 : decide (0 < (([] : List G).length : Int) + ((z :: r).length : Int)) = true := decide_eq_true (by simp only [List.length_nil, List.length_cons]; omega);have hp2 : decide ((([] : List G).length : Int) + ((z :: r).length : Int) <= 4294967296) = true := decide_eq_true (by simp only [List.length_nil]; omega);simp only [hp, hp1, hp2, Bool.and_true, cond_true, List.isEmpty_nil, List.isEmpty_cons, cond_false];rw [app_nil (by omega), Option.bind_some, hA _ (by omega)];rfl
 | cons y d =>
  have hp : decide (((y :: d).length : Int) + (r.length : Int) > 0) = true := decide_eq_true (by simp only [List.length_cons]; omega);have hp1 : decide (0 < ((y :: d).length : Int) + (r.length : Int)) = true := decide_eq_true (by simp only [List.length_cons]; omega);have hp2 : decide (((y :: d).length : Int) + (r.length : Int) <= 4294967296) = true := decide_eq_true (by omega);simp only [hp, hp1, hp2, Bool.and_true, cond_true, List.isEmpty_cons, cond_false];rw [app_nil (by omega), Option.bind_some, app_of (by omega), Option.bind_some, hA _ (by rw [List.length_append]; omega), List.any_append]
structure MatB (a : Mx) (N n : Nat) : Prop where
 len : a.length = N
 rows : ∀ j, j < N -> (a.getD j []).length = n
 bd : ∀ j i, j < N -> i < n -> Bd 9 (ent a j i)
theorem RunB.d {ρ : Rn} {n : Nat} (h : RunB ρ n) : MatB ρ.1 ρ.1.length n := ⟨rfl, h.dl, h.dB⟩
theorem RunB.r {ρ : Rn} {n : Nat} (h : RunB ρ n) : MatB ρ.2.1 ρ.1.length n := ⟨h.len, h.rl, h.rB⟩
def crossF (a b : Mx) (N : Nat) (i k : Nat) : G := sumG N fun j => gmul (ent a j i) (gconj (ent b j k))
theorem MatB.at {a : Mx} {N n j i : Nat} (h : MatB a N n) (hj : j < N) (hi : i < n) : ∃ row, idx a (j : Int) = some row /\ idx row (i : Int) = some (ent a j i) := by
 have hl := h.len;have hr := h.rows j hj;exact ⟨a.getD j [], by rw [idx_in [] (by omega) (by omega), Int.toNat_natCast], by rw [idx_in g0 (by omega) (by omega), Int.toNat_natCast]; rfl⟩
theorem cross_bd {a b : Mx} {N n i k : Nat} (ha : MatB a N n) (hb : MatB b N n) (hN : N <= 6) (hi : i < n) (hk : k < n) : Bd 972 (crossF a b N i k) := by
 have h := Bd.sum (n := N) (f := fun j => gmul (ent a j i) (gconj (ent b j k))) (B := 2 * (9 * 9)) fun j hj => (ha.bd j i hj hi).mul (hb.bd j k hj hk).conj;exact h.mono (by omega)
theorem sums1_ok {a : Mx} {ρ : Rn} {n i k : Nat} (ha : MatB a ρ.1.length n) (hb : MatB ρ.1 ρ.1.length n) (hN : ρ.1.length <= 6) (hi : i < n) (hk : k < n) : drive_sumsOf_1_1 (i : Int) (k : Int) ρ a = some (crossF a ρ.1 ρ.1.length i k) := by
 unfold drive_sumsOf_1_1;have hf : ∀ j, j < ρ.1.length -> Bd 162 (gmul (ent a j i) (gconj (ent ρ.1 j k))) := fun j hj => ((ha.bd j i hj hi).mul (hb.bd j k hj hk).conj).mono (by omega);rw [sum_loop ρ.1.length (by omega) (A := 162) (by omega) (by omega) (fun j => gmul (ent a j i) (gconj (ent ρ.1 j k))) hf (fun j hj x y hxy => ?_) (fun x y => ?_)]
 ·rfl
 ·have e0 : decide ((j : Int) < (ρ.1.length : Int)) = true := decide_eq_true (by omega);obtain ⟨r1, h1, h2⟩ := ha.at hj hi;obtain ⟨r2, h3, h4⟩ := hb.at hj hk;simp only [e0, cond_true, h1, h2, h3, h4, Option.bind_some];rw [conj_ok (hb.bd j k hj hk) (by omega), Option.bind_some, times_ok' (ha.bd j i hj hi) (hb.bd j k hj hk).conj (by omega), Option.bind_some, plus_ok hxy (hf j hj) (le_next (by omega) hj (by omega))];rfl
 ·have e0 : decide ((ρ.1.length : Int) < (ρ.1.length : Int)) = false := by simp
  simp only [e0, cond_false]
theorem made_s1 {n c : Nat} (hn : n <= 1000) (hc : c <= 1000) (ρ : Rn) (a : Mx) (f : Nat -> Nat -> G) (h : ∀ i k : Nat, i < n -> k < c -> drive_sumsOf_1_1 i k ρ a = some (f i k)) : drive_made_of_drive_sumsOf_1_1 (n : Int) (c : Int) ρ a = some (mx n c f) := by
 unfold drive_made_of_drive_sumsOf_1_1;exact made_loop n c hn hc (fun i k => drive_sumsOf_1_1 i k ρ a) f h
theorem sumsOf_ok {ρ : Rn} {n : Nat} (h : RunB ρ n) : drive_sumsOf ρ (n : Int) = some (mx n n (crossF ρ.1 ρ.1 ρ.1.length), mx n n (crossF ρ.2.1 ρ.1 ρ.1.length), ()) := by
 have h3 := h.n3;have h6 := h.l6;unfold drive_sumsOf drive_sumsOf_1;have e1 := made_s1 (n := n) (c := n) (by omega) (by omega) (ρ.1, ρ.2.1, ()) ρ.1 (crossF ρ.1 ρ.1 ρ.1.length) fun i k hi hk => sums1_ok (ρ := (ρ.1, ρ.2.1, ())) h.d h.d h6 hi hk;have e2 := made_s1 (n := n) (c := n) (by omega) (by omega) (ρ.1, ρ.2.1, ()) ρ.2.1 (crossF ρ.2.1 ρ.1 ρ.1.length) fun i k hi hk => sums1_ok (ρ := (ρ.1, ρ.2.1, ())) h.r h.d h6 hi hk;rw [e1, Option.bind_some, Option.bind_some, e2];rfl
theorem Crossed_ok {a b : Mx} {N n : Nat} (ha : MatB a N n) (hb : MatB b N n) (hN1 : 1 <= N) (hN : N <= 6) (hn : n <= 3) : ref04_Crossed a b = some (mx n n (crossF a b N)) := by
 unfold ref04_Crossed;have hla := ha.len;have hlb := hb.len;have ra := ha.rows 0 (by omega);have rb := hb.rows 0 (by omega);have z1 : idx a 0 = some (a.getD 0 []) := by rw [idx_in [] (by omega) (by omega)]; rfl
 have z2 : idx b 0 = some (b.getD 0 []) := by rw [idx_in [] (by omega) (by omega)]; rfl
 rw [for_mk n (fun i => mkL n fun k => crossF a b N i k) (fun i hi => ?_) ?_]
 ·rfl
 ·have e0 : decide ((n : Int) < (n : Int)) = false := by simp
  simp only [z1, Option.bind_some, ra, e0, cond_false]
 ·have e0 : decide ((i : Int) < (n : Int)) = true := decide_eq_true (by omega);simp only [z1, Option.bind_some, ra, e0, cond_true];rw [for_mk n (fun k => crossF a b N i k) (fun k hk => ?_) ?_]
  ·simp only [Option.bind_some];rw [app_one (by rw [mkL_len]; omega)];simp only [Option.bind_some];rw [wid (by omega) (by omega)]
  ·have e1 : decide ((n : Int) < (n : Int)) = false := by simp
   simp only [z2, Option.bind_some, rb, e1, cond_false]
  ·have e1 : decide ((k : Int) < (n : Int)) = true := decide_eq_true (by omega);simp only [z2, Option.bind_some, rb, e1, cond_true, hla];have hf : ∀ j, j < N -> Bd 162 (gmul (ent a j i) (gconj (ent b j k))) := fun j hj => ((ha.bd j i hj hi).mul (hb.bd j k hj hk).conj).mono (by omega);rw [sum_loop N (by omega) (A := 162) (by omega) (by omega) (fun j => gmul (ent a j i) (gconj (ent b j k))) hf (fun j hj x y hxy => ?_) (fun x y => ?_)]
   ·simp only [Option.bind_some];rw [app_one (by rw [mkL_len]; omega)];simp only [Option.bind_some];rw [wid (by omega) (by omega)];rfl
   ·have e2 : decide ((j : Int) < (N : Int)) = true := decide_eq_true (by omega);obtain ⟨r1, h1, h2⟩ := ha.at hj hi;obtain ⟨r2, h3, h4⟩ := hb.at hj hk;simp only [e2, cond_true, h1, h2, h3, h4, Option.bind_some];rw [GConj_ok (hb.bd j k hj hk) (by omega), Option.bind_some, GMul_ok (ha.bd j i hj hi) (hb.bd j k hj hk).conj (by omega), Option.bind_some, GAdd_ok hxy (hf j hj) (le_next (by omega) hj (by omega))];rfl
   ·have e2 : decide ((N : Int) < (N : Int)) = false := by simp
    simp only [e2, cond_false]
def sF (ρ : Rn) : Nat -> Nat -> G := crossF ρ.1 ρ.1 ρ.1.length
def tF (ρ : Rn) : Nat -> Nat -> G := crossF ρ.2.1 ρ.1 ρ.1.length
def rnN (ρ : Rn) : Nat := (ρ.1.getD 0 []).length
def sD (ρ : Rn) : G := detF (rnN ρ) (sF ρ)
theorem dB972 : ∀ n, n <= 3 -> dB 972 n <= 9000000000000000000 := fun n hn => by
 match n, hn with
 | 0, _ => decide
 | 1, _ => decide
 | 2, _ => decide
 | 3, _ => decide
theorem grn_le {f : Nat -> G} : ∀ {N : Nat}, (∀ j, j < N -> Bd 9 (f j)) -> grn N f <= N * 162
 | 0, _ => by simp [grn]
 | N + 1, h => by
  have h1 := grn_le (N := N) fun j hj => h j (by omega);have h2 := h N (by omega);have p1 := (abs_mul_le h2.1 h2.1).2;have p2 := (abs_mul_le h2.2 h2.2).2;simp only [grn, nrm];omega
theorem sD_real {ρ : Rn} (h : runE ρ = 0) : ∃ w : Int, sD ρ = (w, 0, ()) /\ 0 <= w /\ w <= 918330048 := by
 have hB := runB h;have h6 := hB.l6;obtain ⟨w, e, h0, h1⟩ := gram_det (N := ρ.1.length) (n := rnN ρ) hB.n3 (v := ent ρ.1) (B := 972) (by omega) fun i hi => by
  have := grn_le (N := ρ.1.length) (f := fun j => ent ρ.1 j i) fun j hj => hB.dB j i hj hi;omega
 exact ⟨w, e, h0, by omega⟩
def estE (ρ : Rn) : Int := if runE ρ ≠ 0 then runE ρ else if sD ρ = g0 then 11 else 0
end Go.Proofs.YtbcdgfgacigaoaaGreat.Mat
end
section
namespace Go.Proofs.YtbcdgfgacigaoaaGreat.Mat
open Go Go.Ab Go.Tx Go.Proofs.YtbcdgfgacigaoaaGreat
theorem isZero_dec (a : G) : (bif decide (a.1 = 0) then (bif decide (a.2.1 = 0) then true else false) else false) = decide (a = g0) := geq_dec a g0
theorem rowE_ok (s : Int) (n0 : Nat) (d r : List G) :
  (bif decide ((d.length : Int) > 0) then
   bif decide ((d.length : Int) = (n0 : Int)) then
    (drive_unless (decide ((r.length : Int) = (n0 : Int))) (10 : Int)).bind fun x53 =>
    (drive_unless (decide ((d.length : Int) <= 3)) (8 : Int)).bind fun x54 =>
    (drive_unless (!(d.any (badZ 9) || r.any (badZ 9))) (2 : Int)).bind fun x55 =>
    (drive_first ([s, x53, x54, x55])).bind fun x56 =>
    some x56
   else
    (drive_unless false (10 : Int)).bind fun x57 =>
    (drive_unless (decide ((d.length : Int) <= 3)) (8 : Int)).bind fun x58 =>
    (drive_unless (!(d.any (badZ 9) || r.any (badZ 9))) (2 : Int)).bind fun x59 =>
    (drive_first ([s, x57, x58, x59])).bind fun x60 =>
    some x60
  else
   (drive_unless false (10 : Int)).bind fun x61 =>
   (drive_unless (decide ((d.length : Int) <= 3)) (8 : Int)).bind fun x62 =>
   (drive_unless (!(d.any (badZ 9) || r.any (badZ 9))) (2 : Int)).bind fun x63 =>
   (drive_first ([s, x61, x62, x63])).bind fun x64 =>
   some x64) = some (if s = 0 then rowR n0 d r else s) := by
 simp only [unless_eq, Option.bind_some, first4];unfold rowR;generalize (d.any (badZ 9) || r.any (badZ 9)) = far;by_cases b1 : d.length = 0
 ·rw [decide_eq_false (show ¬ (d.length : Int) > 0 by omega), cond_false, if_neg (show ¬ (¬ d.length = 0 /\ d.length = n0 /\ r.length = d.length) from fun h => h.1 b1)];simp
 rw [decide_eq_true (show (d.length : Int) > 0 by omega), cond_true];by_cases b2 : d.length = n0
 case neg =>
  rw [decide_eq_false (show ¬ (d.length : Int) = (n0 : Int) by omega), cond_false, if_neg (show ¬ (¬ d.length = 0 /\ d.length = n0 /\ r.length = d.length) from fun h => b2 h.2.1)];simp
 rw [decide_eq_true (show (d.length : Int) = (n0 : Int) by omega), cond_true];by_cases b3 : r.length = d.length
 case neg =>
  rw [decide_eq_false (show ¬ (r.length : Int) = (n0 : Int) by omega), if_neg (show ¬ (¬ d.length = 0 /\ d.length = n0 /\ r.length = d.length) from fun h => b3 h.2.2)];simp
 rw [decide_eq_true (show (r.length : Int) = (n0 : Int) by omega), if_pos (show ¬ d.length = 0 /\ d.length = n0 /\ r.length = d.length from ⟨b1, b2, b3⟩), if_pos rfl, if_pos rfl];by_cases b4 : 3 < d.length
 ·rw [decide_eq_false (show ¬ (d.length : Int) <= 3 by omega), if_pos b4];simp
 ·rw [decide_eq_true (show (d.length : Int) <= 3 by omega), if_neg b4];cases far <;> simp
theorem openRuns_ok {ρ : Rn} (h1 : ρ.1.length <= 1000000) (hr : ∀ d ∈ ρ.1, d.length <= 1000000) (hr2 : ∀ r ∈ ρ.2.1, r.length <= 1000000) :
  ∃ y : Rn × G, drive_openRuns ρ = some (y.1, y.2, estE ρ) /\ (estE ρ = 0 -> y = ((mx (rnN ρ) (rnN ρ) (sF ρ), mx (rnN ρ) (rnN ρ) (tF ρ), ()), sD ρ)) := by
 unfold drive_openRuns;have e1 : (bif decide ((ρ.1.length : Int) > 0) then
   (drive_unless (decide ((ρ.2.1.length : Int) = (ρ.1.length : Int))) (10 : Int)).bind fun x1 =>
   (drive_unless (decide ((ρ.1.length : Int) <= 6)) (8 : Int)).bind fun x2 =>
   (drive_first ([x1, x2])).bind fun x3 =>
   some x3
  else
   (drive_unless false (10 : Int)).bind fun x4 =>
   (drive_unless (decide ((ρ.1.length : Int) <= 6)) (8 : Int)).bind fun x5 =>
   (drive_first ([x4, x5])).bind fun x6 =>
   some x6) = some (if ρ.1.length = 0 \/ ¬ ρ.2.1.length = ρ.1.length then 10 else if 6 < ρ.1.length then 8 else 0) := by
  simp only [unless_eq, Option.bind_some, first2];by_cases c1 : ρ.1.length = 0
  ·rw [decide_eq_false (show ¬ (ρ.1.length : Int) > 0 by omega), cond_false, if_pos (.inl c1 : ρ.1.length = 0 \/ ¬ ρ.2.1.length = ρ.1.length)];simp
  rw [decide_eq_true (show (ρ.1.length : Int) > 0 by omega), cond_true];by_cases c2 : ρ.2.1.length = ρ.1.length
  case neg =>
   rw [decide_eq_false (show ¬ (ρ.2.1.length : Int) = (ρ.1.length : Int) by omega), if_pos (.inr c2 : ρ.1.length = 0 \/ ¬ ρ.2.1.length = ρ.1.length)];simp
  rw [decide_eq_true (show (ρ.2.1.length : Int) = (ρ.1.length : Int) by omega), if_neg (show ¬ (ρ.1.length = 0 \/ ¬ ρ.2.1.length = ρ.1.length) by omega)];by_cases c3 : 6 < ρ.1.length
  ·rw [decide_eq_false (show ¬ (ρ.1.length : Int) <= 6 by omega), if_pos c3]; simp
  ·rw [decide_eq_true (show (ρ.1.length : Int) <= 6 by omega), if_neg c3]; simp
 rw [e1, Option.bind_some];by_cases c : ρ.1.length = 0 \/ ¬ ρ.2.1.length = ρ.1.length
 ·have hE : runE ρ = 10 := by unfold runE; rw [if_pos c]
  have hE2 : estE ρ = 10 := by unfold estE; rw [hE]; rfl
  rw [if_pos c, decide_eq_false (show ¬ (10 : Int) = 0 by omega), Bool.not_false, cond_true, hE2];exact ⟨(([], [], ()), (0, 0, ())), rfl, fun h => by cases h⟩
 rw [if_neg c];by_cases c2 : 6 < ρ.1.length
 ·have hE : runE ρ = 8 := by unfold runE; rw [if_neg c, if_pos c2]
  have hE2 : estE ρ = 8 := by unfold estE; rw [hE]; rfl
  rw [if_pos c2, decide_eq_false (show ¬ (8 : Int) = 0 by omega), Bool.not_false, cond_true, hE2];exact ⟨(([], [], ()), (0, 0, ())), rfl, fun h => by cases h⟩
 rw [if_neg c2, decide_eq_true (show (0 : Int) = 0 from rfl), Bool.not_true, cond_false];have hE : runE ρ = preE ρ ρ.1.length := by unfold runE; rw [if_neg c, if_neg c2]
 have f3 : idx ρ.1 0 = some (ρ.1.getD 0 []) := by rw [idx_in [] (by omega) (by omega)]; rfl
 rw [f3, Option.bind_some];have hloop : ∀ K : Int × Int -> Option ((Int × Int) ⊕ Int), (∀ i : Nat, i < ρ.1.length -> K (preE ρ i, (i : Int)) = some (.inl (preE ρ (i + 1), w64 ((i : Int) + 1)))) -> K (preE ρ ρ.1.length, (ρ.1.length : Int)) = some (.inr (preE ρ ρ.1.length)) -> loopO K (0, 0) = some (preE ρ ρ.1.length) := fun K hK hKe => by
  refine Ok.eq (loop_up ρ.1.length (fun i (s : Int × Int) => s = (preE ρ i, (i : Int))) (fun q => q = preE ρ ρ.1.length) rfl ?_);rintro i s hi rfl;by_cases hlt : i < ρ.1.length
  ·rw [hK i hlt, wid (by omega) (by omega), rnd_inl];exact ⟨hlt, rfl⟩
  ·have : i = ρ.1.length := by omega
   subst this;rw [hKe, rnd_inr]
 rw [hloop _ (fun i hi => ?_) ?_]
 ·rw [Option.bind_some, <- hE];by_cases cE : runE ρ = 0
  case neg =>
   have hE2 : estE ρ = runE ρ := by unfold estE; rw [if_pos cE]
   rw [decide_eq_false cE, Bool.not_false, cond_true, hE2];exact ⟨(([], [], ()), (0, 0, ())), rfl, fun h => absurd h cE⟩
  rw [decide_eq_true cE, Bool.not_true, cond_false];have hB := runB cE;have es : drive_sumsOf (ρ.1, ρ.2.1, ()) ((ρ.1.getD 0 []).length : Int) = some (mx (rnN ρ) (rnN ρ) (sF ρ), mx (rnN ρ) (rnN ρ) (tF ρ), ()) := sumsOf_ok hB;have hS : BdF 972 (rnN ρ) (rnN ρ) (sF ρ) := fun i k hi hk => cross_bd hB.d hB.d hB.l6 hi hk;have ed : drive_matrix_determinant (mx (rnN ρ) (rnN ρ) (sF ρ)) = some (sD ρ) := det12 (B := 972) (by omega) (by have := hB.n3; unfold rnN; omega) hS (dB972 _ hB.n3);rw [es, Option.bind_some];dsimp only;rw [ed, Option.bind_some];try dsimp only
  rw [isZero_dec, unless_eq, Option.bind_some];have hE2 : estE ρ = if (!(decide (sD ρ = g0))) = true then 0 else 11 := by
   unfold estE;rw [if_neg (show ¬ (runE ρ ≠ 0) from fun hh => hh cE)];by_cases cz : sD ρ = g0
   ·rw [if_pos cz, decide_eq_true cz]; rfl
   ·rw [if_neg cz, decide_eq_false cz]; rfl
  rw [<- hE2];exact ⟨((mx (rnN ρ) (rnN ρ) (sF ρ), mx (rnN ρ) (rnN ρ) (tF ρ), ()), sD ρ), rfl, fun _ => rfl⟩
 ·have e2 : decide ((ρ.1.length : Int) < (ρ.1.length : Int)) = false := by simp
  simp only [e2, cond_false]
 ·have e2 : decide ((i : Int) < (ρ.1.length : Int)) = true := decide_eq_true (by omega);have f1 : idx ρ.1 (i : Int) = some (ρ.1.getD i []) := by rw [idx_in [] (by omega) (by omega), Int.toNat_natCast]
  have f2 : idx ρ.2.1 (i : Int) = some (ρ.2.1.getD i []) := by rw [idx_in [] (by omega) (by omega), Int.toNat_natCast]
  have g1 := hr (ρ.1.getD i []) (getD_mem hi);have g2 := hr2 (ρ.2.1.getD i []) (getD_mem (by omega));show (bif decide ((i : Int) < (ρ.1.length : Int)) then (idx ρ.1 (i : Int)).bind _ else _) = _;rw [e2, cond_true, f1, Option.bind_some, f2, Option.bind_some, far_ok g1 g2, Option.bind_some, rowE_ok, Option.bind_some];simp only [preE]
theorem EstimateErr_ok {ρ : Rn} (h1 : ρ.1.length <= 1000000) (hr : ∀ d ∈ ρ.1, d.length <= 1000000) : ref04_EstimateErr ρ = some (estE ρ) := by
 unfold ref04_EstimateErr;have e1 : ref04_RunsErr (ρ.1, ρ.2.1, ()) = some (runE ρ) := RunsErr_ok (ρ := ρ) (by omega) (fun d hd => by have := hr d hd; omega);rw [e1, Option.bind_some];unfold estE;by_cases cE : runE ρ = 0
 case neg => rw [decide_eq_false cE, Bool.not_false, cond_true, if_pos cE]
 rw [decide_eq_true cE, Bool.not_true, cond_false, if_neg (show ¬ (runE ρ ≠ 0) from fun hh => hh cE)];have hB := runB cE;have hS : BdF 972 (rnN ρ) (rnN ρ) (sF ρ) := fun i k hi hk => cross_bd hB.d hB.d hB.l6 hi hk;have es : ref04_Crossed ρ.1 ρ.1 = some (mx (rnN ρ) (rnN ρ) (sF ρ)) := Crossed_ok hB.d hB.d hB.l1 hB.l6 hB.n3;have ed : ref04_Determinant (mx (rnN ρ) (rnN ρ) (sF ρ)) = some (sD ρ) := refDet12 (B := 972) (by omega) (by have := hB.n3; unfold rnN; omega) hS (dB972 _ hB.n3);rw [es, Option.bind_some, ed, Option.bind_some];dsimp only;rw [isZero_dec];by_cases cz : sD ρ = g0
 ·rw [if_pos cz, decide_eq_true cz]; rfl
 ·rw [if_neg cz, decide_eq_false cz]; rfl
end Go.Proofs.YtbcdgfgacigaoaaGreat.Mat
end
section
namespace Go.Proofs.YtbcdgfgacigaoaaGreat.Mat
open Go Go.Ab Go.Tx Go.Proofs.YtbcdgfgacigaoaaGreat
theorem Adjugate_ok {n : Nat} {f : Nat -> Nat -> G} {B M : Int} (hn : n <= 5) (hB : 1 <= B) (hf : BdF B (n + 1) (n + 1) f) (hc : dB B n <= 9000000000000000000) (hM : ∀ i k, i < n + 1 -> k < n + 1 -> Bd M (cofF n f i k)) (M0 : M <= 9000000000000000000) :
  ref04_Adjugate (mx (n + 1) (n + 1) f) = some (mx (n + 1) (n + 1) (adjF n f)) := by
 unfold ref04_Adjugate;rw [mx_len];rw [for_mk (n + 1) (fun i => mkL (n + 1) fun k => adjF n f i k) (fun i hi => ?_) ?_]
 ·rfl
 ·have e0 : decide (((n + 1 : Nat) : Int) < ((n + 1 : Nat) : Int)) = false := by simp
  simp only [e0, cond_false]
 ·have e0 : decide ((i : Int) < ((n + 1 : Nat) : Int)) = true := decide_eq_true (by omega);simp only [e0, cond_true];rw [for_mk (n + 1) (fun k => adjF n f i k) (fun k hk => ?_) ?_]
  ·simp only [Option.bind_some];rw [app_one (by rw [mkL_len]; omega)];simp only [Option.bind_some];rw [wid (by omega) (by omega)]
  ·have e1 : decide (((n + 1 : Nat) : Int) < ((n + 1 : Nat) : Int)) = false := by simp
   simp only [e1, cond_false]
  ·have e1 : decide ((k : Int) < ((n + 1 : Nat) : Int)) = true := decide_eq_true (by omega);simp only [e1, cond_true];rw [refWithout_any (by omega) f hk hi];simp only [Option.bind_some];rw [refDet12 hB (by omega) (minor_bd hf) hc];simp only [Option.bind_some];rw [wid (by omega) (by omega)];have e2 : ((i : Int) + (k : Int)) = ((i + k : Nat) : Int) := by omega
   rw [e2, Mod2_ok _ (by omega)];simp only [Option.bind_some];have hb := hM i k hi hk;unfold adjF;unfold cofF at hb ⊢;by_cases hp : (i + k) % 2 = 1
   ·have e2 : decide ((((i + k) % 2 : Nat) : Int) = 1) = true := decide_eq_true (by omega);rw [e2, cond_true, if_pos hp, GSub0_ok hb M0];simp only [Option.bind_some, geta];rw [app_one (by rw [mkL_len]; omega)];simp only [Option.bind_some];rw [wid (by omega) (by omega)]
   ·have e2 : decide ((((i + k) % 2 : Nat) : Int) = 1) = false := decide_eq_false (by omega);rw [e2, cond_false, if_neg hp];simp only [Option.bind_some, geta];rw [app_one (by rw [mkL_len]; omega)];simp only [Option.bind_some];rw [wid (by omega) (by omega)]
theorem quot_mul {n c : Nat} {f : Nat -> Nat -> G} {a : Int} {i k : Nat} (hi : i < n) (hk : k < c) : gmul (quotF (qg a (mx n c f)) f i k) ((qg a (mx n c f) : Int), 0, ()) = f i k := by
 rw [gscale];exact gext (Int.tdiv_mul_cancel (gcdF_dvd (mem_parts.2 ⟨i, k, hi, hk, .inl rfl⟩))) (Int.tdiv_mul_cancel (gcdF_dvd (mem_parts.2 ⟨i, k, hi, hk, .inr rfl⟩)))
theorem quot_den {n c : Nat} {f : Nat -> Nat -> G} {a : Int} : a.tdiv (qg a (mx n c f) : Int) * (qg a (mx n c f) : Int) = a :=
 Int.tdiv_mul_cancel (Int.ofNat_dvd_left.2 (gcdF_dvd_start (partsM (mx n c f)) a.natAbs))
structure EstB (ρ : Rn) (m : Nat) (w : Int) : Prop where
 run : RunB ρ (m + 1)
 len : rnN ρ = m + 1
 det : detF (m + 1) (sF ρ) = (w, 0, ())
 w0 : 0 < w
 w1 : w <= 918330048
 sB : BdF 972 (m + 1) (m + 1) (sF ρ)
 tB : BdF 972 (m + 1) (m + 1) (tF ρ)
 inv : InvB m (sF ρ) (w, 0, ()) 972 3779136 918330048 1000000000000000000
theorem estB {ρ : Rn} (h : estE ρ = 0) : ∃ m w, EstB ρ m w /\ runE ρ = 0 := by
 unfold estE at h;by_cases cE : runE ρ = 0
 case neg => rw [if_pos cE] at h; exact absurd h cE
 rw [if_neg (show ¬ (runE ρ ≠ 0) from fun hh => hh cE)] at h;by_cases cz : sD ρ = g0
 ·rw [if_pos cz] at h; cases h
 have hB := runB cE;obtain ⟨w, ew, w0, w1⟩ := sD_real cE;have hn1 := hB.n1;have hn3 := hB.n3;obtain ⟨m, hm⟩ : ∃ m, rnN ρ = m + 1 := ⟨rnN ρ - 1, by unfold rnN; omega⟩
 have hB' : RunB ρ (m + 1) := by rw [<- hm]; exact hB
 have hm2 : m <= 2 := by unfold rnN at hm; omega
 have hw : 0 < w := by
  false_or_by_contra
  refine cz ?_;rw [ew, show w = 0 by omega]; rfl
 have sB : BdF 972 (m + 1) (m + 1) (sF ρ) := fun i k hi hk => cross_bd hB'.d hB'.d hB'.l6 hi hk;have tB : BdF 972 (m + 1) (m + 1) (tF ρ) := fun i k hi hk => cross_bd hB'.r hB'.d hB'.l6 hi hk;have ed : detF (m + 1) (sF ρ) = (w, 0, ()) := by rw [<- hm]; exact ew
 have hdC : dC 972 m <= 3779136 := by
  match m, hm2 with
  | 0, _ => decide
  | 1, _ => decide
  | 2, _ => decide
 have ww : w * w <= 918330048 * 918330048 := Int.mul_le_mul w1 w1 (by omega) (by omega);refine ⟨m, w, ⟨hB', hm, ed, hw, w1, sB, tB, ⟨by omega, sB, dB972 m (by omega), fun i k hi hk => (detF_bdC (by omega) m _ (minor_bd sB)).mono hdC, by unfold Bd; simp only; omega, by omega, by omega, by omega, by omega, by omega, ?_, fun hz => ?_⟩⟩, cE⟩
 ·unfold norm; simp only <;> omega
 ·have := congrArg (fun z : G => z.1) hz;simp only [g0] at this;omega
end Go.Proofs.YtbcdgfgacigaoaaGreat.Mat
end
section
namespace Go.Proofs.YtbcdgfgacigaoaaGreat.Mat
open Go Go.Ab Go.Tx Go.Proofs.YtbcdgfgacigaoaaGreat
theorem fewRuns_ok (ρ : Rn) : Ok (law04_fewRuns ρ) fun b => b = true -> FewM ρ.1 8 /\ FewM ρ.2.1 8 := by
 unfold law04_fewRuns;refine Ok.bind (P := fun b : Bool => b = true -> FewM ρ.1 8 /\ FewM ρ.2.1 8) ?_ fun b hb => ok_some.2 hb;refine Ok.bind (fewOf_ok ρ.1 8 (by omega)) fun x hx => ?_;cases x with
 | false => exact ok_some.2 (by simp)
 | true =>
  rw [cond_true];exact Ok.bind (fewOf_ok ρ.2.1 8 (by omega)) fun y hy => ok_some.2 fun h => ⟨hx rfl, hy h⟩
theorem CopyRuns_ok {ρ : Rn} (h1 : ρ.1.length <= 1000000000) (hr : ∀ x ∈ ρ.1, x.length <= 1000000000) (h2 : ρ.2.1.length <= 1000000000) (hr2 : ∀ x ∈ ρ.2.1, x.length <= 1000000000) : ref04_CopyRuns ρ = some ρ := by
 unfold ref04_CopyRuns;rw [CopyMatrix_ok h1 hr, Option.bind_some, CopyMatrix_ok h2 hr2, Option.bind_some]
end Go.Proofs.YtbcdgfgacigaoaaGreat.Mat
namespace Go.Proofs.YtbcdgfgacigaoaaGreat
open Go Go.Ab Go.Tx
end Go.Proofs.YtbcdgfgacigaoaaGreat
end
section
namespace Go.Proofs.YtbcdgfgacigaoaaGreat.Mat
open Go Go.Ab Go.Tx Go.Proofs.YtbcdgfgacigaoaaGreat
theorem gconj_mul (a b : G) : gconj (gmul a b) = gmul (gconj a) (gconj b) := gext (by simp only [gconj, gmul]; grind) (by simp only [gconj, gmul]; grind)
theorem gconj_conj (a : G) : gconj (gconj a) = a := gext rfl (by simp only [gconj]; omega)
theorem gconj_sum {n : Nat} (f : Nat -> G) : gconj (sumG n f) = sumG n fun k => gconj (f k) := by
 induction n with
 | zero => rfl
 | succ n ih => simp only [sumG, <- ih]; exact gext (by simp only [gconj, gadd]) (by simp only [gconj, gadd]; omega)
theorem gr_mix (e r : Nat -> G) (s : Int) : ∀ N, gr N (fun j => gadd (e j) (gmul (r j) (s, 0, ()))) (fun j => gadd (e j) (gmul (r j) (s, 0, ()))) = gadd (gadd (gr N e e) (gmul (gadd (gr N e r) (gr N r e)) (s, 0, ()))) (gmul (gr N r r) (s * s, 0, ()))
 | 0 => gext (by simp [gr, sumG, g0, gadd, gmul]) (by simp [gr, sumG, g0, gadd, gmul])
 | n + 1 => by
  have h := gr_mix e r s n;unfold gr at h ⊢;simp only [sumG, h];exact gext (by simp only [gadd, gmul, gconj]; grind) (by simp only [gadd, gmul, gconj]; grind)
theorem gr_comb {N n : Nat} (d : Nat -> Nat -> G) (q : Nat -> G) (r : Nat -> G) : gr N (fun j => sumG n fun i => gmul (d j i) (gconj (q i))) r = sumG n fun i => gmul (gr N (fun j => d j i) r) (gconj (q i)) := by
 unfold gr;have e1 : sumG N (fun j => gmul (sumG n fun i => gmul (d j i) (gconj (q i))) (gconj (r j))) = sumG N (fun j => sumG n fun i => gmul (gmul (d j i) (gconj (q i))) (gconj (r j))) := sumG_congr fun j hj => (sumG_mul _).symm;rw [e1, sumG_swap];refine sumG_congr fun i hi => ?_;rw [<- sumG_mul];exact sumG_congr fun j hj => by rw [gmul_assoc, gmul_comm (gconj (q i)), <- gmul_assoc]
theorem coh_range {N n : Nat} {d : Nat -> Nat -> G} {r : Nat -> G} {A : Nat -> Nat -> G} {w : Int} (hw : 0 < w)
  (hA : ∀ i k, i < n -> k < n -> prodF n (gramF N d) A i k = diagF w i k) :
  0 <= (prodF n (prodF n (fun _ k => gr N r (fun j => d j k)) A) (fun j _ => gconj (gr N r (fun l => d l j))) 0 0).1 /\
   (prodF n (prodF n (fun _ k => gr N r (fun j => d j k)) A) (fun j _ => gconj (gr N r (fun l => d l j))) 0 0).1 <= w * grn N r := by
 generalize hc : (fun k => gr N r (fun j => d j k)) = c;have hc' : ∀ k, gr N r (fun j => d j k) = c k := fun k => by rw [<- hc]
 simp only [hc'];generalize hQ : prodF n (prodF n (fun _ k => c k) A) (fun j _ => gconj (c j)) 0 0 = Q;let q : Nat -> G := fun k => prodF n A (fun j _ => gconj (c j)) k 0
 have hQ2 : Q = sumG n fun i => gmul (c i) (q i) := by
  rw [<- hQ, <- prodF_assoc]; rfl
 let e : Nat -> G := fun j => sumG n fun i => gmul (d j i) (gconj (q i))
 have hdr : ∀ i, gr N (fun j => d j i) r = gconj (c i) := fun i => by rw [gr_conj N r (fun j => d j i), hc']
 have hR : gr N e r = gconj Q := by
  rw [gr_comb d q r, hQ2, gconj_sum];exact sumG_congr fun i hi => by rw [hdr, gconj_mul]
 have hR2 : gr N r e = Q := by rw [gr_conj N e r, hR, gconj_conj]
 have hSq : ∀ i, i < n -> gr N (fun j => d j i) e = gmul (gconj (c i)) (w, 0, ()) := fun i hi => by
  rw [gr_conj N e (fun j => d j i), gr_comb d q (fun j => d j i), gconj_sum];have e1 : (sumG n fun k => gconj (gmul (gr N (fun j => d j k) (fun j => d j i)) (gconj (q k)))) = prodF n (gramF N d) (prodF n A (fun j _ => gconj (c j))) i 0 := sumG_congr fun k hk => by
   rw [gconj_mul, gconj_conj, <- gr_conj N (fun j => d j k) (fun j => d j i)];rfl
  rw [e1, prodF_assoc];have e2 : prodF n (prodF n (gramF N d) A) (fun j _ => gconj (c j)) i 0 = prodF n (diagF w) (fun j _ => gconj (c j)) i 0 := prodF_congr (fun j hj => hA i j hi hj) (fun j hj => rfl);rw [e2, prodF_diagl w (fun j _ => gconj (c j)) hi]
 have hee : gr N e e = gmul (gconj Q) (w, 0, ()) := by
  have e1 : gr N e e = sumG n fun i => gmul (gr N (fun j => d j i) e) (gconj (q i)) := gr_comb d q e;rw [e1, hQ2, gconj_sum, <- sumG_mul];refine sumG_congr fun i hi => ?_;rw [hSq i hi, gconj_mul, gmul_assoc, gmul_comm ((w, 0, ()) : G), <- gmul_assoc]
 have s1 := gr_self N e;rw [hee] at s1;have s1' := congrArg (fun z : G => z.1) s1;simp only [gmul, gconj] at s1';have n1 := grn_nonneg N e;have hmix := gr_mix e r (-w) N;have s2 := gr_self N (fun j => gadd (e j) (gmul (r j) (-w, 0, ())));rw [hmix, hee, hR, hR2, gr_self N r] at s2;have n2 := grn_nonneg N (fun j => gadd (e j) (gmul (r j) (-w, 0, ())));generalize grn N (fun j => gadd (e j) (gmul (r j) (-w, 0, ()))) = z2 at s2 n2;have s2' := congrArg (fun z : G => z.1) s2;simp only [gmul, gconj, gadd] at s2';have k1 : w * Q.1 = grn N e := by rw [<- s1']; grind
 have k2 : w * (w * grn N r - Q.1) = z2 := by rw [<- s2']; grind
 constructor
 ·false_or_by_contra
  have : w * Q.1 <= w * (-1) := Int.mul_le_mul_of_nonneg_left (by omega) (by omega);omega
 ·false_or_by_contra
  have : w * (w * grn N r - Q.1) <= w * (-1) := Int.mul_le_mul_of_nonneg_left (by omega) (by omega);omega
def lw (a b : Int) : G := (a.tdiv (Int.gcd a b), b.tdiv (Int.gcd a b), ())
theorem lw_scale {a b s : Int} (hs : 0 < s) : lw (a * s) (b * s) = lw a b := by
 have e : ((Int.gcd (a * s) (b * s) : Nat) : Int) = s * (Int.gcd a b : Int) := by
  rw [Int.gcd_mul_right, Int.natCast_mul, Int.mul_comm]; congr 1; omega
 have ht : ∀ x : Int, (x * s).tdiv (s * (Int.gcd a b : Int)) = x.tdiv (Int.gcd a b : Int) := fun x => by
  rw [Int.mul_comm x s];exact Int.mul_tdiv_mul_of_pos _ _ hs
 unfold lw;rw [e, ht, ht]
theorem lw_mul {a b : Int} : (lw a b).1 * (Int.gcd a b : Int) = a /\ (lw a b).2.1 * (Int.gcd a b : Int) = b :=
 ⟨Int.tdiv_mul_cancel (Int.gcd_dvd_left ..), Int.tdiv_mul_cancel (Int.gcd_dvd_right ..)⟩
theorem lw_range {a b : Int} (hb : 0 < b) : 1 <= (lw a b).2.1 /\ (0 <= a -> a <= b -> 0 <= (lw a b).1 /\ (lw a b).1 <= (lw a b).2.1) := by
 obtain ⟨h1, h2⟩ := lw_mul (a := a) (b := b);have hg := (gcd_pos_le (a := a) hb).2;refine ⟨?_, fun ha hab => ⟨?_, ?_⟩⟩
 ·false_or_by_contra
  have : (lw a b).2.1 * (Int.gcd a b : Int) <= 0 * (Int.gcd a b : Int) := Int.mul_le_mul_of_nonneg_right (by omega) (by omega);omega
 ·false_or_by_contra
  have : (lw a b).1 * (Int.gcd a b : Int) <= (-1) * (Int.gcd a b : Int) := Int.mul_le_mul_of_nonneg_right (by omega) (by omega);omega
 ·false_or_by_contra
  have : ((lw a b).2.1 + 1) * (Int.gcd a b : Int) <= (lw a b).1 * (Int.gcd a b : Int) := Int.mul_le_mul_of_nonneg_right (by omega) (by omega);rw [Int.add_mul] at this;omega
theorem small_gen {a b : Int} (hb : 0 < b) (hb2 : b <= 4000000000000000000) (ha : -4000000000000000000 <= a /\ a <= 4000000000000000000) : drive_small a b = some (if smallC (lw a b) then (lw a b, 0) else ((0, 0, ()), 8)) := by
 have hg := gcd_pos_le (a := a) hb;unfold drive_small;rw [divisor2_ok hb (by omega), Option.bind_some];have t1 := tdiv_bd (x := a) (g := (Int.gcd a b : Int)) (B := 4000000000000000000) (by omega);have t2 := tdiv_bd (x := b) (g := (Int.gcd a b : Int)) (B := 4000000000000000000) (by omega);have e1 : a.tdiv (Int.gcd a b : Int) = (lw a b).1 := rfl;have e2 : b.tdiv (Int.gcd a b : Int) = (lw a b).2.1 := rfl;rw [decide_eq_false (show ¬ (Int.gcd a b : Int) = 0 by omega), cond_false, cond_false, wid (by omega) (by omega), wid (by omega) (by omega), isSized_ok _ _ (by omega) (by omega), Option.bind_some, e1, e2];by_cases c1 : -1000000000 <= (lw a b).1 /\ (lw a b).1 <= 1000000000
 ·by_cases c2 : (lw a b).2.1 <= 1000000000
  ·rw [decide_eq_true c1, decide_eq_false (show ¬ (lw a b).2.1 > 1000000000 by omega), if_pos (show smallC (lw a b) from ⟨c1, c2⟩)]; rfl
  ·rw [decide_eq_true c1, decide_eq_true (show (lw a b).2.1 > 1000000000 by omega), if_neg (show ¬ smallC (lw a b) from fun hh => c2 hh.2)]; rfl
 ·rw [decide_eq_false c1, if_neg (show ¬ smallC (lw a b) from fun hh => c1 hh.1)]; rfl
theorem Lowest_ok {a b : Int} (hb : 0 < b) (hb2 : b <= 4000000000000000000) (ha : -4000000000000000000 <= a /\ a <= 4000000000000000000) : base_Lowest a b = some (lw a b) := by
 have hg := gcd_pos_le (a := a) hb;have t1 := tdiv_bd (x := a) (g := (Int.gcd a b : Int)) (B := 4000000000000000000) (by omega);have t2 := tdiv_bd (x := b) (g := (Int.gcd a b : Int)) (B := 4000000000000000000) (by omega);unfold base_Lowest;rw [Gcd_gen hb (by omega), Option.bind_some, decide_eq_false (show ¬ b < 0 by omega), cond_false, Option.bind_some, decide_eq_false (show ¬ (Int.gcd a b : Int) = 0 by omega), cond_false, cond_false, wid (by omega) (by omega), wid (by omega) (by omega)];rfl
def pwN (ρ : Rn) (o : Nat) : Int := grn ρ.1.length fun j => ent ρ.2.1 j o
theorem nrm_bd {z : G} (h : Bd 9 z) : 0 <= nrm z /\ nrm z <= 162 := by
 have p1 := (abs_mul_le h.1 h.1).2;have p2 := (abs_mul_le h.2 h.2).2;have := nrm_nonneg z;unfold nrm at *;omega
theorem pw_bd {ρ : Rn} {n o : Nat} (h : RunB ρ n) (ho : o < n) : ∀ j, j <= ρ.1.length -> 0 <= grn j (fun j => ent ρ.2.1 j o) /\ grn j (fun j => ent ρ.2.1 j o) <= 972 := fun j hj => by
 have h1 := grn_le (N := j) (f := fun j => ent ρ.2.1 j o) fun i hi => h.rB i o (by omega) ho;have h6 := h.l6;exact ⟨grn_nonneg _ _, by omega⟩
theorem power_ok {ρ : Rn} {n o : Nat} (h : RunB ρ n) (ho : o < n) : ref04_power ρ (o : Int) = some (pwN ρ o) := by
 unfold ref04_power;have hl := h.len;have h6 := h.l6;refine Ok.eq ?_;rw [ok_bind];refine (loop_up ρ.1.length (fun i (s : Int × Int) => s = (grn i (fun j => ent ρ.2.1 j o), (i : Int))) (fun q => q = pwN ρ o) rfl ?_).mono (fun a ha => ok_some.2 ha);rintro i s hi rfl;rw [hl];by_cases hlt : i < ρ.1.length
 ·have e1 : decide ((i : Int) < (ρ.1.length : Int)) = true := decide_eq_true (by omega);obtain ⟨row, f1, f2⟩ := h.r.at hlt ho;simp only [e1, cond_true, f1, f2, Option.bind_some];have hb := h.rB i o hlt ho;have p1 := (abs_mul_le hb.1 hb.1)
  have p2 := (abs_mul_le hb.2 hb.2)
  have eN : base_GNorm (ent ρ.2.1 i o) = some (nrm (ent ρ.2.1 i o)) := by
   unfold base_GNorm nrm;rw [wid (n := (ent ρ.2.1 i o).1 * (ent ρ.2.1 i o).1) (by omega) (by omega), wid (n := (ent ρ.2.1 i o).2.1 * (ent ρ.2.1 i o).2.1) (by omega) (by omega), wid (by omega) (by omega)]
  have u1 := pw_bd h ho i hi;have u2 := nrm_bd hb;rw [eN, Option.bind_some, wid (by omega) (by omega), wid (by omega) (by omega), rnd_inl];exact ⟨hlt, rfl⟩
 ·have : i = ρ.1.length := by omega
  subst this;have e1 : decide ((ρ.1.length : Int) < (ρ.1.length : Int)) = false := by simp
  simp only [e1, cond_false];rw [rnd_inr]; rfl
theorem self_ok {z : G} (h : Bd 9 z) : drive_whole_times z (gconj z) = some (nrm z, 0, ()) := by
 rw [times_ok' h h.conj (by omega)];congr 1
 exact gext (by simp only [gmul, gconj, nrm]; grind) (by simp only [gmul, gconj]; grind)
theorem prog_power {ρ : Rn} {n o : Nat} (h : RunB ρ n) (ho : o < n) :
  loopO (fun (s6 : (Int × Int)) =>
    bif decide (s6.2 < (ρ.2.1.length : Int)) then
     (idx ρ.2.1 s6.2).bind fun x7 =>
     (idx x7 (o : Int)).bind fun x8 =>
     (idx x7 (o : Int)).bind fun x9 =>
     (drive_whole_conj x9).bind fun x10 =>
     (drive_whole_times x8 x10).bind fun x11 =>
     some (.inl (w64 (s6.1 + x11.1), w64 (s6.2 + 1)))
    else
     some (.inr s6.1)) (0, 0) = some (pwN ρ o) := by
 have hl := h.len;have h6 := h.l6;refine Ok.eq ?_;refine (loop_up ρ.1.length (fun i (s : Int × Int) => s = (grn i (fun j => ent ρ.2.1 j o), (i : Int))) (fun q => q = pwN ρ o) rfl ?_);rintro i s hi rfl;rw [hl];by_cases hlt : i < ρ.1.length
 ·have e1 : decide ((i : Int) < (ρ.1.length : Int)) = true := decide_eq_true (by omega);obtain ⟨row, f1, f2⟩ := h.r.at hlt ho;simp only [e1, cond_true, f1, f2, Option.bind_some];have hb := h.rB i o hlt ho;have u1 := pw_bd h ho i hi;have u2 := nrm_bd hb;rw [conj_ok hb (by omega), Option.bind_some, self_ok hb, Option.bind_some, wid (by omega) (by omega), wid (by omega) (by omega), rnd_inl];exact ⟨hlt, rfl⟩
 ·have : i = ρ.1.length := by omega
  subst this;have e1 : decide ((ρ.1.length : Int) < (ρ.1.length : Int)) = false := by simp
  simp only [e1, cond_false];rw [rnd_inr]; rfl
end Go.Proofs.YtbcdgfgacigaoaaGreat.Mat
end
