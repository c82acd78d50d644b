/-
  ONE LAW OF A CHAPTER: its program side is run by an interpreter that is proved sound; what it computes is shown to be what the law says. No conditions. Part 6 of 6.
-/
import Derived.Test.YtkcaaaiihhhnmaaGreatMFTe
import Derived.Test.YtkcaaaiihhhnmaaGreatProg
import Derived.Shelf.Slices.Reverse
import Derived.Shelf.Sort.Plain
import Derived.Shelf.Slices.In.SortNone
import Derived.KernelRfl
import Derived.Test.YtkcaaaiihhhnmaaGreatRows
import Derived.WalkKit
set_option linter.unusedSimpArgs false
set_option linter.unusedVariables false
set_option linter.unnecessarySimpa false
section
namespace Go.Tx
open Go Go.Ab Go.RowKit Go.ChangeShapes Go.WideShapes Go.Deep
variable {H : Type} {enc : TypeId × Value -> H} {P : Program} {w : World} {base : Nat} {held : Bool}
theorem slices_elTy {d : Nat} {e : TypeId} {cs1 cs : List Ty} (hc : cellsTy P d e = some cs1) (h : (match cellsTy P d e, P.underlying e with
   | some cs, some (.struct _) => some [Ty.sl (cs.foldr .pair .unit)]
   | some cs, some (.array ..) => some [.sl (cs.foldr .pair .unit)]
   | some [τ], _ => some [.sl τ]
   | _, _ => none) = some cs) : ∃ τ, cs = [.sl τ] /\ elTy P e cs1 = some τ := by
 rw [hc] at h;unfold elTy;cases hu : P.underlying e with
 | none => rw [hu] at h; simp only at h ⊢; split at h <;> simp_all
 | some dd =>
  rw [hu] at h;cases dd <;> simp only at h ⊢ <;> first | (simp only [Option.some.injEq] at h; exact ⟨_, h.symm, rfl⟩) | (split at h <;> simp_all)
theorem rep_empty {X : Cx} : Rep w X (.sl .shared false []) (.slice none 0 0) [] := by simp [Rep, ptrsL]
theorem rep_weird {X : Cx} (a : Addr) : Rep w X (.sl .shared false []) (.slice (some a) 0 0) [] := by simp [Rep, ptrsL]
theorem open_cells (hl : laidOutB P = true) {N : Nat} {S : DataW H -> Prop} (hS : Sm N S) : ∀ (d : Nat) (t : TypeId) (cs : List Ty), cellsTy P d t = some cs -> okT P d t = true -> ∀ (fuel : Nat) (vals : List Value) (x : DataW H × List MemPlace), S x.1 ->
  DataW.trod enc P w base (fun _ => true) held fuel t vals = some x -> All2 (CellOk N w) cs vals
 | 0, t, cs, hc, _, fuel, vals, x, hx, h => by simp [cellsTy] at hc
 | d + 1, t, cs, hc, hok, fuel, vals, x, hx, h => by
  simp only [cellsTy] at hc;simp only [okT, Bool.and_eq_true, decide_eq_true_eq] at hok;split at hc
  ·rename_i k hu;cases hc;obtain ⟨n, rfl, rfl, hwf⟩ := DataW.trod_int hu h;refine .cons ⟨n, .val (.int k n), ?_, by simp [RTy], by simp [Rep]⟩ .nil;simp only [Rng];simp only [Lit.wf, Bool.and_eq_true, decide_eq_true_eq] at hwf;exact hwf
  ·rename_i hu;cases hc;obtain ⟨b, rfl, rfl⟩ := DataW.trod_bool hu h;exact .cons ⟨b, .val (.bool b), trivial, by simp [RTy], by simp [Rep]⟩ .nil
  ·rename_i hu;cases hc;obtain ⟨s, rfl, rfl, hs⟩ := DataW.trod_string hu h;have hsl : s.data.toList.length <= maxLen := by
    have e : s.data.toList.length = s.size := Array.length_toList;rw [e]; exact hs
   exact .cons ⟨s.data.toList, .val (.string s), hS.str _ hx hsl, by simp [RTy], by simp [Rep]⟩ .nil
  ·rename_i hu; rw [hu] at hok; simp at hok
  ·rename_i hu; rw [hu] at hok; simp at hok
  ·rename_i e hu;obtain ⟨ht, hoe⟩ := hok;rw [hu] at hoe;simp only [Bool.and_eq_true, decide_eq_true_eq, beq_iff_eq] at hoe;cases hce : cellsTy P d e with
   | none => rw [hce] at hc; simp at hc
   | some cs1 =>
    obtain ⟨τ, rfl, hτ⟩ := slices_elTy hce (by rw [hce]; rw [hce] at hc; exact hc);obtain ⟨hel, hnc⟩ := elTy_props hce hτ (cellsTy_ones d e cs1 hce);rcases open_slice hu h with ⟨rfl, rfl⟩ | ⟨a, len, cap, m, n, D, Pl, rfl, hb, hlc, hcm, hm, rfl, hx'⟩
    ·exact .cons ⟨[], .sl .shared false [], ⟨Nat.zero_le _, by simp⟩, by simp only [RTy]; exact ⟨_, _, [], rfl, flr_of rfl (by simp) (fun _ => rfl), .nil⟩, rep_empty⟩ .nil
    ·simp only [if_true] at hm;subst hm;obtain ⟨hN, hSe⟩ := hS.slice _ _ hx (by simp; omega);by_cases hcap : m = 0
     ·subst hcap;have hlen : len = 0 := by omega
      subst hlen;exact .cons ⟨[], .sl .shared false [], ⟨Nat.zero_le _, by simp⟩, by simp only [RTy]; exact ⟨_, _, [], rfl, flr_of rfl (by simp) (fun _ => rfl), .nil⟩, rep_weird a⟩ .nil
     ·have hspot : a.spot = none := by
       obtain ⟨cs', hcs', _⟩ := hx' 0 (by omega);obtain ⟨_, hl1, hc1⟩ := World.cells?_some hcs';have h0 := hc1 0 (by omega);simp only [Nat.zero_mul] at h0;have : ∃ v0, cs'[0]? = some v0 := ⟨cs'[0]'(by omega), List.getElem?_eq_getElem (by omega)⟩
       obtain ⟨v0, hv0⟩ := this;rw [hv0] at h0;have := (cell_block h0).1;simpa [Addr.add] using this
      obtain ⟨b, off, spot⟩ := a;simp only at hspot;subst hspot;have hsz : ∀ i, i < m -> ∃ vals : List Value, vals.length = P.cellsOf e /\ (∀ j, j < P.cellsOf e -> w.cell? ⟨b, off + i * P.cellsOf e + j, none⟩ = vals[j]?) /\
        (i < len -> ∃ (y : τ.den) (u : V) (v : Value), Rng N τ y /\ RTy τ 1000 y u /\ Rep w (cx0 w) u v [] /\ v.cells.toList = vals) := fun i hi => by
       obtain ⟨cs', hcs', htr⟩ := hx' i hi;obtain ⟨_, hl1, hc1⟩ := World.cells?_some hcs';refine ⟨cs', hl1, fun j hj => ?_, fun hil => ?_⟩
       ·rw [<- hc1 j hj, Addr.add_lit, Addr.add_lit]
       ·have hSi : S (D i) := hSe _ (List.mem_map.2 ⟨i, List.mem_range.2 hil, rfl⟩);exact elem_ok hce hτ (open_cells hl hS d e cs1 hce hoe.2 n cs' _ hSi htr)
      have hn : τ.ncells = P.cellsOf e := by
       have := hoe.1.2;rw [hce] at this;simp only [Option.map_some, Option.some.injEq] at this;rw [hnc, this]
      obtain ⟨l, us, h1, h2, h3, h4⟩ := slice_rep (Nat.pos_of_ne_zero hoe.1.1) hlc hcap hel hn hsz;exact .cons ⟨l, .sl .shared false us, ⟨by rw [h1]; simpa using hN, h2⟩, by simp only [RTy]; exact ⟨_, _, us, rfl, flr_of rfl (by simp) (fun _ => rfl), h3⟩, h4⟩ .nil
  ·rename_i fields hu;obtain ⟨ht, hoe⟩ := hok;rw [hu] at hoe;simp only [List.all_eq_true] at hoe;obtain ⟨css, hcss, rfl⟩ := Option.map_eq_some_iff.1 hc;obtain ⟨hl1, hget⟩ := mapM_get hcss;obtain ⟨xs, n, _, rfl, hvl, hxl, hxs⟩ := DataW.trod_struct hu h;obtain ⟨_, hsum, hoff⟩ := kid_struct hl ht hu;refine glue css (fields.toList.map fun f => P.cellsOf f.type) vals (by simp [hl1]) (by rw [hvl, hsum]) fun j c s hcj hsj => ?_;rw [List.getElem?_map] at hsj;obtain ⟨fd, hfd, rfl⟩ := Option.map_eq_some_iff.1 hsj;obtain ⟨c', hc', hg⟩ := hget j fd hfd;rw [hcj] at hc'; cases hc';have hx1 := hxs j fd (by simpa using hfd);rw [hoff j fd hfd, List.map_take] at hx1;have hj : j < xs.length := by rw [hxl]; have := (List.getElem?_eq_some_iff.1 hfd).1; simpa using this
   rw [List.getElem?_eq_getElem hj] at hx1;exact open_cells hl hS d fd.type c hg (hoe fd (List.mem_of_getElem? hfd)) n _ _ (hS.agg _ hx _ (List.mem_map.2 ⟨xs[j], List.getElem_mem hj, rfl⟩)) hx1
  ·rename_i n' e hu;obtain ⟨ht, hoe⟩ := hok;rw [hu] at hoe;simp only at hoe;obtain ⟨cs1, hce, rfl⟩ := Option.map_eq_some_iff.1 hc;obtain ⟨_, hsum⟩ := kid_array hl ht hu;cases fuel with
   | zero => simp [DataW.trod] at h
   | succ fuel =>
    unfold DataW.trod at h;rw [hu] at h;simp only at h;split at h
    ·rename_i hvl;obtain ⟨xs, hxs, rfl⟩ := Option.map_eq_some_iff.1 h;obtain ⟨hxl, hget⟩ := mapM_get hxs;refine glue _ (List.replicate n' (P.cellsOf e)) vals (by simp) (by rw [hvl, hsum]; simp) fun j c s hcj hsj => ?_;have hjn : j < n' := by have := (List.getElem?_eq_some_iff.1 hcj).1; simpa using this
     rw [List.getElem?_replicate, if_pos hjn] at hcj hsj;cases hcj; cases hsj
     obtain ⟨b, hb, hg⟩ := hget j j (by simp [hjn]);have htk : ((List.replicate n' (P.cellsOf e)).take j).sum = j * P.cellsOf e := by
      rw [List.take_replicate]; simp [Nat.min_eq_left (Nat.le_of_lt hjn)]
     rw [htk];exact open_cells hl hS d e cs1 hce hoe fuel _ _ (hS.agg _ hx _ (List.mem_map.2 ⟨b, List.mem_of_getElem? hb, rfl⟩)) hg
    ·cases h
  ·cases hc
theorem open_arg (hl : laidOutB P = true) {N : Nat} {S : DataW H -> Prop} (hS : Sm N S) {t : TypeId} {τ : Ty} (hτ : tyOf P t = some τ) (hok : okT P 10 t = true) {v : Value} {d : DataW H} {ps : List MemPlace} {b0 : Nat} (hval : Value.okWide P w .any b0 t v)
  (h : DataW.Trod enc P w base (fun _ => true) held t v d ps) (hd : S d) : CellOk N w τ v := by
 obtain ⟨fuel, hf⟩ := h;unfold tyOf at hτ;split at hτ
 ·rename_i cs hc;have hall := open_cells hl hS 10 t cs hc hok fuel _ _ hd hf;split at hτ
  ·rename_i ha;cases hτ;obtain ⟨y, us, hy, hu, hr⟩ := pack_ok cs _ hall;have hv : ∃ c, v = .agg c := by
    unfold isAggT at ha;unfold Value.okWide at hval;split at ha
    ·rename_i fs hfs; rw [hfs] at hval; obtain ⟨c, hc, _⟩ := hval; exact ⟨c, hc⟩
    ·rename_i n e hfs; rw [hfs] at hval; obtain ⟨c, hc, _⟩ := hval; exact ⟨c, hc⟩
    ·cases ha
   obtain ⟨c, rfl⟩ := hv;refine ⟨y, .agg us, hy, hu, ?_⟩;simp only [Rep];exact ⟨c.toList, by simp, by simpa [Value.cells] using hr⟩
  ·rename_i ha
   match cs, hτ, hall with
   | τ' :: cs', hτ, hall =>
    simp only [List.head?_cons, Option.some.injEq] at hτ;subst hτ;have hone := cellsTy_ones 10 t _ hc τ' (by simp);have hv : v.cells.toList = [v] := by
     cases v with
     | agg c =>
      exfalso
      unfold isAggT at ha;unfold Value.okWide at hval;split at hval
      ·rename_i fs hfs; rw [hfs] at ha; simp at ha
      ·rename_i n e hfs; rw [hfs] at ha; simp at ha
      ·unfold Cell.okWide Cell.ok at hval;split at hval;all_goals first | (rename_i h1 h2; cases h2; done) | skip
       all_goals (split at hval <;> first | (exact hval.elim) | (rename_i h1 h2; cases h2))
     | _ => rfl
    rw [hv] at hall;cases hall with
    | cons h1 h2 => exact h1
 ·cases hτ
theorem open_args (hl : laidOutB P = true) {N : Nat} {S : DataW H -> Prop} (hS : Sm N S) {b0 : Nat} : ∀ (ts : List TypeId) (τs : List Ty) (vs : List Value) (ds : List (DataW H)) (ps : List MemPlace), ts.mapM (tyOf P) = some τs -> ts.all (okT P 10) = true ->
  (∀ (j : Nat) t v, ts[j]? = some t -> vs[j]? = some v -> Value.okWide P w .any b0 t v) -> DataW.TrodAll enc P w base (fun _ => true) held ts vs ds ps -> (∀ d ∈ ds, S d) ->
  ∃ x us, RngP N τs x /\ RVL (ofPms (τs.map .ty) x) us /\ RepL w (cx0 w) us vs []
 | [], τs, vs, ds, ps, hm, _, _, h, _ => by
  simp at hm; subst hm;obtain ⟨rfl, _, _⟩ := trodAll_nil h;exact ⟨(), [], trivial, rvl_nil, by simp [RepL]⟩
 | t :: ts, τs, vs, ds, ps, hm, hok, hval, h, hd => by
  simp only [List.mapM_cons, Option.bind_eq_bind, Option.bind_eq_some_iff] at hm;obtain ⟨τ, hτ, τs', hm', he⟩ := hm;cases he;simp only [List.all_cons, Bool.and_eq_true] at hok;obtain ⟨v, vs', d, ds', p, q, rfl, rfl, rfl, h1, h2⟩ := trodAll_cons h;obtain ⟨y, u, hy, hu, hr⟩ := open_arg hl hS hτ hok.1 (hval 0 t v rfl rfl) h1 (hd d (by simp));obtain ⟨x, us, hx, hus, hrs⟩ := open_args hl hS ts τs' vs' ds' q hm' hok.2 (fun j t' v' a b => hval (j + 1) t' v' (by simpa using a) (by simpa using b)) h2 fun d' hd' => hd d' (by simp [hd']);have hR : RepL w (cx0 w) (u :: us) (v :: vs') [] := by simp only [RepL]; exact ⟨v, vs', [], [], rfl, rfl, hr, hrs⟩
  cases τs' with
  | nil => exact ⟨y, u :: us, hy, (rvl_cons.2 ⟨rv_ofTy _ _ _ _ hu, hus⟩ : RVL (ofTy τ 1000 y :: []) (u :: us)), hR⟩
  | cons τ2 τs2 => exact ⟨(y, x), u :: us, ⟨hy, hx⟩, (rvl_cons.2 ⟨rv_ofTy _ _ _ _ hu, hus⟩ : RVL (ofTy τ 1000 y :: ofPms ((τ2 :: τs2).map .ty) x) (u :: us)), hR⟩
theorem trodAll_below (hl : laidOutB P = true) {W W' : World} (hb : Below W.heap.size W W') : ∀ {ts : List TypeId} {vs : List Value} {ds : List (DataW H)} {ps : List MemPlace}, ts.all (fun t => P.readableRec t && decide (t < P.types.size)) = true ->
  DataW.TrodAll enc P W 0 (fun _ => true) true ts vs ds ps -> (∀ x ∈ ps, x.block < W.heap.size) -> ∀ sp : Nat -> Bool, (∀ p ∈ ps, sp p.block = true) -> DataW.TrodAll enc P W' 0 sp true ts vs ds ps
 | [], [], [], ps, _, h, _, sp, _ => h
 | t :: ts, v :: vs, d :: ds, ps, hr, ⟨p, q, h1, h2, e⟩, hlt, sp, hsp => by
  simp only [List.all_cons, Bool.and_eq_true, decide_eq_true_eq] at hr;subst e;refine ⟨p, q, ?_, trodAll_below hl hb hr.2 h2 (fun x hx => hlt x (List.mem_append_right _ hx)) sp (fun x hx => hsp x (List.mem_append_right _ hx)), rfl⟩;exact WideElems.Trod_stays hl hr.1.1 hr.1.2 h1 (fun x hx => hb.same (hlt x (List.mem_append_left _ hx))) (fun x hx => hsp x (List.mem_append_left _ hx))
theorem lrel0 {w : World} : LRel [] w (cx0 w) (fun _ => []) where
 box := fun r c h => by simp [boxL] at h
 boxD := fun _ _ => rfl
 inj := fun r r' b h => by simp [boxL] at h
 lin := fun _ => Lin.nil
 dis := fun _ _ _ b hb => by cases hb
 ptrB := fun r c h => by simp [boxL] at h
 up := fun r c h => by simp [boxL] at h
 dom := fun b e fz h => (frozen0 h).2.1
theorem law_calls {H0 : Hints} {lib : FuncId -> Option (List V -> Option V)} (hm : P.follows .mixedOrders = true) (hname : NameOk P H0)
  (hlib : ∀ g h args r, lib g = some h -> h args = some r -> CallOk P g args [] r []) (hl : laidOutB P = true) {N : Nat} {S : DataW H -> Prop} (hS : Sm N S) {k : FuncId} {fn : Func} (hfn : P.funcs[k]? = some fn) (hbody : fn.body.isSome = true)
  {ts : List TypeId} {τs : List Ty} (hts : ts.mapM (tyOf P) = some τs) (hok : ts.all (okT P 10) = true) {F : denP (τs.map .ty) -> Option Bool}
  (he : EntryOk P H0 lib ⟨k, τs.map .ty, [(.bool, 0)], F⟩) (hF : ∀ x, RngP N τs x -> F x = some true)
  {W : World} {args : Array Value} {ds : List (DataW H)} {ps : List MemPlace} {b0 : Nat} (hval : ∀ (j : Nat) t v, ts[j]? = some t -> args.toList[j]? = some v -> Value.okWide P W .any b0 t v)
  (h : DataW.TrodAll enc P W 0 (fun _ => true) true ts args.toList ds ps) (hd : ∀ d ∈ ds, S d) :
  Calls P k args W fun e W' => e = .returned (.bool true) /\ Below W.heap.size W W' := by
 obtain ⟨x, us, hx, hus, hrs⟩ := open_args hl hS ts τs args.toList ds ps hts hok hval h hd;obtain ⟨v, hcall, hr⟩ := entry_call hm hname hlib he (x := x) (y := true) (hF x hx) hus;simp only [packT, ofL, packedT, ofTy, RV, RTy] at hr;subst hr;have hp : ptrsL us = [] := by
  apply List.eq_nil_iff_forall_not_mem.2;intro q hq;have hk : ∀ (τs : List Ty) (x : denP (τs.map .ty)), ptrsTL (ofPms (τs.map .ty) x) = [] := by
   have h1 : ∀ (τ : Ty) (y : τ.den), (ofTy τ 1000 y).ptrs = [] /\ ptrsTL (ofTyC τ 1000 y) = [] := by
    intro τ;induction τ with
    | pair a b iha ihb => intro y; simp [ofTy, ofTyC, TV.ptrs, ptrsTL, (iha y.1).1, (ihb y.2).2]
    | _ => intro y; simp [ofTy, ofTyC, TV.ptrs, ptrsTL]
   intro τs;induction τs with
   | nil => intro x; rfl
   | cons τ τs ih =>
    intro x;cases τs with
    | nil => show ptrsTL [ofTy τ 1000 x] = []; simp [ptrsTL, (h1 τ x).1]
    | cons τ2 τs2 => show ptrsTL (ofTy τ 1000 x.1 :: ofPms ((τ2 :: τs2).map .ty) x.2) = []; simp only [ptrsTL, (h1 τ x.1).1, List.nil_append]; exact ih x.2
  have := RVL.ptrs _ _ hus q hq;rw [hk] at this; cases this
 rcases hcall W (cx0 W) args.toList (fun _ => []) hrs lrel0 (fun q hq => by rw [hp] at hq; cases hq) (fun _ b e fz h => (frozen0 h).1) with ⟨_, hc⟩ | ⟨_, v, w', hv, _⟩
 ·refine (by simpa using hc : Calls P k args W _).mono ?_;rintro e W' ⟨v, rfl, X', O', Or, hrep, _, _, _, _, _, _, haft⟩;simp only [Rep] at hrep;obtain ⟨rfl, _⟩ := hrep;refine ⟨rfl, ⟨haft.os, haft.tape, haft.out, haft.size, fun b hb => ?_⟩⟩;exact (haft.kept b hb (by rintro (⟨r, h1, _⟩ | ⟨r, h1⟩) <;> simp [boxL] at h1)).1
 ·exfalso
  have hbs : fn.body.isNone = false := by cases hb : fn.body <;> simp_all
  simp only [callFunc, Sem.run_bind, run_program, Result.andThen_ok, hfn, hname.1 k fn hfn hbody, hbs, Bool.false_eq_true, if_false, Sem.run_pure] at hv;cases hv
end Go.Tx
end
section
namespace Go.Proofs.YtkcaaaiihhhnmaaGreat.Hn
open Go
def takeT : List (List Nat) := [[], [], [], [31, 44, 45, 48, 75, 82, 85, 89, 93, 94, 97, 129, 161, 176, 188, 191], [26, 32, 39, 41, 49, 54, 58, 59, 116, 117, 120, 123, 126], [48, 56, 69, 76, 78, 81, 101, 108, 110, 113, 140, 154, 161, 164, 168, 171, 175, 178, 183, 230, 233, 237, 240, 241], [25, 29, 33, 34, 37, 41, 44], [27, 31, 33, 39, 49, 50, 57, 61, 66, 71, 75, 80, 83, 87, 89, 92, 116, 122, 129, 130, 133, 134], [23, 33, 38, 40, 48, 53, 54, 57, 58, 66, 70, 75, 80, 85, 88, 91, 95, 109, 112, 115, 122, 124, 127, 130, 133, 134], [20, 32, 33, 36, 39, 57, 64, 67], [52, 56, 58, 64, 72, 75, 82, 85, 88, 117, 127, 132, 136, 138, 141, 156, 164, 167, 196, 200, 202, 206, 208, 211, 218, 240, 250, 268, 274, 277], [22, 36, 37, 40, 43, 50, 51, 54, 55], [12, 15, 23, 26, 28, 32, 34, 42, 53, 56, 61, 65, 70, 74, 79, 83, 87], [16, 30, 31, 38, 47], [], [], [], [], [], [13], [], [], [18], [11, 31], [12, 32, 33, 38, 40], [], [12, 26, 34, 39, 41, 45, 50], [26, 43, 51, 72, 89, 97], [], [], [53, 55, 59], [29], [5, 10], [30, 38], [10], [16, 26, 34, 38, 40, 41, 45], [20, 27, 28, 32, 34, 35, 39], [8, 29], [14, 15, 19, 21, 22], [14, 15, 19, 21], [24, 31, 34, 38, 46], [], [], [35, 37, 57, 77, 87, 98, 113], [20, 30, 37], [], [32, 38, 40, 49, 50, 52, 61, 62], [18, 51], [8, 15], [20, 26, 30], [11, 30, 44], [46, 57, 74, 89, 98, 99, 108, 109, 128, 129], [10], [22, 26], [65], [21, 22, 31], [], [], [34, 38], [], [], [], [15, 24, 25, 33, 34], [26, 41, 58, 66, 76, 79, 83], [12, 21, 23, 30, 38], [], [13, 22, 24, 32, 43, 51], [], [], [22, 23], [], [13], [6], [], [22, 23], [], [], [], [21, 81, 83], [], [118, 122, 125], [], [22, 23], [31, 36], [], [], [10, 16], [46, 49, 50, 54, 55], [37], [], [], [15, 31], [43], [32, 44, 55, 65, 76, 85], [], [], [], [], [18, 22, 23], [], [22, 23], [], [18], [22, 23], [], [], [9, 16], [], [], [], [14, 21], [5, 10], [], [], [6], [22, 23], [25], [], [18, 22, 23], [21], [6, 12], [28, 30, 33, 48], [], [], [], [], [47, 55], [], [17], [], [], [], [], [17], [], [], [], [19], [17, 21, 24], [22, 23], [16], [], [], [], [8, 14], [11, 19, 33, 40, 57], [], [], [7], [], [], [], [42, 66, 91, 93, 94, 98, 102, 109, 114, 115, 122, 124, 125, 133], [], [17], [17], [17], [20], [], [], [17], [], [27], [], [33, 45, 47, 50, 53, 56], [], [], [83], [80, 167], [], [], [13, 17], [75], [], [32], [], [11, 19, 27, 35], [24, 25, 26, 27], [], [], [], [], [], [], [], [], [], [], [], [], [], [], [], [], []]
def clearT : List (List (Nat × List Nat)) := [[],
 [],
 [],
 [(0, [71, 72, 73, 74, 75, 76, 77, 78, 79, 80, 81]), (2, [10, 15, 99, 100, 101, 102, 103, 104, 105, 106, 107, 108, 109, 110, 111, 112, 113, 114, 115, 116, 117, 118, 119, 120, 121, 122, 123, 124, 125, 126, 127, 128, 129, 130, 131, 132, 133, 134, 135, 136, 137, 138, 139, 140, 141, 142, 143, 144, 145, 146, 147, 148]), (4, [10, 105, 106, 107, 108, 109, 110, 111, 112, 113, 114, 115, 116, 117, 118, 119, 120, 121, 122, 123, 124, 125, 126, 127, 128, 129, 130, 131, 132, 133, 134, 135, 136, 137, 138, 139, 140, 141, 142, 143, 144, 145, 146, 147, 148])],
 [],
 [(0, [9, 12, 13, 14, 15, 23, 96, 97, 98, 99, 100, 101, 102, 103, 104, 105, 106, 107, 108, 109, 110, 111, 112, 113, 114, 115, 116, 117, 118, 119, 120, 121, 122, 123, 124, 125, 126, 127]), (2, [9, 12, 23, 136, 137, 138, 139, 140, 141, 142, 143, 144, 145, 146, 147, 148, 149, 150, 151, 152, 153, 154, 155, 156, 157, 158, 159, 160])],
 [],
 [],
 [],
 [(0, [74, 75, 76, 77, 78, 79, 80, 81, 82, 83, 84, 85, 86, 87, 88, 89, 90, 91, 92, 93, 94, 95, 96, 97, 98, 99, 100, 101, 102, 103, 104, 105, 106, 107, 108, 109, 110])],
 [(0, [15, 16, 17, 18, 22, 27, 111, 112, 113, 114, 115, 116, 117, 118, 119, 120, 121, 122, 123, 124, 125, 126, 127, 128, 129, 130, 131, 132, 133, 134, 135, 136, 137, 138, 139, 140, 141, 142, 143, 144, 145, 146, 147, 148, 149]), (2, [15, 17, 22, 27, 28, 29, 30, 234, 235, 236, 237, 238, 239, 240, 241, 242, 243, 244, 245, 246, 247, 248, 249, 250, 251, 252, 253, 254, 255, 256, 257, 258, 259, 260, 261, 262, 263, 264, 265, 266, 267, 268, 269, 270, 271, 272, 273, 274, 275, 276, 277, 278, 279])],
 [],
 [],
 [(0, [10, 11, 12, 42, 43, 44, 45, 46, 47, 48, 49, 50, 51, 52, 53, 54, 55])],
 [],
 [],
 [(0, [6, 11, 12, 13, 14, 15, 16, 17, 18, 19, 20, 21, 22, 23, 24, 25, 26, 27, 28, 29, 30, 31, 32, 33, 34, 35, 36, 37, 38, 39, 40, 41, 42, 43, 44, 45, 46, 47, 48, 49, 50, 51, 52, 53, 54, 55, 56, 57, 58, 59, 60, 61, 62]), (2, [66, 67, 68, 69, 70, 71, 72, 73, 74, 75, 76, 77, 78, 79, 80, 81, 82, 83, 84, 85, 86, 87])],
 [(0, [6, 7, 8, 9, 10, 11, 12, 13, 14, 15, 16, 17, 18, 19, 20, 21, 22, 23, 24, 25, 26, 27, 28, 29, 30, 31, 32, 33]), (2, [13, 14, 15, 16, 17, 18, 19, 20, 21, 22, 23, 24, 25, 26, 27, 28, 29, 30, 31, 32, 33])],
 [],
 [],
 [(0, [4, 8, 9, 10, 11, 12, 13, 14, 15, 16, 17, 18, 19, 20, 21, 22, 23, 24, 25, 26, 27, 28, 29, 30, 31, 32, 33, 34, 35, 36, 37, 38, 39, 40, 41, 42, 43, 44, 45, 46, 47, 48, 49]), (2, [30, 31, 32, 33, 34, 35, 36, 37, 38, 39, 40, 41, 42, 43, 44, 45, 46, 47, 48, 49])],
 [(0, [7, 8, 9, 10, 11, 12, 13, 14, 15, 16, 17, 18, 19, 20, 21, 22, 23, 24, 25, 26, 27, 28])],
 [],
 [(0, [5, 6, 7, 8, 9, 10, 11, 12, 13, 14, 15, 16, 17, 18, 19, 20, 21, 22, 23, 24, 25, 26, 27, 28, 29, 30])],
 [],
 [],
 [(0, [8, 9, 10, 11, 30, 31, 32, 33, 34, 35, 36, 37, 38, 39, 40, 41, 42, 43, 44, 45, 46, 47, 48, 49, 50, 51])],
 [(0, [5, 6, 13, 14, 15, 16, 17, 18, 19, 20, 21, 22, 23, 24, 25, 26, 27, 28, 29, 30, 31, 32, 33, 34, 35, 36, 37, 38, 39, 40, 41, 42, 43, 44, 45, 46, 47, 48, 49, 50, 51, 52, 53, 54, 55, 56, 57, 58, 59, 60, 61, 62, 63, 64, 65, 66, 67, 68, 69, 70, 71, 72, 73, 74, 75, 76, 77, 78, 79, 80, 81, 82, 83, 84, 85, 86, 87, 88, 89, 90, 91, 92, 93, 94, 95, 96, 97]), (2, [27, 28, 29, 30, 31, 32, 33, 34, 35, 36, 37, 38, 39, 40, 41, 42, 43]), (4, [52, 53, 54, 55, 56, 57, 58, 59, 60, 61, 62, 63, 64, 65, 66, 67, 68, 69, 70, 71, 72, 73, 74, 75, 76, 77, 78, 79, 80, 81, 82, 83, 84, 85, 86, 87, 88, 89])],
 [(0, [6, 10, 11, 12, 13, 14, 15, 16, 17, 18, 19, 20, 21, 22, 23, 24, 25, 26, 27, 28, 29, 30, 31, 32, 33, 34, 35, 36, 37, 38, 39, 40, 41, 42, 43, 44, 45, 46, 47, 48, 49, 50, 51, 52, 53, 54]), (2, [41, 42, 43, 44, 45, 46, 47, 48, 49, 50, 51, 52, 53, 54])],
 [(0, [11, 12, 13, 14, 15, 16, 17, 18, 19, 20, 21, 22, 23, 24, 25])],
 [(0, [9, 10, 11, 12, 13, 14, 15, 16, 17, 18, 19, 20, 21, 22, 23, 24, 25, 26, 27, 28, 29, 30, 31, 32, 33, 34, 35, 36, 37, 38, 39, 40, 41, 42, 43, 44, 45, 46, 47, 48, 49, 50, 51, 52, 53, 54, 55, 56, 57, 58]), (2, [21, 22, 23, 24, 25, 26, 27, 28, 29, 30, 31, 32, 33, 34, 35, 36, 37, 38, 39, 40, 41, 42, 43, 44, 45, 46, 47, 48, 49, 50, 51, 52])],
 [(0, [6, 7, 8, 9, 10, 11, 12, 13, 14, 15, 16, 17, 18, 19, 20, 21, 22, 23, 24, 25, 26, 27, 28, 29])],
 [],
 [(0, [7, 8, 9, 10, 11, 12, 13, 14, 15, 16, 17, 18, 19, 20, 21, 22, 23, 24, 25, 26, 27, 28, 29, 30, 31, 32, 33, 34, 35, 36, 37])],
 [],
 [(0, [9, 10, 20, 21, 22, 23, 24, 25, 26, 27, 28, 29, 30, 31, 32, 33, 34, 35, 36, 37, 38, 39, 40, 41, 42, 43, 44])],
 [(0, [7, 8, 9, 10, 14, 15, 16, 17, 18, 19, 20, 21, 22, 23, 24, 25, 26, 27, 28, 29, 30, 31, 32, 33, 34, 35, 36, 37, 38])],
 [],
 [],
 [],
 [(0, [10, 11, 12, 28, 29, 30, 31, 32, 33, 34, 35, 36, 37, 38, 39, 40, 41])],
 [],
 [],
 [(0, [11, 12, 13, 14, 15, 45, 46, 47, 48, 49, 50, 51, 52, 53, 54, 55, 56, 57, 58, 59, 60, 61, 62, 63, 64, 65, 66, 67, 68, 69, 70, 71, 72, 73, 74, 75, 76, 77, 78, 79, 80, 81, 82, 83, 84, 85, 86, 87, 88, 89, 90, 91, 92, 93, 94, 95, 96, 97, 98, 99, 100, 101, 102, 103, 104, 105, 106, 107, 108, 109, 110, 111, 112, 113, 114, 115, 116, 117, 118, 119]), (2, [58, 59, 60, 61, 62, 63, 64, 65, 66, 67, 68, 69, 70, 71, 72, 73, 74, 75, 76]), (4, [11, 14, 15, 81, 82, 83, 84, 85, 86, 87, 88, 89, 90, 91, 92, 93, 94, 95, 96, 97, 98, 99, 100, 101, 102, 103, 104, 105, 106, 107, 108, 109, 110, 111, 112, 113, 114, 115, 116, 117, 118, 119])],
 [(0, [9, 10, 14, 15, 16, 17, 18, 19, 20, 21, 22, 23, 24, 25, 26, 27, 28, 29, 30, 31, 32])],
 [(0, [22, 23, 24, 25, 26, 27, 28, 29, 30, 31, 32, 33, 34, 35]), (2, [36, 37, 38, 39, 40, 41, 42, 43, 44, 45, 46, 47, 48, 49, 50, 51, 52, 53, 54, 55, 56, 57, 58, 59, 60, 61, 62, 63, 64, 65, 66, 67, 68, 69, 70]), (4, [71, 72, 73, 74, 75, 76, 77, 78, 79, 80, 81, 82, 83, 84])],
 [],
 [(0, [10, 11, 12, 13, 14, 15, 16, 17, 18, 19, 20, 21, 22, 23, 24, 25, 26, 27, 28, 29, 30, 31, 32, 33, 34, 35, 36, 37, 38, 39, 40, 41, 42]), (2, [43, 44, 45, 46, 47, 48, 49, 50, 51, 52, 53, 54, 55, 56, 57, 58, 59, 60])],
 [],
 [],
 [],
 [(0, [32, 33, 34, 35, 36, 37, 38, 39, 40, 41, 42, 43, 44, 45, 46, 47, 48, 49, 50, 51, 52, 53, 54, 55, 56, 57]), (2, [6, 7, 8, 9, 58, 59, 60, 61, 62, 63, 64, 65, 66, 67, 68, 69, 70, 71, 72, 73, 74, 75, 76, 77, 78, 79, 80, 81, 82, 83, 84, 85, 86, 87, 88, 89, 90, 91, 92, 93, 94, 95, 96, 97, 98, 99, 100, 101, 102, 103, 104, 105, 106, 107, 108, 109]), (4, [75, 76, 77, 78, 79, 80, 81, 82, 83, 84, 85, 86, 87, 88, 89]), (6, [11, 110, 111, 112, 113, 114, 115, 116, 117, 118, 119, 120, 121, 122, 123, 124, 125, 126, 127, 128, 129])],
 [],
 [(0, [7, 8, 9, 10, 11, 12, 13, 14, 15, 16, 17, 18, 19, 20, 21, 22, 23, 24, 25])],
 [(0, [21, 22, 23, 24, 25, 26, 27, 28, 29, 30, 31, 32, 33, 34, 35, 36, 37]), (2, [38, 39, 40, 41, 42, 43, 44, 45, 46, 47, 48, 49, 50, 51, 52, 53, 54, 55, 56, 57, 58, 59, 60, 61, 62, 63, 64])],
 [],
 [],
 [(0, [19, 20, 21, 22, 23, 24, 25, 26, 27, 28, 29, 30, 31, 32, 33, 34, 35, 36, 37, 38, 39, 40, 41, 42, 43, 44, 45, 46, 47, 48, 49, 50, 51])],
 [(0, [8, 9, 10, 11, 12, 13, 14, 15, 16, 17, 18, 19, 20, 21, 22, 23, 24, 25, 26, 27, 28, 29, 30, 31, 32, 33])],
 [],
 [],
 [(0, [6, 7, 8, 9, 10, 11, 12, 13, 14, 15, 16, 17])],
 [],
 [(0, [13, 14, 15, 16, 17, 18, 19, 20, 21, 22, 23, 24, 25, 26, 27, 28, 29, 30, 31, 32, 33, 34, 35, 36, 37, 38, 39, 40, 41]), (2, [10, 11, 12, 46, 47, 48, 49, 50, 51, 52, 53, 54, 55, 56, 57, 58, 59, 60, 61, 62, 63, 64, 65, 66, 67, 68, 69, 70, 71, 72, 73, 74, 75, 76, 77, 78, 79, 80, 81, 82, 83]), (4, [11, 12, 59, 60, 61, 62, 63, 64, 65, 66, 67, 68, 69, 70, 71, 72, 73, 74, 75, 76, 77, 78, 79, 80, 81, 82, 83])],
 [(0, [11, 27, 28, 29, 30, 31, 32, 33, 34, 35])],
 [],
 [(0, [35, 36, 37, 38, 39, 40, 41, 42, 43, 44, 45, 46, 47, 48])],
 [],
 [],
 [(0, [6, 7, 8, 12, 13, 14, 15, 16, 17, 18, 19, 20, 21, 22, 23, 24])],
 [],
 [(0, [4, 8, 9, 10, 11, 12, 13, 14])],
 [],
 [],
 [(0, [6, 7, 8, 12, 13, 14, 15, 16, 17, 18, 19, 20, 21, 22, 23, 24])],
 [],
 [],
 [],
 [(0, [11, 12, 61, 62, 63, 64, 65, 66, 67, 68, 69, 70, 71, 72, 73, 74, 75, 76, 77, 78, 79, 80])],
 [],
 [(0, [11, 83, 84, 85, 86, 87, 88, 89, 90, 91, 92, 93, 94, 95, 96, 97, 98, 99, 100, 101, 102, 103, 104, 105, 106, 107, 108, 109, 110, 111, 112, 113, 114, 115, 116, 117, 118, 119, 120, 121])],
 [],
 [(0, [6, 7, 8, 12, 13, 14, 15, 16, 17, 18, 19, 20, 21, 22, 23, 24])],
 [(0, [9, 26, 27, 28, 29, 30, 31, 32, 33, 34, 35])],
 [],
 [],
 [],
 [(0, [11, 12, 20, 21, 22, 23, 24, 25, 26, 27, 28, 29, 30, 31, 32, 33]), (2, [13, 14, 41, 42, 43, 44, 45, 46, 47, 48, 49, 50, 51, 52, 53])],
 [(0, [4, 5, 14, 15, 16, 17, 18, 19, 20, 21, 22, 23, 24, 25, 26, 27, 28, 29, 30, 31, 32, 33, 34, 35, 36, 37, 38, 39, 40, 41, 42, 43, 44, 45, 46, 47, 48, 49, 50, 51, 52, 53, 54])],
 [(0, [6, 7, 8, 9, 10, 11, 12, 13, 14, 15, 16, 17])],
 [],
 [],
 [],
 [(0, [9, 10, 11, 12, 13, 20, 21, 22, 23, 24, 25, 26, 27, 28, 29, 30, 31, 32, 33, 34, 35, 36, 37, 38, 39, 40, 41, 42, 43, 44, 45, 46, 47, 48, 49, 50, 51, 52, 53, 54, 55, 56, 57, 58, 59, 60, 61, 62, 63, 64, 65, 66, 67, 68, 69, 70, 71, 72, 73, 74, 75, 76, 77, 78, 79, 80, 81, 82, 83, 84, 85, 86, 87, 88, 89, 90]), (2, [33, 34, 35, 36, 37, 38, 39, 40, 41, 42, 43, 44, 45, 46, 47, 48, 49, 50, 51, 52]), (4, [9, 12, 13, 59, 60, 61, 62, 63, 64, 65, 66, 67, 68, 69, 70, 71, 72, 73, 74, 75, 76, 77, 78, 79, 80, 81, 82, 83, 84, 85, 86, 87, 88, 89, 90])],
 [],
 [],
 [],
 [],
 [(0, [6, 7, 8, 12, 13, 14, 15, 16, 17, 18, 19, 20, 21, 22, 23, 24])],
 [],
 [(0, [6, 7, 8, 12, 13, 14, 15, 16, 17, 18, 19, 20, 21, 22, 23, 24])],
 [],
 [],
 [(0, [6, 7, 8, 12, 13, 14, 15, 16, 17, 18, 19, 20, 21, 22, 23, 24])],
 [],
 [],
 [],
 [],
 [],
 [],
 [(0, [22, 23, 24, 25, 26, 27, 28, 29, 30, 31, 32, 33, 34, 35, 36])],
 [],
 [],
 [(0, [7, 8, 9, 10, 11, 12, 13, 14, 15, 16, 17, 18, 19, 20, 21, 22]), (2, [23, 24, 25, 26, 27, 28, 29, 30, 31, 32, 33, 34, 35, 36, 37, 38])],
 [],
 [(0, [6, 7, 8, 12, 13, 14, 15, 16, 17, 18, 19, 20, 21, 22, 23, 24])],
 [],
 [],
 [(0, [6, 7, 8, 12, 13, 14, 15, 16, 17, 18, 19, 20, 21, 22, 23, 24])],
 [],
 [],
 [(0, [9, 13, 14, 15, 16, 17, 18, 19, 20, 21, 22, 23, 24, 25, 26, 27, 28, 29, 30])],
 [],
 [],
 [],
 [(0, [6, 7, 8, 9, 10, 11, 12, 13, 14, 15, 16, 17, 18, 19])],
 [(0, [10, 11, 18, 19, 20, 21, 22, 23, 24, 25, 26, 27, 28, 29, 30, 31, 32, 33, 34, 35, 36, 37, 38, 39, 40, 41, 42, 43, 44, 45, 46, 47, 48, 49, 50, 51, 52, 53, 54])],
 [],
 [(0, [5, 9, 10, 11, 12, 13, 14, 15, 16, 17, 18])],
 [],
 [(0, [7, 8, 9, 10, 11, 12, 13, 14, 15, 16, 17, 18, 19, 20, 21, 22, 23, 24, 25, 26, 27])],
 [],
 [],
 [(0, [5, 9, 10, 11, 12, 13, 14, 15, 16, 17, 18])],
 [],
 [],
 [],
 [],
 [(0, [3, 4, 5, 9, 10, 11, 12, 13, 14, 15, 16, 17, 18, 19, 20, 21, 22, 23, 24, 25, 26, 27, 28, 29, 30, 31, 32, 33, 34, 35, 36])],
 [(0, [6, 7, 8, 12, 13, 14, 15, 16, 17, 18, 19, 20, 21, 22, 23, 24])],
 [],
 [],
 [],
 [],
 [],
 [(0, [8, 29, 30, 31, 32, 33, 34, 35, 36, 37, 38, 39, 40, 41, 42, 43, 44, 45, 46, 47, 48]), (2, [10, 53, 54, 55, 56, 57, 58, 59, 60, 61, 62, 63])],
 [(0, [5, 6, 11, 12, 13, 14, 15, 16, 17, 18, 19, 20, 21, 22, 23, 24, 25, 26, 27, 28, 29, 30, 31, 32, 33, 34, 35, 36, 37, 38])],
 [(0, [6, 7, 8, 9, 10, 11, 12, 13, 14, 15, 16, 17, 18, 19, 20, 21, 22, 23, 24, 25, 26, 27, 28, 29, 30, 31, 32, 33])],
 [],
 [],
 [],
 [],
 [(0, [10, 11, 12, 13, 14, 15, 16, 17, 18, 19, 20, 21, 22, 23, 24, 25, 26, 27, 28, 29, 30, 31, 32, 33, 34, 35, 36, 37, 38, 39, 40, 41, 42, 43, 44, 45, 46, 47, 48, 49, 50, 51, 52, 53, 54, 55, 56, 57, 58, 59, 60, 61, 62, 63, 64, 65, 66, 67, 68, 69, 70, 71, 72, 73, 74, 75, 76, 77, 78, 79, 80, 81, 82, 83, 84, 85, 86, 87, 88, 89, 90, 91, 92, 93, 94, 95, 96, 97, 98, 99, 100, 101, 102, 103, 104, 105, 106, 107, 108, 109, 110, 111, 112, 113, 114, 115, 116, 117, 118, 119, 120, 121, 122, 123, 124, 125, 126, 127, 128, 129, 130, 131, 132, 133])],
 [],
 [(0, [5, 9, 10, 11, 12, 13, 14, 15, 16, 17, 18])],
 [(0, [5, 9, 10, 11, 12, 13, 14, 15, 16, 17, 18])],
 [(0, [5, 9, 10, 11, 12, 13, 14, 15, 16, 17, 18])],
 [],
 [],
 [],
 [(0, [5, 9, 10, 11, 12, 13, 14, 15, 16, 17, 18])],
 [(0, [7, 10, 11, 12, 13, 14, 15, 16, 17, 18, 19, 20, 21, 22, 23, 24, 25, 26, 27, 28, 29, 30, 31, 32, 33, 34, 35, 36, 37, 38, 39, 40, 41, 42, 43, 44, 45, 46, 47, 48]), (2, [16, 17, 18, 19, 20, 21, 22, 23, 24, 25, 26, 27, 28, 29, 30, 31, 32, 33, 34, 35, 36, 37, 38, 39, 40, 41, 42, 43, 44, 45, 46, 47, 48])],
 [(0, [18, 19, 20, 21, 22, 23, 24, 25, 26]), (2, [29, 30, 31, 32, 33, 34, 35, 36, 37, 38, 39, 40, 41, 42, 43, 44, 45, 46, 47, 48, 49, 50, 51, 52, 53, 54, 55])],
 [(0, [10, 26, 27, 28, 29, 30, 31, 32, 33, 34, 35, 36, 37, 38, 39, 40, 41, 42, 43, 44, 45, 46, 47, 48, 49, 50, 51, 52, 53, 54, 55, 56, 57, 58, 59, 60, 61, 62, 63, 64])],
 [],
 [(0, [11, 12, 13, 14, 15, 16, 17, 18, 19, 20, 21, 22, 23, 24, 25, 26, 27, 28, 29, 30, 31])],
 [(0, [9, 10, 13, 14, 15, 16, 17, 18, 19, 20, 21, 22, 23, 24, 25, 26, 27, 28, 29, 30, 31, 32, 33, 34, 35, 36, 37, 38, 39, 40, 41, 42, 43, 44, 45, 46, 47, 48, 49, 50, 51, 52, 53, 54, 55, 56, 57, 58, 59, 60, 61, 62, 63, 64, 65, 66, 67, 68, 69, 70, 71, 72, 73, 74, 75, 76, 77, 78, 79, 80, 81, 82, 83, 84, 85, 86, 87, 88, 89, 90, 91, 92, 93, 94, 95, 96, 97, 98, 99, 100, 101, 102, 103, 104, 105, 106, 107, 108, 109, 110, 111, 112, 113, 114, 115, 116, 117, 118, 119, 120, 121, 122, 123, 124, 125, 126, 127, 128, 129, 130, 131, 132]), (2, [17, 18, 19, 20, 21, 22, 23, 24, 25, 26, 27, 28, 29, 30, 31, 32, 33, 34]), (4, [64, 65, 66, 67, 68, 69, 70, 71, 72, 73, 74, 75, 76, 77, 78, 79, 80, 81, 82, 83, 84, 85, 86, 87, 88, 89, 90, 91, 92, 93, 94]), (6, [101, 102, 103, 104, 105, 106, 107, 108, 109, 110, 111, 112, 113, 114, 115, 116, 117, 118, 119, 120, 121, 122, 123, 124, 125, 126, 127, 128, 129, 130, 131, 132])],
 [(0, [29, 30, 31, 32, 33, 34, 35, 36, 37, 38, 39, 40, 41, 42, 43, 44, 45, 46, 47, 48, 49, 50, 51, 52, 53, 54, 55, 56, 57, 58, 59, 60, 61, 62, 63, 64, 65, 66, 67, 68, 69, 70, 71, 72, 73, 74, 75, 76, 77, 78, 79, 80, 81, 82]), (2, [29, 30, 31, 32, 33, 34, 35, 36, 37, 38, 39, 40, 41, 42, 43, 44, 45]), (4, [46, 47, 48, 49, 50, 51, 52, 53, 54, 55, 56, 57, 58, 59, 60, 61])],
 [(0, [30, 31, 32, 33, 34, 35, 36, 37, 38, 39, 40, 41, 42, 43, 44, 45]), (2, [46, 47, 48, 49, 50, 51, 52, 53, 54, 55, 56, 57, 58, 59, 60, 61, 62]), (4, [99, 100, 101, 102, 103, 104, 105, 106, 107, 108, 109, 110, 111, 112, 113, 114, 115, 116, 117, 118, 119, 120, 121, 122, 123, 124, 125, 126, 127, 128, 129, 130, 131, 132, 133, 134, 135, 136, 137, 138, 139, 140, 141, 142, 143, 144, 145, 146, 147, 148, 149, 150, 151, 152]), (6, [99, 100, 101, 102, 103, 104, 105, 106, 107, 108, 109, 110, 111, 112, 113, 114]), (8, [115, 116, 117, 118, 119, 120, 121, 122, 123, 124, 125, 126, 127, 128, 129, 130, 131])],
 [],
 [],
 [(0, [5, 9, 10, 11, 12, 13, 14, 15, 16])],
 [(0, [9, 11, 12, 13, 14, 15, 16, 17, 18, 19, 20, 21, 22, 23, 24, 25, 26, 27, 28, 29, 30, 31, 32, 33, 34, 35, 36, 37, 38, 39, 40, 41, 42, 43, 44, 45, 46, 47, 48, 49, 50, 51, 52, 53, 54, 55, 56, 57, 58, 59, 60, 61, 62, 63, 64, 65, 66, 67, 68, 69, 70, 71, 72, 73, 74, 75])],
 [],
 [],
 [],
 [],
 [],
 [],
 [],
 [],
 [],
 [],
 [],
 [],
 [],
 [],
 [],
 [],
 [],
 [],
 [],
 [],
 [],
 []]
def linkT : List (List Nat) := [[], [], [], [], [], [], [], [], [], [], [], [], [19, 21, 22], [], [], [], [], [], [], [], [], [], [], [], [], [], [], [], [], [], [], [], [], [], [], [], [], [], [], [], [], [], [], [40, 44, 108, 112], [], [], [], [], [], [], [], [], [], [], [], [], [], [], [], [], [], [], [], [], [], [], [], [], [], [], [], [], [], [], [], [], [], [], [], [], [], [], [], [], [], [], [], [], [], [], [], [], [], [], [], [], [], [], [], [], [], [], [], [], [], [], [], [], [], [], [], [], [], [], [], [], [], [], [], [], [], [], [], [], [], [], [], [], [], [], [14, 16, 26, 27], [], [], [], [], [], [], [], [], [], [], [], [], [], [], [], [], [], [], [], [], [], [], [], [], [], [], [], [], [], [], [33, 35, 47, 48], [33, 35, 49, 50], [47, 49, 63, 64], [], [14, 16, 26, 27], [42, 44, 56, 57, 79, 81, 93, 94, 117, 119, 131, 132], [11, 13, 23, 24, 65, 67, 77, 78], [12, 14, 24, 25, 66, 68, 78, 79, 81, 83, 93, 94, 135, 137, 147, 148, 153, 155, 165, 166], [], [], [], [53, 57, 73, 74], [], [], [], [], [], [], [], [], [], [], [], [], [], [], [], [], [], [], [], [], [], []]
def preciseT : List Nat := []
def peekT : List Nat := [73]
def mapsT : List Nat := [195, 202, 211]
def bornT : List Nat := [81]
def preT : List (Nat × List (Nat × List Nat)) := [(66, [(14, [12, 35, 36, 37, 38, 39, 40, 41, 42, 43, 44, 45, 46, 47])]), (126, [(14, [9, 18, 19, 20, 21, 22, 23, 24, 25, 26, 27, 28, 29, 30, 31, 32, 33, 34, 35, 36, 37, 38])])]
def turnF (f : Nat) : Option (List Int -> Option (List Int)) := if f = 127 then some Ab.sortO else if f = 130 then some Ab.revO else none
def pairsT : List (List (Nat × List (Nat × Nat))) := [[],
 [],
 [],
 [(30, [(4, 10), (4, 16), (10, 16), (23, 29), (23, 35), (29, 35)])],
 [],
 [(10, [(9, 14)]), (16, [(10, 15)])],
 [],
 [(8, [(0, 1), (0, 3), (1, 3)])],
 [],
 [(5, [(0, 2)]), (12, [(0, 2)]), (21, [(4, 11), (4, 16), (11, 16), (4, 21), (11, 21), (16, 21), (4, 24), (4, 27), (11, 27), (16, 27), (21, 27), (24, 27)])],
 [(7, [(0, 1), (0, 3), (1, 3)]), (18, [(0, 1), (0, 5), (1, 5), (0, 10), (1, 10), (5, 10), (6, 10)]), (29, [(0, 1), (0, 3), (1, 3)]), (40, [(0, 1), (0, 5), (1, 5), (0, 10), (1, 10), (5, 10), (6, 10)]), (41, [(9, 14)])],
 [],
 [],
 [],
 [],
 [],
 [],
 [(7, [(3, 7), (3, 13), (7, 13)])],
 [],
 [],
 [],
 [],
 [],
 [(5, [(5, 10), (5, 15), (10, 15), (5, 16), (10, 16)])],
 [],
 [],
 [],
 [(13, [(4, 9)]), (22, [(4, 11), (4, 14)])],
 [(13, [(3, 7)])],
 [(6, [(3, 7)])],
 [(9, [(14, 19), (14, 22)])],
 [(4, [(9, 14)])],
 [],
 [],
 [],
 [],
 [],
 [(2, [(1, 4), (1, 7), (4, 7)])],
 [],
 [],
 [],
 [],
 [],
 [(2, [(1, 5)]), (18, [(0, 5), (0, 11), (5, 11), (7, 11)])],
 [(6, [(0, 1), (0, 5), (1, 5), (0, 10), (1, 10), (5, 10), (6, 10)])],
 [],
 [],
 [(5, [(1, 3), (1, 7), (1, 9), (3, 9), (7, 9), (1, 13), (3, 13), (7, 13), (1, 14), (3, 14), (7, 14), (1, 16), (3, 16), (7, 16), (9, 16), (13, 16), (14, 16), (1, 20), (3, 20), (7, 20), (9, 20), (13, 20), (14, 20), (1, 21), (3, 21), (7, 21)]), (9, [(1, 3), (1, 6), (1, 7)])],
 [],
 [],
 [],
 [(10, [(1, 5), (1, 8)]), (21, [(1, 7), (5, 7)]), (32, [(1, 6), (4, 6)])],
 [],
 [],
 [],
 [],
 [],
 [(10, [(4, 9)])],
 [(5, [(4, 6)]), (7, [(4, 6)])],
 [],
 [],
 [],
 [],
 [(4, [(0, 4)]), (6, [(6, 11)]), (13, [(0, 4)]), (18, [(0, 4)])],
 [],
 [],
 [],
 [],
 [],
 [],
 [(1, [(2, 5), (2, 8), (5, 8), (2, 11), (5, 11), (8, 11), (2, 17), (5, 17), (8, 17), (11, 17), (13, 17), (14, 17), (2, 20), (5, 20), (8, 20), (11, 20), (13, 20), (14, 20), (17, 20), (25, 28)])],
 [],
 [],
 [],
 [],
 [],
 [],
 [],
 [(8, [(0, 1), (0, 3), (1, 3), (2, 3), (0, 4), (1, 4), (2, 4), (3, 4)])],
 [],
 [(8, [(1, 3), (1, 8), (3, 8), (1, 10), (3, 10), (8, 10), (1, 14), (3, 14), (8, 14), (10, 14), (1, 16), (3, 16), (8, 16), (10, 16), (14, 16), (1, 21), (3, 21), (8, 21), (10, 21), (14, 21), (16, 21), (1, 23), (3, 23), (8, 23), (10, 23), (14, 23), (16, 23), (21, 23)])],
 [],
 [],
 [(2, [(0, 2), (0, 5), (2, 5), (3, 5)])],
 [],
 [],
 [],
 [(6, [(2, 5), (5, 6)])],
 [],
 [],
 [],
 [],
 [(5, [(0, 2), (0, 4), (2, 4), (0, 5), (0, 8), (0, 11), (8, 11), (0, 14), (8, 14), (11, 14), (0, 15)])],
 [(17, [(0, 5), (0, 11), (5, 11), (7, 11)])],
 [],
 [],
 [],
 [],
 [],
 [],
 [],
 [(1, [(0, 2), (0, 5), (2, 5), (3, 5), (0, 6), (2, 6), (3, 6), (5, 6), (0, 9), (2, 9), (3, 9), (5, 9), (6, 9), (7, 9), (0, 10), (2, 10), (3, 10), (5, 10), (6, 10), (7, 10), (9, 10)])],
 [(2, [(1, 5), (3, 5)])],
 [],
 [],
 [(1, [(1, 4), (2, 4)])],
 [(2, [(0, 5), (0, 7), (0, 8), (0, 10)])],
 [],
 [],
 [],
 [(10, [(1, 3), (1, 6)])],
 [],
 [],
 [],
 [],
 [],
 [(5, [(1, 10), (2, 10), (5, 10), (6, 10), (8, 10), (1, 12), (2, 12), (5, 12), (6, 12), (8, 12), (10, 12)])],
 [],
 [],
 [(1, [(2, 7), (4, 7), (5, 7)])],
 [],
 [],
 [],
 [],
 [],
 [],
 [(6, [(0, 1), (0, 2), (1, 2), (0, 5)]), (7, [(0, 1), (0, 2), (1, 2), (0, 5)])],
 [],
 [],
 [],
 [(3, [(7, 11)])],
 [],
 [],
 [],
 [],
 [],
 [],
 [(1, [(1, 3), (2, 3), (1, 5), (2, 5), (1, 7), (2, 7), (3, 7), (5, 7)])],
 [],
 [],
 [(1, [(1, 2), (1, 7), (2, 7), (4, 7), (5, 7), (1, 15), (2, 15), (4, 15), (5, 15), (7, 15), (8, 15), (11, 15), (12, 15), (14, 15), (1, 18), (2, 18), (4, 18), (5, 18), (7, 18), (8, 18), (11, 18), (12, 18), (14, 18), (15, 18)])],
 [],
 [],
 [],
 [],
 [(8, [(1, 3), (1, 4), (1, 8), (3, 8), (4, 8), (1, 10), (3, 10), (4, 10), (8, 10), (8, 11)]), (13, [(1, 2), (1, 3)])],
 [(3, [(6, 7), (14, 18), (17, 18)])],
 [(6, [(6, 11)])],
 [],
 [],
 [],
 [],
 [(17, [(7, 11)])],
 [],
 [],
 [(4, [(0, 4)])],
 [],
 [(1, [(1, 6), (3, 6), (4, 6)])],
 [(1, [(1, 4), (2, 4)])],
 [],
 [],
 [(4, [(7, 12)]), (6, [(9, 13)])],
 [(10, [(11, 15)])],
 [(10, [(11, 15)])],
 [],
 [(3, [(7, 11)])],
 [(5, [(7, 12)]), (11, [(9, 13)]), (16, [(3, 8)]), (17, [(9, 13)]), (22, [(3, 8)]), (23, [(9, 13)])],
 [(1, [(7, 11)]), (3, [(7, 11)]), (5, [(7, 11)]), (8, [(7, 11)])],
 [(1, [(7, 11)]), (3, [(7, 11)]), (5, [(7, 11)]), (8, [(7, 11)]), (10, [(7, 11)]), (13, [(7, 11)]), (15, [(7, 11)]), (18, [(7, 11)]), (21, [(7, 11)])],
 [],
 [],
 [],
 [(3, [(10, 17)]), (5, [(5, 11)]), (6, [(13, 19)])],
 [],
 [(1, [(2, 5)]), (2, [(2, 5)]), (3, [(2, 5)])],
 [],
 [],
 [(1, [(3, 7)])],
 [],
 [],
 [],
 [],
 [],
 [],
 [],
 [],
 [],
 [],
 [],
 [],
 [],
 [],
 [],
 [],
 []]
def lookP : List (Nat × List (Nat × Nat)) -> Nat -> List (Nat × Nat)
 | [], _ => []
 | (k, c) :: l, b => if k = b then c else lookP l b
def look : List (Nat × List Nat) -> Nat -> List Nat
 | [], _ => []
 | (k, c) :: l, b => if k = b then c else look l b
def lookF : List (Nat × List (Nat × List Nat)) -> Nat -> List (Nat × List Nat)
 | [], _ => []
 | (k, c) :: l, b => if k = b then c else lookF l b
def hints : Ab.Hints := {
 take := fun f t => (takeT.getD f []).contains t
 clear := fun f b => look (clearT.getD f []) b
 precise := fun f => preciseT.contains f
 pairs := fun f b => lookP (pairsT.getD f []) b
 link := fun f t => (linkT.getD f []).contains t
 peek := fun f => peekT.contains f
 mapT := fun t => mapsT.contains t
 born := fun f => bornT.contains f
 turn := turnF
 pre := fun f b => look (lookF preT f) b }
end Go.Proofs.YtkcaaaiihhhnmaaGreat.Hn
end
section
namespace Go.Ab
open Go
variable {P : Program}
def sameVal : Value -> Value -> Bool
 | .int k n, .int k' n' => decide (k = k') && decide (n = n')
 | .bool b, .bool b' => b == b'
 | .slice none 0 0, .slice none 0 0 => true
 | .string s, .string s' => decide (s.data.toList = s'.data.toList)
 | _, _ => false
mutual
def V.same : V -> V -> Bool
 | .val a, .val b => sameVal a b
 | .sl f c l, .sl f' c' l' => decide (f = f') && c == c' && sameL l l'
 | .agg l, .agg l' => sameL l l'
 | .tuple l, .tuple l' => sameL l l'
 | _, _ => false
def sameL : List V -> List V -> Bool
 | [], [] => true
 | x :: l, y :: l' => x.same y && sameL l l'
 | _, _ => false
end
theorem sameVal_eq {a b : Value} (h : sameVal a b = true) : a = b := by
 unfold sameVal at h;split at h
 ·simp_all
 ·simp_all
 ·rfl
 ·rename_i s s';have h1 := of_decide_eq_true h;obtain ⟨⟨l⟩⟩ := s;obtain ⟨⟨l'⟩⟩ := s';simp only at h1;rw [h1]
 ·cases h
mutual
theorem same_eq : ∀ (x y : V), x.same y = true -> x = y
 | .val a, y, h => by cases y <;> simp only [V.same] at h <;> first | (rw [sameVal_eq h]) | cases h
 | .sl f c l, y, h => by
  cases y <;> simp only [V.same] at h <;> try (cases h; done)
  simp only [Bool.and_eq_true, decide_eq_true_eq, beq_iff_eq] at h;rw [h.1.1, h.1.2, sameL_eq _ _ h.2]
 | .agg l, y, h => by
  cases y <;> simp only [V.same] at h <;> try (cases h; done)
  rw [sameL_eq _ _ h]
 | .tuple l, y, h => by
  cases y <;> simp only [V.same] at h <;> try (cases h; done)
  rw [sameL_eq _ _ h]
 | .undef, y, h | .ptr .., y, h | .cptr .., y, h | .fn .., y, h | .yld _, y, h | .mref _, y, h | .bsl .., y, h | .mp _, y, h | .iface .., y, h | .lp .., y, h | .room .., y, h => by cases y <;> simp [V.same] at h
theorem sameL_eq : ∀ (l m : List V), sameL l m = true -> l = m
 | [], [], _ => rfl
 | [], y :: m, h => by simp [sameL] at h
 | x :: l, [], h => by simp [sameL] at h
 | x :: l, y :: m, h => by
  simp only [sameL, Bool.and_eq_true] at h;rw [same_eq x y h.1, sameL_eq l m h.2]
end
structure Ran where
 g : FuncId
 args : List V
 r : V
def libOf (t : List Ran) (g : FuncId) : Option (List V -> Option V) :=
 if t.any (fun e => decide (e.g = g)) then some (fun args => (t.find? fun e => decide (e.g = g) && sameL e.args args).map (·.r)) else none
theorem libOf_ok {t : List Ran} (h : ∀ e ∈ t, CallOk P e.g e.args [] e.r []) : ∀ g f args r, libOf t g = some f -> f args = some r -> CallOk P g args [] r [] := by
 intro g f args r hf hr;unfold libOf at hf;split at hf
 ·cases hf;obtain ⟨e, he, rfl⟩ := Option.map_eq_some_iff.1 hr;have h1 := List.find?_some he;simp only [Bool.and_eq_true, decide_eq_true_eq] at h1;rw [<- h1.1, <- sameL_eq _ _ h1.2];exact h e (List.mem_of_find?_eq_some he)
 ·cases hf
theorem ran_ok {H : Hints} (hm : P.follows .mixedOrders = true) (hname : NameOk P H) {t : List Ran} (ht : ∀ e ∈ t, CallOk P e.g e.args [] e.r []) (n : Nat) (e : Ran)
  (h : (match (orcN P H (libOf t) n).call e.g e.args [] with | some (r, []) => r.same e.r | _ => false) = true) : CallOk P e.g e.args [] e.r [] := by
 split at h
 ·rename_i r hr;rw [<- same_eq _ _ h];exact (orcN_ok hm hname (libOf_ok ht) n).call _ _ _ _ _ hr
 ·cases h
end Go.Ab
end
section
namespace Go.Proofs.YtkcaaaiihhhnmaaGreat.Tn
open Go Go.Ab Go.Sort
def l112_ren : Go.Shelf.Ren := ⟨fun | 112 => 130 | n => n, fun | 28 => 46 | 3 => 3 | 4 => 4 | 0 => 0 | n => n, fun n => n⟩
theorem l112 : Lays.n112 Tryz.prog l112_ren where
 mixed := by kernel_rfl
 f112 := Tryz.func130.trans (congrArg some (by kernel_rfl))
 t0 := Tryz.underlying0
 a0 := Tryz.isAgg0
 z0 := Tryz.sizeOf0
 v0 := Tryz.zeroValue0
 t3 := Tryz.underlying3
 a3 := Tryz.isAgg3
 z3 := Tryz.sizeOf3
 v3 := Tryz.zeroValue3
 t4 := Tryz.underlying4
 a4 := Tryz.isAgg4
 z4 := Tryz.sizeOf4
 v4 := Tryz.zeroValue4
 t28 := Tryz.underlying46
 a28 := Tryz.isAgg46
 z28 := Tryz.sizeOf46
 v28 := Tryz.zeroValue46
def l189_ren : Go.Shelf.Ren := ⟨fun | 189 => 127 | 125 => 153 | 257 => 152 | 128 => 169 | 129 => 170 | 294 => 161 | 295 => 162 | 296 => 163 | 297 => 164 | 298 => 165 | 299 => 166 | 216 => 148 | 300 => 167 | 301 => 168 | 328 => 172 | 329 => 173 | 330 => 174 | 331 => 175 | 332 => 176 | 215 => 159 | 343 => 177 | n => n, fun | 28 => 46 | 3 => 3 | 46 => 208 | 0 => 0 | 51 => 226 | 53 => 228 | 4 => 4 | 183 => 220 | 182 => 219 | 131 => 96 | 5 => 5 | 9 => 9 | 218 => 230 | 222 => 234 | 228 => 236 | 229 => 51 | n => n, fun n => n⟩
theorem l189 : Lays.n189 Tryz.prog l189_ren where
 mixed := by kernel_rfl
 f125 := Tryz.func153.trans (congrArg some (by kernel_rfl))
 f128 := Tryz.func169.trans (congrArg some (by kernel_rfl))
 f129 := Tryz.func170.trans (congrArg some (by kernel_rfl))
 f189 := Tryz.func127.trans (congrArg some (by kernel_rfl))
 f215 := Tryz.func159.trans (congrArg some (by kernel_rfl))
 f216 := Tryz.func148.trans (congrArg some (by kernel_rfl))
 f257 := Tryz.func152.trans (congrArg some (by kernel_rfl))
 f294 := Tryz.func161.trans (congrArg some (by kernel_rfl))
 f295 := Tryz.func162.trans (congrArg some (by kernel_rfl))
 f296 := Tryz.func163.trans (congrArg some (by kernel_rfl))
 f297 := Tryz.func164.trans (congrArg some (by kernel_rfl))
 f298 := Tryz.func165.trans (congrArg some (by kernel_rfl))
 f299 := Tryz.func166.trans (congrArg some (by kernel_rfl))
 f300 := Tryz.func167.trans (congrArg some (by kernel_rfl))
 f301 := Tryz.func168.trans (congrArg some (by kernel_rfl))
 f328 := Tryz.func172.trans (congrArg some (by kernel_rfl))
 f329 := Tryz.func173.trans (congrArg some (by kernel_rfl))
 f330 := Tryz.func174.trans (congrArg some (by kernel_rfl))
 f331 := Tryz.func175.trans (congrArg some (by kernel_rfl))
 f332 := Tryz.func176.trans (congrArg some (by kernel_rfl))
 f343 := Tryz.func177.trans (congrArg some (by kernel_rfl))
 t0 := Tryz.underlying0
 a0 := Tryz.isAgg0
 z0 := Tryz.sizeOf0
 v0 := Tryz.zeroValue0
 t3 := Tryz.underlying3
 a3 := Tryz.isAgg3
 z3 := Tryz.sizeOf3
 v3 := Tryz.zeroValue3
 t4 := Tryz.underlying4
 a4 := Tryz.isAgg4
 z4 := Tryz.sizeOf4
 v4 := Tryz.zeroValue4
 t5 := Tryz.underlying5
 a5 := Tryz.isAgg5
 z5 := Tryz.sizeOf5
 v5 := Tryz.zeroValue5
 t9 := Tryz.underlying9
 a9 := Tryz.isAgg9
 z9 := Tryz.sizeOf9
 v9 := Tryz.zeroValue9
 t28 := Tryz.underlying46
 a28 := Tryz.isAgg46
 z28 := Tryz.sizeOf46
 v28 := Tryz.zeroValue46
 t46 := Tryz.underlying208
 a46 := Tryz.isAgg208
 z46 := Tryz.sizeOf208
 v46 := Tryz.zeroValue208
 t51 := Tryz.underlying226
 a51 := Tryz.isAgg226
 z51 := Tryz.sizeOf226
 v51 := Tryz.zeroValue226
 t53 := Tryz.underlying228
 a53 := Tryz.isAgg228
 z53 := Tryz.sizeOf228
 v53 := Tryz.zeroValue228
 t131 := Tryz.underlying96
 a131 := Tryz.isAgg96
 z131 := Tryz.sizeOf96
 v131 := Tryz.zeroValue96
 t182 := Tryz.underlying219
 a182 := Tryz.isAgg219
 z182 := Tryz.sizeOf219
 v182 := Tryz.zeroValue219
 t183 := Tryz.underlying220
 a183 := Tryz.isAgg220
 z183 := Tryz.sizeOf220
 v183 := Tryz.zeroValue220
 t218 := Tryz.underlying230
 a218 := Tryz.isAgg230
 z218 := Tryz.sizeOf230
 v218 := Tryz.zeroValue230
 t222 := Tryz.underlying234
 a222 := Tryz.isAgg234
 z222 := Tryz.sizeOf234
 v222 := Tryz.zeroValue234
 t228 := Tryz.underlying236
 a228 := Tryz.isAgg236
 z228 := Tryz.sizeOf236
 v228 := Tryz.zeroValue236
 t229 := Tryz.underlying51
 a229 := Tryz.isAgg51
 z229 := Tryz.sizeOf51
 v229 := Tryz.zeroValue51
theorem enters {g : FuncId} {fn : Func} (hfn : Tryz.prog.funcs[g]? = some fn) (hb : fn.body.isSome = true) (hn : (fn.name == "runtime.NumGoroutine") = false) (args : Array Value) (w : World) : (callFunc g args).run Tryz.prog w = .ok (.enter g args) w := by
 have hbs : fn.body.isNone = false := by cases h : fn.body <;> simp_all
 simp only [callFunc, Sem.run_bind, run_program, Result.andThen_ok, hfn, hn, hbs, Bool.false_eq_true, if_false, Sem.run_pure]
theorem holds_of {w : World} {b off : Nat} {arr : Array Value} {ty : TypeId} {zs : List Int} (hw : w.heap[b]? = some (.cells arr ty (0, 0))) (hs : Seg w b off (zs.map (Value.int .i64))) : Holds (Value.int .i64) w b off zs.toArray := by
 intro j hj;have hj' : j < zs.length := by simpa using hj
 refine ⟨?_, ?_⟩
 ·have := hs j (.int .i64 zs[j]) (by simp [hj']);rw [this];simp [getElem!_pos, hj']
 ·simp [World.frozen?, hw]
theorem putRow_turned {w : World} {b off n : Nat} {arr : Array Value} {ty : TypeId} {zs : List Int} (os : Array Obj) (hw : w.heap[b]? = some (.cells arr ty (0, 0))) (hle : off + zs.length <= arr.size) :
  Turned w b off (zs.map (Value.int .i64)) (grow (putRow (Value.int .i64) (Sort.ahead w n) b off zs.toArray) os) := by
 refine ⟨putRow (Value.int .i64) w b off zs.toArray, n, os, rfl, by simp [putRow, mapBlock], fun k hk => ?_, fun arr' ty' hw' => ?_, rfl, rfl, rfl⟩
 ·simp only [putRow, mapBlock, Array.getElem?_modify];rw [if_neg (Ne.symm hk)]
 ·rw [hw] at hw'; cases hw';simp only [putRow, mapBlock, Array.getElem?_modify, if_true, hw, Option.map_some, onCells];congr 2
  apply Array.ext_getElem?;intro i;have e1 : (Ab.rowAt arr off (zs.map (Value.int .i64)))[i]? = (Ab.rowAt arr off (zs.map (Value.int .i64))).toList[i]? := by simp
  rw [e1];unfold Ab.rowAt;rw [spliceV_at (by simpa using hle)];unfold putCells;simp only [Array.getElem?_mapIdx, List.length_map, List.size_toArray];by_cases hi : off <= i /\ i < off + zs.length
  ·rw [if_pos hi];have hlt : i < arr.size := by omega
   have h2 : i - off < zs.length := by omega
   rw [Array.getElem?_eq_getElem hlt];simp only [Option.map_some, hi, and_self, if_true, List.getElem?_map, List.getElem?_eq_getElem h2];simp [getElem!_pos, h2]
  ·rw [if_neg hi];cases h3 : arr[i]? with
   | none =>
    have : arr.toList[i]? = none := by simpa using h3
    rw [this]; rfl
   | some x =>
    have : arr.toList[i]? = some x := by simpa using h3
    rw [this]; simp [hi]
theorem rev_ok : TurnOk Tryz.prog 130 revO := by
 intro zs zs' hz;unfold revO at hz;split at hz
 ·rename_i hle;simp only [Option.some.injEq] at hz;subst hz;refine ⟨by simp, fun hne w b off cap arr ty hw hfit hs hcap => ?_, fun h0 w a cap => ?_⟩
  ·refine .inl ⟨enters Tryz.func130 (by kernel_rfl) (by kernel_rfl) _ _, ?_⟩;refine (Any.slices_Reverse_int l112 b off cap zs w (holds_of hw hs) (by omega)).mono ?_;rintro e w' ⟨rfl, n, rfl⟩;have h := putRow_turned (n := n) #[] hw (zs := zs.reverse) (by simpa using hfit);exact ⟨_, rfl, by simpa using h⟩
  ·refine .inl ⟨enters Tryz.func130 (by kernel_rfl) (by kernel_rfl) _ _, ?_⟩;refine (Any.slices_Reverse_int_empty l112 a cap w).mono ?_;rintro e w' ⟨rfl, rfl⟩;exact ⟨_, rfl, 0, #[], by simp⟩
 ·cases hz
theorem insI_perm (x : Int) : ∀ l : List Int, (insI x l).Perm (x :: l)
 | [] => .refl _
 | y :: l => by
  unfold insI;split
  ·exact .refl _
  ·exact ((insI_perm x l).cons y).trans (.swap x y l)
theorem isort_perm : ∀ l : List Int, (isortI l).Perm l
 | [] => .refl _
 | x :: l => (insI_perm x _).trans ((isort_perm l).cons x)
theorem insI_sorted (x : Int) : ∀ l : List Int, l.Pairwise (· <= ·) -> (insI x l).Pairwise (· <= ·)
 | [], _ => by simp [insI]
 | y :: l, h => by
  unfold insI;rw [List.pairwise_cons] at h;split
  ·rename_i hxy;refine List.pairwise_cons.2 ⟨fun z hz => ?_, List.pairwise_cons.2 h⟩;rcases List.mem_cons.1 hz with rfl | hz
   ·exact hxy
   ·exact Int.le_trans hxy (h.1 z hz)
  ·rename_i hxy;refine List.pairwise_cons.2 ⟨fun z hz => ?_, insI_sorted x l h.2⟩;rcases List.mem_cons.1 ((insI_perm x l).mem_iff.1 hz) with rfl | hz
   ·omega
   ·exact h.1 z hz
theorem isort_sorted : ∀ l : List Int, (isortI l).Pairwise (· <= ·)
 | [] => .nil
 | x :: l => insI_sorted x _ (isort_sorted l)
theorem sorted_uniq : ∀ {l m : List Int}, l.Pairwise (· <= ·) -> m.Pairwise (· <= ·) -> l.Perm m -> l = m
 | [], m, _, _, h => (List.nil_perm.1 h).symm
 | x :: l, [], _, _, h => absurd (List.perm_nil.1 h) (by simp)
 | x :: l, y :: m, hl, hm, h => by
  rw [List.pairwise_cons] at hl hm;have h1 : x <= y := by
   rcases List.mem_cons.1 (h.mem_iff.2 (List.mem_cons_self : y ∈ y :: m)) with e | e
   ·omega
   ·exact hl.1 y e
  have h2 : y <= x := by
   rcases List.mem_cons.1 (h.mem_iff.1 (List.mem_cons_self : x ∈ x :: l)) with e | e
   ·omega
   ·exact hm.1 x e
  have e : x = y := by omega
  subst e;rw [sorted_uniq hl.2 hm.2 (List.Perm.cons_inv h)]
theorem isort_eq (zs : List Int) : zs.mergeSort (fun x y => decide (x <= y)) = isortI zs := by
 refine sorted_uniq ?_ (isort_sorted zs) ((List.mergeSort_perm zs _).trans (isort_perm zs).symm);have := List.pairwise_mergeSort (le := fun x y : Int => decide (x <= y)) (fun a b c h1 h2 => by simp only [decide_eq_true_eq] at *; omega) (fun a b => by simp only [Bool.or_eq_true, decide_eq_true_eq]; omega) zs;exact this.imp fun h => by simpa using h
theorem sort_ok : TurnOk Tryz.prog 127 sortO := by
 intro zs zs' hz;unfold sortO at hz;split at hz
 ·rename_i hle;simp only [Option.some.injEq] at hz;subst hz;have hlen : (isortI zs).length = zs.length := (isort_perm zs).length_eq;refine ⟨hlen, fun hne w b off cap arr ty hw hfit hs hcap => ?_, fun h0 w a cap => ?_⟩
  ·refine .inl ⟨enters Tryz.func127 (by kernel_rfl) (by kernel_rfl) _ _, ?_⟩;refine (Any.slices_Sort_int l189 b off cap zs w (holds_of hw hs) (Array.getElem?_eq_some_iff.1 hw).1 (by omega)).mono ?_;rintro e w' ⟨rfl, n, os, rfl⟩;rw [isort_eq];exact ⟨_, rfl, putRow_turned os hw (by rw [hlen]; exact hfit)⟩
  ·refine .inl ⟨enters Tryz.func127 (by kernel_rfl) (by kernel_rfl) _ _, ?_⟩;refine (Any.slices_Sort_int_none l189 a cap w).mono ?_;rintro e w' ⟨rfl, rfl⟩;exact ⟨_, rfl, 0, #[], by simp⟩
 ·cases hz
end Go.Proofs.YtkcaaaiihhhnmaaGreat.Tn
namespace Go.Proofs.YtkcaaaiihhhnmaaGreat
open Go Go.Ab
theorem turns : TurnsOk Tryz.prog Hn.hints := by
 intro g F h;simp only [Hn.hints, Hn.turnF] at h;split at h
 ·rename_i e; subst e; cases h; exact Tn.sort_ok
 split at h
 ·rename_i e; subst e; cases h; exact Tn.rev_ok
 cases h
end Go.Proofs.YtkcaaaiihhhnmaaGreat
end
section
set_option maxRecDepth 100000
namespace Go.Proofs.YtkcaaaiihhhnmaaGreat.St0
open Go Go.Ab Go.Tx
noncomputable section
@[reducible] def I : Ty := .int .i64
@[reducible] def w64 (n : Int) : Int := IntKind.wrap .i64 n
def lookJ : List (List Tmp × FuncId × Kind × Join) -> List Tmp -> FuncId -> Kind -> Option Join
 | [], _, _, _ => none
 | (c, f, k, j) :: l, c', f', k' => if f = f' then (if k = k' then (if c = c' then some j else lookJ l c' f' k') else lookJ l c' f' k') else lookJ l c' f' k'
def mkTH (js : List (List Tmp × FuncId × Kind × Join)) (inl : List (List Tmp × FuncId × Tmp)) : TH where
 lib := fun _ => false
 join := lookJ js
 inl := fun c f d => inl.any fun (c', f', d') => decide (f = f') && decide (d = d') && decide (c = c')
def Lb : FuncId -> Option (List V -> Option V) := fun _ => none
theorem hJ {js : List (List Tmp × FuncId × Kind × Join)} {inl : List (List Tmp × FuncId × Tmp)} : ∀ g, (mkTH js inl).lib g = false -> Lb g = none := fun g h => rfl
def safety_within (a0 : Int) (a1 : Int) (a2 : Int) : Option Bool :=
 (bif decide (a1 <= a0) then
   some (decide (a0 <= a2))
  else
   some false).bind fun (p1 : Bool) =>
 some p1
def e_safety_within : Entry := ⟨84, [.ty I, .ty I, .ty I], [(.bool, 0)], fun x => safety_within x.1 x.2.1 x.2.2⟩
def j_safety_within : TH := mkTH [([], 84, .region 1, { lv := [⟨none, 6, 0⟩], ps := [(.bool, 0)], D := ⟨32704⟩ })] []
theorem k_safety_within (x : denP e_safety_within.ps) : fnT Tryz.prog Hn.hints j_safety_within (tabT []) 40 84 (ofPms e_safety_within.ps x) e_safety_within.rs = e_safety_within.F x := by kernel_rfl
theorem o_safety_within : EntryOk Tryz.prog Hn.hints Lb e_safety_within := entry_ok tab_nil hJ 40 _ _ _ _ k_safety_within
def safety_isSized (a0 : Int) (a1 : Int) : Option Bool :=
 (safety_within a0 (w64 (0 - a1)) a1).bind fun x1 =>
 some x1
def e_safety_isSized : Entry := ⟨94, [.ty I, .ty I], [(.bool, 0)], fun x => safety_isSized x.1 x.2⟩
def j_safety_isSized : TH := mkTH [] []
theorem k_safety_isSized (x : denP e_safety_isSized.ps) : fnT Tryz.prog Hn.hints j_safety_isSized (tabT [e_safety_within]) 40 94 (ofPms e_safety_isSized.ps x) e_safety_isSized.rs = e_safety_isSized.F x := by kernel_rfl
theorem o_safety_isSized : EntryOk Tryz.prog Hn.hints Lb e_safety_isSized := entry_ok (tab_cons o_safety_within tab_nil) hJ 40 _ _ _ _ k_safety_isSized
def safety_unless (a0 : Bool) (a1 : Int) : Option Int :=
 bif a0 then
  some 0
 else
  some a1
def e_safety_unless : Entry := ⟨72, [.ty .bool, .ty I], [(I, 0)], fun x => safety_unless x.1 x.2⟩
def j_safety_unless : TH := mkTH [] []
theorem k_safety_unless (x : denP e_safety_unless.ps) : fnT Tryz.prog Hn.hints j_safety_unless (tabT []) 40 72 (ofPms e_safety_unless.ps x) e_safety_unless.rs = e_safety_unless.F x := by kernel_rfl
theorem o_safety_unless : EntryOk Tryz.prog Hn.hints Lb e_safety_unless := entry_ok tab_nil hJ 40 _ _ _ _ k_safety_unless
def safety_first (a0 : (List Int)) : Option Int :=
 (loopO (fun (s2 : Int) =>
   bif decide (s2 < (a0.length : Int)) then
    (idx a0 s2).bind fun x3 =>
    bif !(decide (x3 = 0)) then
     some (.inr (.inr x3))
    else
     some (.inl (w64 (s2 + 1)))
   else
    some (.inr (.inl ()))) 0).bind (Sum.elim (fun (p4 : Unit) =>
 some 0) some)
def e_safety_first : Entry := ⟨71, [.ty (.sl I)], [(I, 0)], fun x => safety_first x⟩
def j_safety_first : TH := mkTH [([], 71, .block 0, { lv := [], ps := [], abn := true, D := ⟨32656⟩ }),
 ([], 71, .loop 0, { lv := [⟨none, 7, 0⟩], ps := [(I, 0)], D := ⟨32656⟩ })] []
theorem k_safety_first (x : denP e_safety_first.ps) : fnT Tryz.prog Hn.hints j_safety_first (tabT []) 40 71 (ofPms e_safety_first.ps x) e_safety_first.rs = e_safety_first.F x := by kernel_rfl
theorem o_safety_first : EntryOk Tryz.prog Hn.hints Lb e_safety_first := entry_ok tab_nil hJ 40 _ _ _ _ k_safety_first
def safety_CheckLimits (a0 : (Int × Int × Int × Int × Int × Unit)) : Option Int :=
 ((safety_isSized a0.1 (60 : Int)).bind fun x1 =>
  bif x1 then
   (safety_isSized a0.2.1 (60 : Int)).bind fun x2 =>
   bif x2 then
    (safety_within a0.2.2.1 (1 : Int) (8 : Int)).bind fun x3 =>
    bif x3 then
     (safety_within a0.2.2.2.1 (1 : Int) (3 : Int)).bind fun x4 =>
     bif x4 then
      (safety_within a0.2.2.2.2.1 (1 : Int) (6 : Int)).bind fun x5 =>
      some x5
     else
      some false
    else
     some false
   else
    some false
  else
   some false).bind fun (p6 : Bool) =>
 (safety_unless p6 (2 : Int)).bind fun x7 =>
 (safety_unless (decide (a0.1 <= a0.2.1)) (9 : Int)).bind fun x8 =>
 (safety_first ([x7, x8])).bind fun x9 =>
 some x9
def e_safety_CheckLimits : Entry := ⟨37, [.ty (.pair I (.pair I (.pair I (.pair I (.pair I .unit)))))], [(I, 0)], fun x => safety_CheckLimits x⟩
def j_safety_CheckLimits : TH := mkTH [([], 37, .region 1, { lv := [⟨none, 3, 0⟩], ps := [(.bool, 0)], D := ⟨536870904⟩, rs := [⟨0, 1⟩], Dn := ⟨502233544⟩ })] []
theorem k_safety_CheckLimits (x : denP e_safety_CheckLimits.ps) : fnT Tryz.prog Hn.hints j_safety_CheckLimits (tabT [e_safety_first, e_safety_isSized, e_safety_unless, e_safety_within]) 40 37 (ofPms e_safety_CheckLimits.ps x) e_safety_CheckLimits.rs = e_safety_CheckLimits.F x := by kernel_rfl
theorem o_safety_CheckLimits : EntryOk Tryz.prog Hn.hints Lb e_safety_CheckLimits := entry_ok (tab_cons o_safety_first (tab_cons o_safety_isSized (tab_cons o_safety_unless (tab_cons o_safety_within tab_nil)))) hJ 40 _ _ _ _ k_safety_CheckLimits
def safety_openMotion (a0 : (Int × Int × Int × Int × Int × Unit)) (a1 : (Int × Int × Int × Unit)) : Option Int :=
 ((safety_within a1.1 a0.1 a0.2.1).bind fun x1 =>
  bif x1 then
   (safety_isSized a1.2.1 a0.2.2.1).bind fun x2 =>
   bif x2 then
    (safety_isSized a1.2.2.1 a0.2.2.2.1).bind fun x3 =>
    some x3
   else
    some false
  else
   some false).bind fun (p4 : Bool) =>
 (safety_CheckLimits a0).bind fun x5 =>
 (safety_unless p4 (2 : Int)).bind fun x6 =>
 (safety_first ([x5, x6])).bind fun x7 =>
 some x7
def e_safety_openMotion : Entry := ⟨91, [.ty (.pair I (.pair I (.pair I (.pair I (.pair I .unit))))), .ty (.pair I (.pair I (.pair I .unit)))], [(I, 0)], fun x => safety_openMotion x.1 x.2⟩
def j_safety_openMotion : TH := mkTH [([], 91, .region 1, { lv := [⟨none, 5, 0⟩], ps := [(.bool, 0)], D := ⟨536870880⟩, rs := [⟨0, 2⟩, ⟨0, 3⟩], Dn := ⟨494593184⟩ })] []
theorem k_safety_openMotion (x : denP e_safety_openMotion.ps) : fnT Tryz.prog Hn.hints j_safety_openMotion (tabT [e_safety_CheckLimits, e_safety_first, e_safety_isSized, e_safety_unless, e_safety_within]) 40 91 (ofPms e_safety_openMotion.ps x) e_safety_openMotion.rs = e_safety_openMotion.F x := by kernel_rfl
theorem o_safety_openMotion : EntryOk Tryz.prog Hn.hints Lb e_safety_openMotion := entry_ok (tab_cons o_safety_CheckLimits (tab_cons o_safety_first (tab_cons o_safety_isSized (tab_cons o_safety_unless (tab_cons o_safety_within tab_nil))))) hJ 40 _ _ _ _ k_safety_openMotion
def safety_atRest (a0 : (Int × Int × Int × Unit)) : Option Bool :=
 (bif decide (a0.2.1 = 0) then
   some (decide (a0.2.2.1 = 0))
  else
   some false).bind fun (p1 : Bool) =>
 some p1
def e_safety_atRest : Entry := ⟨95, [.ty (.pair I (.pair I (.pair I .unit)))], [(.bool, 0)], fun x => safety_atRest x⟩
def j_safety_atRest : TH := mkTH [([], 95, .region 1, { lv := [⟨none, 2, 0⟩], ps := [(.bool, 0)], D := ⟨2044⟩, rs := [⟨0, 1⟩], Dn := ⟨1908⟩ })] []
theorem k_safety_atRest (x : denP e_safety_atRest.ps) : fnT Tryz.prog Hn.hints j_safety_atRest (tabT []) 40 95 (ofPms e_safety_atRest.ps x) e_safety_atRest.rs = e_safety_atRest.F x := by kernel_rfl
theorem o_safety_atRest : EntryOk Tryz.prog Hn.hints Lb e_safety_atRest := entry_ok tab_nil hJ 40 _ _ _ _ k_safety_atRest
def safety_pushed (a0 : (Int × Int × Int × Int × Int × Unit)) (a1 : (Int × Int × Int × Unit)) (a2 : Int) : Option ((Int × Int × Int × Unit) × Bool) :=
 ((safety_isSized a2 a0.2.2.2.1).bind fun x1 =>
  bif !x1 then
   some true
  else
   (safety_isSized (w64 (a2 - a1.2.2.1)) a0.2.2.2.2.1).bind fun x2 =>
   some (!x2)).bind fun (p3 : Bool) =>
 bif p3 then
  some (a1, false)
 else
  ((safety_isSized (w64 (a1.2.1 + a2)) a0.2.2.1).bind fun x4 =>
   bif x4 then
    (safety_within (w64 (a1.1 + (w64 (a1.2.1 + a2)))) a0.1 a0.2.1).bind fun x5 =>
    some (x5, w64 (a1.1 + (w64 (a1.2.1 + a2))), w64 (a1.2.1 + a2), a2)
   else
    some (false, w64 (a1.1 + (w64 (a1.2.1 + a2))), w64 (a1.2.1 + a2), a2)).bind fun (p6 : (Bool × Int × Int × Int)) =>
  some ((p6.2.1, p6.2.2.1, p6.2.2.2, ()), p6.1)
def e_safety_pushed : Entry := ⟨92, [.ty (.pair I (.pair I (.pair I (.pair I (.pair I .unit))))), .ty (.pair I (.pair I (.pair I .unit))), .ty I], [((.pair I (.pair I (.pair I .unit))), 0), (.bool, 0)], fun x => safety_pushed x.1 x.2.1 x.2.2⟩
def j_safety_pushed : TH := mkTH [([], 92, .region 1, { lv := [⟨none, 22, 0⟩], ps := [(.bool, 0)], D := ⟨8388352⟩, rs := [⟨0, 3⟩, ⟨0, 4⟩], Dn := ⟨8092928⟩ }),
 ([], 92, .region 5, { lv := [⟨none, 7, 0⟩, ⟨some 0, 6, 0⟩, ⟨some 0, 6, 1⟩, ⟨some 0, 6, 2⟩], ps := [(.bool, 0), (I, 0), (I, 0), (I, 0)], D := ⟨18014261070528640⟩, wr := [⟨0, 6⟩], rs := [⟨0, 3⟩, ⟨0, 4⟩], Dn := ⟨16095338402152576⟩ })] []
theorem k_safety_pushed (x : denP e_safety_pushed.ps) : fnT Tryz.prog Hn.hints j_safety_pushed (tabT [e_safety_isSized, e_safety_within]) 40 92 (ofPms e_safety_pushed.ps x) e_safety_pushed.rs = e_safety_pushed.F x := by kernel_rfl
theorem o_safety_pushed : EntryOk Tryz.prog Hn.hints Lb e_safety_pushed := entry_ok (tab_cons o_safety_isSized (tab_cons o_safety_within tab_nil)) hJ 40 _ _ _ _ k_safety_pushed
def safety_stop (a0 : (Int × Int × Int × Int × Int × Unit)) (a1 : (Int × Int × Int × Unit)) : Option ((List Int) × Bool) :=
 (loopO (fun (s2 : ((List (Int × Int × Int × Int × Unit)) × Int × (List (Int × Int × Int × Unit)))) =>
   bif decide (s2.2.1 < (s2.1.length : Int)) then
    (idx s2.1 s2.2.1).bind fun x3 =>
    (safety_atRest (x3.1, x3.2.1, x3.2.2.1, ())).bind fun x4 =>
    bif x4 then
     (loopO (fun (s7 : ((List Int) × Int)) =>
       (idx s2.1 s7.2).bind fun x8 =>
       bif decide (x8.2.2.2.1 >= 0) then
        (idx s2.1 s7.2).bind fun x9 =>
        (app s7.1 ([x9.2.2.1])).bind fun x10 =>
        (idx s2.1 s7.2).bind fun x11 =>
        some (.inl (x10, x11.2.2.2.1))
       else
        some (.inr s7.1)) ([], s2.2.1)).bind fun (p12 : (List Int)) =>
     (revO p12).bind fun x13 =>
     some (.inr (.inr (x13, true)))
    else
     (loopO (fun (s15 : ((List (Int × Int × Int × Int × Unit)) × Int × (List (Int × Int × Int × Unit)))) =>
       bif decide (s15.2.1 <= a0.2.2.2.1) then
        (idx s15.1 s2.2.1).bind fun x16 =>
        (safety_pushed a0 (x16.1, x16.2.1, x16.2.2.1, ()) s15.2.1).bind fun x17 =>
        (bif x17.2 then
          some (!(memK (.pair I (.pair I (.pair I .unit))) s15.2.2 x17.1))
         else
          some false).bind fun (p18 : Bool) =>
        (bif p18 then
          (app s15.1 ([(x17.1.1, x17.1.2.1, x17.1.2.2.1, s2.2.1, ())])).bind fun x19 =>
          some (x19, insK (.pair I (.pair I (.pair I .unit))) s15.2.2 x17.1)
         else
          some (s15.1, s15.2.2)).bind fun (p20 : ((List (Int × Int × Int × Int × Unit)) × (List (Int × Int × Int × Unit)))) =>
        some (.inl (p20.1, w64 (s15.2.1 + 1), p20.2))
       else
        some (.inr (s15.1, s15.2.2))) (s2.1, w64 (0 - a0.2.2.2.1), s2.2.2)).bind fun (p21 : ((List (Int × Int × Int × Int × Unit)) × (List (Int × Int × Int × Unit)))) =>
     some (.inl (p21.1, w64 (s2.2.1 + 1), p21.2))
   else
    some (.inr (.inl ()))) ([(a1.1, a1.2.1, a1.2.2.1, (-1), ())], 0, insK (.pair I (.pair I (.pair I .unit))) [] a1)).bind (Sum.elim (fun (p22 : Unit) =>
 some ([], false)) some)
def e_safety_stop : Entry := ⟨93, [.ty (.pair I (.pair I (.pair I (.pair I (.pair I .unit))))), .ty (.pair I (.pair I (.pair I .unit)))], [((.sl I), 1), (.bool, 0)], fun x => safety_stop x.1 x.2⟩
def j_safety_stop : TH := mkTH [([], 93, .block 0, { lv := [], ps := [], abn := true, D := ⟨2475880078570760549797216064⟩, wr := [⟨0, 12⟩, ⟨0, 16401⟩] }),
 ([], 93, .loop 0, { lv := [⟨none, 6, 0⟩, ⟨none, 8, 0⟩, ⟨some 0, 16401, 0⟩], ps := [((.sl (.pair I (.pair I (.pair I (.pair I .unit))))), 1), (I, 0), ((.mset (.pair I (.pair I (.pair I .unit)))), 0)], D := ⟨2475880078570760549797216064⟩, wr := [⟨0, 12⟩, ⟨0, 16401⟩], rs := [⟨0, 2⟩], Dn := ⟨2475880077345781451152441152⟩ }),
 ([], 93, .block 2, { lv := [⟨none, 9, 0⟩], ps := [((.sl I), 1)], D := ⟨9007190664807936⟩ }),
 ([], 93, .loop 2, { lv := [⟨none, 9, 0⟩, ⟨none, 10, 0⟩], ps := [((.sl I), 1), (I, 0)], D := ⟨9007190664807936⟩ }),
 ([], 93, .block 4, { lv := [⟨none, 6, 0⟩, ⟨some 0, 16401, 0⟩], ps := [((.sl (.pair I (.pair I (.pair I (.pair I .unit))))), 1), ((.mset (.pair I (.pair I (.pair I .unit)))), 0)], D := ⟨2475880077994299797494839872⟩, wr := [⟨0, 12⟩, ⟨0, 16401⟩], rs := [⟨0, 2⟩], Dn := ⟨2475880076841378292887992896⟩ }),
 ([], 93, .loop 4, { lv := [⟨none, 6, 0⟩, ⟨none, 11, 0⟩, ⟨some 0, 16401, 0⟩], ps := [((.sl (.pair I (.pair I (.pair I (.pair I .unit))))), 1), (I, 0), ((.mset (.pair I (.pair I (.pair I .unit)))), 0)], D := ⟨2475880077994299797494839872⟩, wr := [⟨0, 12⟩, ⟨0, 16401⟩], rs := [⟨0, 2⟩, ⟨0, 12⟩, ⟨0, 16401⟩], Dn := ⟨2465906438829557602196662848⟩ }),
 ([], 93, .region 18, { lv := [⟨none, 82, 0⟩], ps := [(.bool, 0)], D := ⟨9595848693191119074230272⟩, rs := [⟨0, 16401⟩], Dn := ⟨9293617238287461780553728⟩ }),
 ([], 93, .cond 82, { lv := [⟨none, 6, 0⟩, ⟨some 0, 16401, 0⟩], ps := [((.sl (.pair I (.pair I (.pair I (.pair I .unit))))), 1), ((.mset (.pair I (.pair I (.pair I .unit)))), 0)], D := ⟨2466208672013843516400599104⟩, wr := [⟨0, 16401⟩], rs := [⟨0, 16401⟩], Dn := ⟨2456537265456926483002949696⟩ })] []
theorem k_safety_stop (x : denP e_safety_stop.ps) : fnT Tryz.prog Hn.hints j_safety_stop (tabT [e_safety_atRest, e_safety_pushed]) 40 93 (ofPms e_safety_stop.ps x) e_safety_stop.rs = e_safety_stop.F x := by kernel_rfl
theorem o_safety_stop : EntryOk Tryz.prog Hn.hints Lb e_safety_stop := entry_ok (tab_cons o_safety_atRest (tab_cons o_safety_pushed tab_nil)) hJ 40 _ _ _ _ k_safety_stop
def safety_StopFrom (a0 : (Int × Int × Int × Int × Int × Unit)) (a1 : (Int × Int × Int × Unit)) : Option ((List Int) × Int) :=
 (safety_openMotion a0 a1).bind fun x1 =>
 bif !(decide (x1 = 0)) then
  some ([], x1)
 else
  (safety_stop a0 a1).bind fun x2 =>
  (safety_unless x2.2 (12 : Int)).bind fun x3 =>
  some (x2.1, x3)
def e_safety_StopFrom : Entry := ⟨38, [.ty (.pair I (.pair I (.pair I (.pair I (.pair I .unit))))), .ty (.pair I (.pair I (.pair I .unit)))], [((.sl I), 1), (I, 0)], fun x => safety_StopFrom x.1 x.2⟩
def j_safety_StopFrom : TH := mkTH [] []
theorem k_safety_StopFrom (x : denP e_safety_StopFrom.ps) : fnT Tryz.prog Hn.hints j_safety_StopFrom (tabT [e_safety_openMotion, e_safety_stop, e_safety_unless]) 40 38 (ofPms e_safety_StopFrom.ps x) e_safety_StopFrom.rs = e_safety_StopFrom.F x := by kernel_rfl
theorem o_safety_StopFrom : EntryOk Tryz.prog Hn.hints Lb e_safety_StopFrom := entry_ok (tab_cons o_safety_openMotion (tab_cons o_safety_stop (tab_cons o_safety_unless tab_nil))) hJ 40 _ _ _ _ k_safety_StopFrom
end
end Go.Proofs.YtkcaaaiihhhnmaaGreat.St0
end
section
namespace Go.Proofs.YtkcaaaiihhhnmaaGreat.St0
open Go Go.Ab Go.Tx
def Le {α : Type} (a b : Option α) : Prop := ∀ r, a = some r -> b = some r
theorem Le.refl {α : Type} (a : Option α) : Le a a := fun _ h => h
theorem Le.bind {α β : Type} {a a' : Option α} {f f' : α -> Option β} (h : Le a a') (hf : ∀ x, Le (f x) (f' x)) : Le (a.bind f) (a'.bind f') := fun r hr => by
 obtain ⟨x, hx, hr⟩ := Option.bind_eq_some_iff.1 hr;rw [h x hx]; exact hf x r hr
theorem Le.cond {α : Type} {c : Bool} {a a' b b' : Option α} (h : Le a a') (h' : Le b b') : Le (bif c then a else b) (bif c then a' else b') := by cases c <;> assumption
theorem Le.elim {α β γ : Type} {f f' : α -> Option γ} {g : β -> Option γ} (hf : ∀ x, Le (f x) (f' x)) (x : α ⊕ β) : Le (Sum.elim f g x) (Sum.elim f' g x) := by
 cases x with
 | inl x => exact hf x
 | inr y => exact Le.refl _
theorem Le.map {α β : Type} {a a' : Option α} {f : α -> β} (h : Le a a') : Le (a.map f) (a'.map f) := fun r hr => by
 obtain ⟨x, hx, rfl⟩ := Option.map_eq_some_iff.1 hr;rw [h x hx]; rfl
theorem loopN_le {σ ρ : Type} {f g : σ -> Option (σ ⊕ ρ)} (h : ∀ s, Le (f s) (g s)) : ∀ n s, Le (loopN f n s) (loopN g n s)
 | 0, s => Le.refl _
 | n + 1, s => fun r hr => by
  simp only [loopN] at hr ⊢;cases hf : f s with
  | none => rw [hf] at hr; cases hr
  | some x =>
   rw [hf] at hr;rw [h s x hf];cases x with
   | inl s' => exact loopN_le h n s' r hr
   | inr q => exact hr
theorem loopN_more {σ ρ : Type} {f : σ -> Option (σ ⊕ ρ)} : ∀ {n m : Nat} {s : σ} {r : ρ}, n <= m -> loopN f n s = some r -> loopN f m s = some r
 | 0, _, _, _, _, h => by simp [loopN] at h
 | n + 1, 0, _, _, hle, _ => by omega
 | n + 1, m + 1, s, r, hle, h => by
  simp only [loopN] at h ⊢;cases hf : f s with
  | none => rw [hf] at h; cases h
  | some x =>
   rw [hf] at h;cases x with
   | inl s' => exact loopN_more (by omega) h
   | inr q => exact h
theorem loopO_of {σ ρ : Type} {f : σ -> Option (σ ⊕ ρ)} {n : Nat} {s : σ} {r : ρ} (h : loopN f n s = some r) : loopO f s = some r := by
 unfold loopO;rw [dif_pos ⟨n, r, h⟩];have h2 := Classical.choose_spec (Classical.choose_spec (⟨n, r, h⟩ : ∃ n r, loopN f n s = some r));have h3 := loopN_more (Nat.le_max_left n (Classical.choose (⟨n, r, h⟩ : ∃ n r, loopN f n s = some r))) h;have h4 := loopN_more (Nat.le_max_right n (Classical.choose (⟨n, r, h⟩ : ∃ n r, loopN f n s = some r))) h2;rw [h3] at h4;exact h4.symm
theorem Le.loop {σ ρ : Type} {f g : σ -> Option (σ ⊕ ρ)} {n : Nat} {s : σ} (h : ∀ s, Le (f s) (g s)) : Le (loopN f n s) (loopO g s) := fun r hr => loopO_of (loopN_le h n s r hr)
def loopF {σ ρ : Type} (f : σ -> Option (σ ⊕ ρ)) (s : σ) : Option ρ := loopN f 400 s
theorem Le.loopF {σ ρ : Type} {f g : σ -> Option (σ ⊕ ρ)} {s : σ} (h : ∀ s, Le (f s) (g s)) : Le (St0.loopF f s) (loopO g s) := Le.loop h
def safety_within_f (a0 : Int) (a1 : Int) (a2 : Int) : Option Bool :=
 (bif decide (a1 <= a0) then
   some (decide (a0 <= a2))
  else
   some false).bind fun (p1 : Bool) =>
 some p1
theorem safety_within_le (a0 : Int) (a1 : Int) (a2 : Int) : Le (safety_within_f a0 a1 a2) (safety_within a0 a1 a2) := by
 unfold safety_within_f safety_within;repeat' first | exact Le.refl _ | refine Le.loopF fun _ => ?_ | refine Le.elim (fun _ => ?_) _ | refine Le.bind ?_ fun _ => ?_ | refine Le.cond ?_ ?_ | refine Le.map ?_
def safety_isSized_f (a0 : Int) (a1 : Int) : Option Bool :=
 (safety_within_f a0 (w64 (0 - a1)) a1).bind fun x1 =>
 some x1
theorem safety_isSized_le (a0 : Int) (a1 : Int) : Le (safety_isSized_f a0 a1) (safety_isSized a0 a1) := by
 unfold safety_isSized_f safety_isSized;repeat' first | exact Le.refl _ | exact safety_within_le _ _ _ | refine Le.loopF fun _ => ?_ | refine Le.elim (fun _ => ?_) _ | refine Le.bind ?_ fun _ => ?_ | refine Le.cond ?_ ?_ | refine Le.map ?_
def safety_unless_f (a0 : Bool) (a1 : Int) : Option Int :=
 bif a0 then
  some 0
 else
  some a1
theorem safety_unless_le (a0 : Bool) (a1 : Int) : Le (safety_unless_f a0 a1) (safety_unless a0 a1) := by
 unfold safety_unless_f safety_unless;repeat' first | exact Le.refl _ | refine Le.loopF fun _ => ?_ | refine Le.elim (fun _ => ?_) _ | refine Le.bind ?_ fun _ => ?_ | refine Le.cond ?_ ?_ | refine Le.map ?_
def safety_first_f (a0 : (List Int)) : Option Int :=
 (loopF (fun (s2 : Int) =>
   bif decide (s2 < (a0.length : Int)) then
    (idx a0 s2).bind fun x3 =>
    bif !(decide (x3 = 0)) then
     some (.inr (.inr x3))
    else
     some (.inl (w64 (s2 + 1)))
   else
    some (.inr (.inl ()))) 0).bind (Sum.elim (fun (p4 : Unit) =>
 some 0) some)
theorem safety_first_le (a0 : (List Int)) : Le (safety_first_f a0) (safety_first a0) := by
 unfold safety_first_f safety_first;repeat' first | exact Le.refl _ | refine Le.loopF fun _ => ?_ | refine Le.elim (fun _ => ?_) _ | refine Le.bind ?_ fun _ => ?_ | refine Le.cond ?_ ?_ | refine Le.map ?_
def safety_CheckLimits_f (a0 : (Int × Int × Int × Int × Int × Unit)) : Option Int :=
 ((safety_isSized_f a0.1 (60 : Int)).bind fun x1 =>
  bif x1 then
   (safety_isSized_f a0.2.1 (60 : Int)).bind fun x2 =>
   bif x2 then
    (safety_within_f a0.2.2.1 (1 : Int) (8 : Int)).bind fun x3 =>
    bif x3 then
     (safety_within_f a0.2.2.2.1 (1 : Int) (3 : Int)).bind fun x4 =>
     bif x4 then
      (safety_within_f a0.2.2.2.2.1 (1 : Int) (6 : Int)).bind fun x5 =>
      some x5
     else
      some false
    else
     some false
   else
    some false
  else
   some false).bind fun (p6 : Bool) =>
 (safety_unless_f p6 (2 : Int)).bind fun x7 =>
 (safety_unless_f (decide (a0.1 <= a0.2.1)) (9 : Int)).bind fun x8 =>
 (safety_first_f ([x7, x8])).bind fun x9 =>
 some x9
theorem safety_CheckLimits_le (a0 : (Int × Int × Int × Int × Int × Unit)) : Le (safety_CheckLimits_f a0) (safety_CheckLimits a0) := by
 unfold safety_CheckLimits_f safety_CheckLimits;repeat' first | exact Le.refl _ | exact safety_within_le _ _ _ | exact safety_isSized_le _ _ | exact safety_unless_le _ _ | exact safety_first_le _ | refine Le.loopF fun _ => ?_ | refine Le.elim (fun _ => ?_) _ | refine Le.bind ?_ fun _ => ?_ | refine Le.cond ?_ ?_ | refine Le.map ?_
def safety_openMotion_f (a0 : (Int × Int × Int × Int × Int × Unit)) (a1 : (Int × Int × Int × Unit)) : Option Int :=
 ((safety_within_f a1.1 a0.1 a0.2.1).bind fun x1 =>
  bif x1 then
   (safety_isSized_f a1.2.1 a0.2.2.1).bind fun x2 =>
   bif x2 then
    (safety_isSized_f a1.2.2.1 a0.2.2.2.1).bind fun x3 =>
    some x3
   else
    some false
  else
   some false).bind fun (p4 : Bool) =>
 (safety_CheckLimits_f a0).bind fun x5 =>
 (safety_unless_f p4 (2 : Int)).bind fun x6 =>
 (safety_first_f ([x5, x6])).bind fun x7 =>
 some x7
theorem safety_openMotion_le (a0 : (Int × Int × Int × Int × Int × Unit)) (a1 : (Int × Int × Int × Unit)) : Le (safety_openMotion_f a0 a1) (safety_openMotion a0 a1) := by
 unfold safety_openMotion_f safety_openMotion;repeat' first | exact Le.refl _ | exact safety_within_le _ _ _ | exact safety_isSized_le _ _ | exact safety_unless_le _ _ | exact safety_first_le _ | exact safety_CheckLimits_le _ | refine Le.loopF fun _ => ?_ | refine Le.elim (fun _ => ?_) _ | refine Le.bind ?_ fun _ => ?_ | refine Le.cond ?_ ?_ | refine Le.map ?_
def safety_atRest_f (a0 : (Int × Int × Int × Unit)) : Option Bool :=
 (bif decide (a0.2.1 = 0) then
   some (decide (a0.2.2.1 = 0))
  else
   some false).bind fun (p1 : Bool) =>
 some p1
theorem safety_atRest_le (a0 : (Int × Int × Int × Unit)) : Le (safety_atRest_f a0) (safety_atRest a0) := by
 unfold safety_atRest_f safety_atRest;repeat' first | exact Le.refl _ | refine Le.loopF fun _ => ?_ | refine Le.elim (fun _ => ?_) _ | refine Le.bind ?_ fun _ => ?_ | refine Le.cond ?_ ?_ | refine Le.map ?_
def safety_pushed_f (a0 : (Int × Int × Int × Int × Int × Unit)) (a1 : (Int × Int × Int × Unit)) (a2 : Int) : Option ((Int × Int × Int × Unit) × Bool) :=
 ((safety_isSized_f a2 a0.2.2.2.1).bind fun x1 =>
  bif !x1 then
   some true
  else
   (safety_isSized_f (w64 (a2 - a1.2.2.1)) a0.2.2.2.2.1).bind fun x2 =>
   some (!x2)).bind fun (p3 : Bool) =>
 bif p3 then
  some (a1, false)
 else
  ((safety_isSized_f (w64 (a1.2.1 + a2)) a0.2.2.1).bind fun x4 =>
   bif x4 then
    (safety_within_f (w64 (a1.1 + (w64 (a1.2.1 + a2)))) a0.1 a0.2.1).bind fun x5 =>
    some (x5, w64 (a1.1 + (w64 (a1.2.1 + a2))), w64 (a1.2.1 + a2), a2)
   else
    some (false, w64 (a1.1 + (w64 (a1.2.1 + a2))), w64 (a1.2.1 + a2), a2)).bind fun (p6 : (Bool × Int × Int × Int)) =>
  some ((p6.2.1, p6.2.2.1, p6.2.2.2, ()), p6.1)
theorem safety_pushed_le (a0 : (Int × Int × Int × Int × Int × Unit)) (a1 : (Int × Int × Int × Unit)) (a2 : Int) : Le (safety_pushed_f a0 a1 a2) (safety_pushed a0 a1 a2) := by
 unfold safety_pushed_f safety_pushed;repeat' first | exact Le.refl _ | exact safety_within_le _ _ _ | exact safety_isSized_le _ _ | refine Le.loopF fun _ => ?_ | refine Le.elim (fun _ => ?_) _ | refine Le.bind ?_ fun _ => ?_ | refine Le.cond ?_ ?_ | refine Le.map ?_
def safety_stop_f (a0 : (Int × Int × Int × Int × Int × Unit)) (a1 : (Int × Int × Int × Unit)) : Option ((List Int) × Bool) :=
 (loopF (fun (s2 : ((List (Int × Int × Int × Int × Unit)) × Int × (List (Int × Int × Int × Unit)))) =>
   bif decide (s2.2.1 < (s2.1.length : Int)) then
    (idx s2.1 s2.2.1).bind fun x3 =>
    (safety_atRest_f (x3.1, x3.2.1, x3.2.2.1, ())).bind fun x4 =>
    bif x4 then
     (loopF (fun (s7 : ((List Int) × Int)) =>
       (idx s2.1 s7.2).bind fun x8 =>
       bif decide (x8.2.2.2.1 >= 0) then
        (idx s2.1 s7.2).bind fun x9 =>
        (app s7.1 ([x9.2.2.1])).bind fun x10 =>
        (idx s2.1 s7.2).bind fun x11 =>
        some (.inl (x10, x11.2.2.2.1))
       else
        some (.inr s7.1)) ([], s2.2.1)).bind fun (p12 : (List Int)) =>
     (revO p12).bind fun x13 =>
     some (.inr (.inr (x13, true)))
    else
     (loopF (fun (s15 : ((List (Int × Int × Int × Int × Unit)) × Int × (List (Int × Int × Int × Unit)))) =>
       bif decide (s15.2.1 <= a0.2.2.2.1) then
        (idx s15.1 s2.2.1).bind fun x16 =>
        (safety_pushed_f a0 (x16.1, x16.2.1, x16.2.2.1, ()) s15.2.1).bind fun x17 =>
        (bif x17.2 then
          some (!(memK (.pair I (.pair I (.pair I .unit))) s15.2.2 x17.1))
         else
          some false).bind fun (p18 : Bool) =>
        (bif p18 then
          (app s15.1 ([(x17.1.1, x17.1.2.1, x17.1.2.2.1, s2.2.1, ())])).bind fun x19 =>
          some (x19, insK (.pair I (.pair I (.pair I .unit))) s15.2.2 x17.1)
         else
          some (s15.1, s15.2.2)).bind fun (p20 : ((List (Int × Int × Int × Int × Unit)) × (List (Int × Int × Int × Unit)))) =>
        some (.inl (p20.1, w64 (s15.2.1 + 1), p20.2))
       else
        some (.inr (s15.1, s15.2.2))) (s2.1, w64 (0 - a0.2.2.2.1), s2.2.2)).bind fun (p21 : ((List (Int × Int × Int × Int × Unit)) × (List (Int × Int × Int × Unit)))) =>
     some (.inl (p21.1, w64 (s2.2.1 + 1), p21.2))
   else
    some (.inr (.inl ()))) ([(a1.1, a1.2.1, a1.2.2.1, (-1), ())], 0, insK (.pair I (.pair I (.pair I .unit))) [] a1)).bind (Sum.elim (fun (p22 : Unit) =>
 some ([], false)) some)
theorem safety_stop_le (a0 : (Int × Int × Int × Int × Int × Unit)) (a1 : (Int × Int × Int × Unit)) : Le (safety_stop_f a0 a1) (safety_stop a0 a1) := by
 unfold safety_stop_f safety_stop;repeat' first | exact Le.refl _ | exact safety_atRest_le _ | exact safety_pushed_le _ _ _ | refine Le.loopF fun _ => ?_ | refine Le.elim (fun _ => ?_) _ | refine Le.bind ?_ fun _ => ?_ | refine Le.cond ?_ ?_ | refine Le.map ?_
def safety_StopFrom_f (a0 : (Int × Int × Int × Int × Int × Unit)) (a1 : (Int × Int × Int × Unit)) : Option ((List Int) × Int) :=
 (safety_openMotion_f a0 a1).bind fun x1 =>
 bif !(decide (x1 = 0)) then
  some ([], x1)
 else
  (safety_stop_f a0 a1).bind fun x2 =>
  (safety_unless_f x2.2 (12 : Int)).bind fun x3 =>
  some (x2.1, x3)
theorem safety_StopFrom_le (a0 : (Int × Int × Int × Int × Int × Unit)) (a1 : (Int × Int × Int × Unit)) : Le (safety_StopFrom_f a0 a1) (safety_StopFrom a0 a1) := by
 unfold safety_StopFrom_f safety_StopFrom;repeat' first | exact Le.refl _ | exact safety_unless_le _ _ | exact safety_openMotion_le _ _ | exact safety_stop_le _ _ | refine Le.loopF fun _ => ?_ | refine Le.elim (fun _ => ?_) _ | refine Le.bind ?_ fun _ => ?_ | refine Le.cond ?_ ?_ | refine Le.map ?_
end Go.Proofs.YtkcaaaiihhhnmaaGreat.St0
namespace Go.Proofs.YtkcaaaiihhhnmaaGreat.St0
open Go Go.Ab Go.Tx
theorem stop_ex : safety_StopFrom (-10, 10, 4, 2, 1, ()) (0, 3, 0, ()) = some ([-1, -1, -1, 0], 0) := safety_StopFrom_le _ _ _ (by kernel_rfl)
end Go.Proofs.YtkcaaaiihhhnmaaGreat.St0
end
section
namespace Go.Proofs.YtkcaaaiihhhnmaaGreat
open Go Go.Ab
theorem follows : Tryz.prog.follows .mixedOrders = true := by kernel_rfl
theorem namesOk : (Tryz.prog.funcs.toList.all fun fn => !fn.body.isSome || !(fn.name == "runtime.NumGoroutine")) = true := by kernel_rfl
theorem hname : NameOk Tryz.prog Hn.hints := ⟨fun g fn h hb => by
 have := List.all_eq_true.1 namesOk fn (by rw [Array.mem_toList_iff]; exact Array.mem_of_getElem? h);rw [hb] at this;simpa using this, turns⟩
def vi (n : Int) : V := .val (.int .i64 n)
def r0 : Ran := ⟨64, [.agg [.sl .shared false [.val (.string ⟨#[107, 101, 121]⟩), .val (.string ⟨#[100, 111, 111, 114]⟩), .val (.string ⟨#[114, 117, 110]⟩)], .sl .shared false [.agg [.val (.string ⟨#[111, 112, 101, 110]⟩), .sl .shared false [], .sl .shared false [vi (2)], .sl .shared false [vi (1)], .sl .shared false []], .agg [.val (.string ⟨#[115, 104, 117, 116]⟩), .sl .shared false [], .sl .shared false [], .sl .shared false [], .sl .shared false [vi (1)]], .agg [.val (.string ⟨#[116, 117, 114, 110]⟩), .sl .shared false [], .sl .shared false [], .sl .shared false [vi (0)], .sl .shared false []], .agg [.val (.string ⟨#[115, 116, 97, 114, 116]⟩), .sl .shared false [vi (0)], .sl .shared false [vi (1)], .sl .shared false [vi (2)], .sl .shared false []], .agg [.val (.string ⟨#[104, 97, 108, 116]⟩), .sl .shared false [], .sl .shared false [], .sl .shared false [], .sl .shared false [vi (2)]]], .sl .shared false [.agg [.sl .shared false [vi (1), vi (2)], .sl .shared false []]]], vi (0)], .tuple [.sl .own false [vi (0), vi (1), vi (2), vi (3), vi (5)], vi (0)]⟩
theorem r0_ok : CallOk Tryz.prog r0.g r0.args [] r0.r [] := ran_ok (t := []) (H := Hn.hints) follows hname (by simp) 200 r0 (by kernel_rfl)
def r1 : Ran := ⟨66, [.agg [.sl .shared false [.val (.string ⟨#[107, 101, 121]⟩), .val (.string ⟨#[100, 111, 111, 114]⟩), .val (.string ⟨#[114, 117, 110]⟩)], .sl .shared false [.agg [.val (.string ⟨#[111, 112, 101, 110]⟩), .sl .shared false [], .sl .shared false [], .sl .shared false [vi (1)], .sl .shared false []], .agg [.val (.string ⟨#[115, 104, 117, 116]⟩), .sl .shared false [], .sl .shared false [], .sl .shared false [], .sl .shared false [vi (1)]], .agg [.val (.string ⟨#[116, 117, 114, 110]⟩), .sl .shared false [], .sl .shared false [], .sl .shared false [vi (0)], .sl .shared false []], .agg [.val (.string ⟨#[115, 116, 97, 114, 116]⟩), .sl .shared false [vi (0)], .sl .shared false [vi (1)], .sl .shared false [vi (2)], .sl .shared false []], .agg [.val (.string ⟨#[104, 97, 108, 116]⟩), .sl .shared false [], .sl .shared false [], .sl .shared false [], .sl .shared false [vi (2)]]], .sl .shared false [.agg [.sl .shared false [vi (1), vi (2)], .sl .shared false []]]], vi (0)], .tuple [.sl .own false [vi (2), vi (3), vi (0)], vi (0)]⟩
theorem r1_ok : CallOk Tryz.prog r1.g r1.args [] r1.r [] := ran_ok (t := []) (H := Hn.hints) follows hname (by simp) 200 r1 (by kernel_rfl)
def r2 (c : Bool) : Ran := ⟨38, [.agg [vi (-10), vi (10), vi (4), vi (2), vi (1)], .agg [vi (0), vi (3), vi (0)]], .tuple [.sl .own c [vi (-1), vi (-1), vi (-1), vi (0)], vi (0)]⟩
theorem r2_ok : ∃ c, CallOk Tryz.prog (r2 c).g (r2 c).args [] (r2 c).r [] := by
 obtain ⟨v, h1, h2⟩ := Tx.entry_call follows hname (lib := St0.Lb) (fun g h args r hl _ => by cases hl) St0.o_safety_StopFrom (x := ((-10, 10, 4, 2, 1, ()), (0, 3, 0, ()))) St0.stop_ex (vs := (r2 false).args) (by
  simp [r2, vi, St0.e_safety_StopFrom, Tx.ofPms, Tx.ofTy, Tx.ofTyC, Tx.RVL, Tx.RV, Tx.RTy, Tx.ofPm])
 simp only [St0.e_safety_StopFrom, Tx.packT, Tx.ofL, Tx.packedT, Tx.ofTy, Tx.RV, Tx.RVL, Tx.RTy] at h2;obtain ⟨l', rfl, v1, m1, rfl, ⟨f, c, l2, rfl, hf, hall⟩, v2, m2, rfl, rfl, rfl⟩ := h2;have hf1 : f = .own := hf.own rfl;subst hf1;have hl : l2 = [vi (-1), vi (-1), vi (-1), vi 0] := by
  cases hall with | cons a1 hall => cases hall with | cons a2 hall => cases hall with | cons a3 hall => cases hall with | cons a4 hall => cases hall with | nil =>
   rw [a1, a2, a3, a4]; rfl
 subst hl;exact ⟨c, h1⟩
def r3 : Ran := ⟨26, [.sl .shared false [.agg [.val (.string ⟨#[108, 111, 119]⟩), .sl .shared false [.val (.string ⟨#[99, 104, 105, 101, 102]⟩)], vi (1)], .agg [.val (.string ⟨#[104, 105, 103, 104]⟩), .sl .shared false [.val (.string ⟨#[99, 104, 105, 101, 102]⟩), .val (.string ⟨#[111, 119, 110, 101, 114]⟩)], vi (2)]], .sl .shared false [.agg [vi (0), .val (.string ⟨#[97, 110, 110]⟩), .val (.string ⟨#[99, 104, 105, 101, 102]⟩)], .agg [vi (1), .val (.string ⟨#[97, 110, 110]⟩), .val (.string ⟨#[99, 104, 105, 101, 102]⟩)]]], .tuple [vi (1), vi (0)]⟩
theorem r3_ok : CallOk Tryz.prog r3.g r3.args [] r3.r [] := ran_ok (t := []) (H := Hn.hints) follows hname (by simp) 200 r3 (by kernel_rfl)
def r4 : Ran := ⟨13, [.sl .shared false [.agg [vi (2), vi (4), vi (2), vi (4)]], .sl .shared false [.agg [vi (0), vi (0)], .agg [vi (2), vi (2)]]], .tuple [vi (0), vi (13)]⟩
theorem r4_ok : CallOk Tryz.prog r4.g r4.args [] r4.r [] := ran_ok (t := []) (H := Hn.hints) follows hname (by simp) 200 r4 (by kernel_rfl)
def rs (c : Bool) : List Ran := [r0, r1, r2 c, r3, r4]
theorem rs_ok {c : Bool} (h2 : CallOk Tryz.prog (r2 c).g (r2 c).args [] (r2 c).r []) : ∀ e ∈ rs c, CallOk Tryz.prog e.g e.args [] e.r [] := by
 intro e he;simp only [rs, List.mem_cons, List.mem_nil_iff, or_false] at he;rcases he with rfl | rfl | rfl | rfl | rfl
 ·exact r0_ok
 ·exact r1_ok
 ·exact h2
 ·exact r3_ok
 ·exact r4_ok
def aw : Ran := ⟨12, [], .val (.bool true)⟩
theorem awake_ok : CallOk Tryz.prog 12 [] [] (.val (.bool true)) [] := by
 obtain ⟨c, h2⟩ := r2_ok;cases c with
 | true => exact ran_ok (t := rs true) (H := Hn.hints) follows hname (rs_ok h2) 200 aw (by kernel_rfl)
 | false => exact ran_ok (t := rs false) (H := Hn.hints) follows hname (rs_ok h2) 200 aw (by kernel_rfl)
end Go.Proofs.YtkcaaaiihhhnmaaGreat
end
section
namespace Go.Tx
open Go Go.Ab Go.RowKit Go.ChangeShapes Go.WideShapes Go.Deep
section
variable {H : Type} {enc : TypeId × Value -> H} {P : Program}
theorem post_of_below {f : Func} {s : ChangeSpec} {apart fresh handsOn again : Bool} {W W' : World} {args : Array Value} {v : Value} {ds gs : List (DataW H)} {before pa pv : List MemPlace}
  (hW : DataW.Whole enc P f.params.toList s.vars apart W args.toList ds gs before)
  (hres : ∀ (b : Nat) (sp : Nat -> Bool) (hd : Bool), DataW.TrodAll enc P W' b sp hd f.resultTypes.toList (v.resultList f.resultTypes.size) (s.fn H (ds ++ gs)).results [])
  (hargs : ∀ sp : Nat -> Bool, (∀ p ∈ before, sp p.block = true) -> DataW.TrodAll enc P W' 0 sp true f.params.toList args.toList (s.fn H (ds ++ gs)).args pa)
  (hvars : ∀ sp : Nat -> Bool, (∀ p ∈ before, sp p.block = true) -> DataW.TrodVars enc P W' sp s.vars (s.fn H (ds ++ gs)).vars pv)
  (hps : before = pa ++ pv) (hb : Below W.heap.size W W')
  (hok : ∀ (j : Nat) (t : TypeId) (r : Value), f.resultTypes[j]? = some t -> (v.resultList f.resultTypes.size)[j]? = some r -> Value.okWide P W' .any 0 t r) :
  s.post enc P f apart fresh handsOn again W args v W' := by
 have hlt : ∀ p ∈ before, p.block < W.heap.size := fun p hp => hW.lt p hp;have hold : ∀ p ∈ before, (fun b => decide (b < W.heap.size)) p.block = true := fun p hp => by simpa using hlt p hp
 refine ⟨ds, gs, before, [], pa, pv, hW, hres _ _ _, hargs _ hold, hvars _ hold, World.keptBut_mono (fun p hp => ⟨hp, ?_⟩) (hb.frame (· ∈ before)), fun _ => ?_⟩
 ·rw [hps, List.mem_append] at hp;exact Or.inr hp
 ·obtain ⟨_, _, _, _, _, hz, hn⟩ := hW;refine ⟨hok, _, _, ([] ++ pa) ++ pv, ⟨[] ++ pa, pv, trodAll_append (hargs _ (fun _ _ => rfl)) (hres _ _ _), hvars _ (fun _ _ => rfl), rfl, ?_, ?_⟩, ?_⟩
  ·intro b off hp;have hin : MemPlace.cell b off ∈ before := by rw [hps]; simpa using hp
   rw [hb.frozen (hlt _ hin)];exact hz b off hin
  ·intro ha;have := hn ha;rw [hps] at this;simpa using this
  ·intro p hp _;rw [hps];simpa using hp
theorem trodAll_len : ∀ {ts : List TypeId} {vs : List Value} {ds : List (DataW H)} {ps : List MemPlace} {w : World} {b : Nat} {sp : Nat -> Bool} {hd : Bool}, DataW.TrodAll enc P w b sp hd ts vs ds ps -> ds.length = ts.length
 | [], [], [], _, _, _, _, _, _ => rfl
 | [], [], d :: ds, _, _, _, _, _, h => h.elim
 | [], v :: vs, _, _, _, _, _, _, h => by cases h
 | t :: ts, [], _, _, _, _, _, _, h => by cases h
 | t :: ts, v :: vs, [], _, _, _, _, _, h => by cases h
 | t :: ts, v :: vs, d :: ds, ps, w, b, sp, hd, ⟨p, q, h1, h2, e⟩ => by simp [trodAll_len h2]
end
theorem sm_all {H : Type} : Sm (H := H) maxLen (fun _ => True) where
 slice := fun es sp _ h => ⟨h, fun _ _ => trivial⟩
 agg := fun _ _ _ _ => trivial
 str := fun _ _ h => h
theorem law_contract {P : Program} {H0 : Hints} {lib : FuncId -> Option (List V -> Option V)} (hm : P.follows .mixedOrders = true) (hname : NameOk P H0)
  (hlib : ∀ g h args r, lib g = some h -> h args = some r -> CallOk P g args [] r []) (hl : laidOutB P = true) {k : FuncId} {fn : Func} (hfn : P.funcs[k]? = some fn) (hbody : fn.body.isSome = true)
  {ts : List TypeId} {τs : List Ty} (hps : fn.params.toList = ts) (hts : ts.mapM (tyOf P) = some τs) (hok : ts.all (okT P 10) = true) (hrd : ts.all (fun t => P.readableRec t && decide (t < P.types.size)) = true)
  {tb : TypeId} (hres : fn.resultTypes = #[tb]) (htb : P.underlying tb = some .bool) {F : denP (τs.map .ty) -> Option Bool}
  (he : EntryOk P H0 lib ⟨k, τs.map .ty, [(.bool, 0)], F⟩) (hF : ∀ x, RngP maxLen τs x -> F x = some true)
  {s : ChangeSpec} (hv : s.vars = []) (hs : ∀ (H : Type) (ds : List (DataW H)), ds.length = ts.length -> s.fn H ds = { results := [.lit (.bool true)], args := ds })
  (H : Type) (enc : TypeId × Value -> H) (W : World) (base : Nat) (args : Array Value) (ds gs : List (DataW H)) (before : List MemPlace)
  (hval : ∀ (j : Nat) t v, fn.params[j]? = some t -> args[j]? = some v -> Value.okWide P W .any base t v)
  (hW : DataW.Whole enc P fn.params.toList s.vars false W args.toList ds gs before) :
  Calls P k args W fun e W' => ∃ v, e = .returned v /\ s.post enc P fn false true false false W args v W' := by
 have hW' := hW;have hlt : ∀ p ∈ before, p.block < W.heap.size := fun p hp => hW.lt p hp;obtain ⟨p, q, hA, hV, rfl, hfz, hnd⟩ := hW;rw [hv] at hV;obtain ⟨rfl, rfl⟩ := trodVars_none hV;rw [hps] at hA;have hlen := trodAll_len hA;have hval' : ∀ (j : Nat) t v, ts[j]? = some t -> args.toList[j]? = some v -> Value.okWide P W .any base t v := fun j t v h1 h2 =>
  hval j t v (by rw [<- hps] at h1; simpa using h1) (by simpa using h2)
 refine (law_calls hm hname hlib hl sm_all hfn hbody hts hok he hF hval' hA (fun _ _ => trivial)).mono fun e W' ⟨h1, hb⟩ => ?_;subst h1;have hfs : s.fn H (ds ++ []) = { results := [.lit (.bool true)], args := ds } := by rw [List.append_nil]; exact hs H ds hlen
 refine ⟨_, rfl, post_of_below (pa := p) (pv := []) hW' ?_ ?_ ?_ rfl hb ?_⟩
 ·intro b sp hd;rw [hfs, hres];exact trodAll_mk1 (shut_bool htb true)
 ·intro sp hsp;rw [hfs, hps];exact trodAll_below hl hb hrd hA (fun x hx => hlt x (by simpa using hx)) sp (fun x hx => hsp x (by simpa using hx))
 ·intro sp _;rw [hfs, hv];rfl
 ·exact ok_one hres rfl (okWide_bool_mk htb true)
end Go.Tx
namespace Go.Proofs.YtkcaaaiihhhnmaaGreat
open Go Go.Ab Go.Tx
theorem own : ownKnob Tryz.prog.godebug = none := by kernel_rfl
theorem laid_out : laidOutB Tryz.prog = true := by kernel_rfl
end Go.Proofs.YtkcaaaiihhhnmaaGreat
end
section
namespace Go.Tx
open Go
theorem wrap_id {n : Int} (h1 : -9223372036854775808 <= n) (h2 : n <= 9223372036854775807) : IntKind.wrap .i64 n = n := by
 rw [IntKind.wrap_i64]; omega
theorem idx_of {α : Type} {l : List α} {i : Nat} {a : α} (h : l[i]? = some a) : idx l (i : Int) = some a := by simp [idx, h]
theorem app_of {α : Type} {l l2 : List α} (h : l.length + l2.length <= 4294967296) : app l l2 = some (l ++ l2) := by simp [app, h]
section
variable {σ ρ : Type} {f : σ -> Option (σ ⊕ ρ)}
theorem loopN_mono : ∀ {n m : Nat} {s : σ} {r : ρ}, loopN f n s = some r -> n <= m -> loopN f m s = some r
 | 0, m, s, r, h, _ => by simp [loopN] at h
 | n + 1, 0, s, r, h, hm => by omega
 | n + 1, m + 1, s, r, h, hm => by
  simp only [loopN] at h ⊢;cases hf : f s with
  | none => rw [hf] at h; cases h
  | some x =>
   rw [hf] at h;cases x with
   | inl s' => exact loopN_mono h (by omega)
   | inr r' => exact h
theorem loopO_of {n : Nat} {s : σ} {r : ρ} (h : loopN f n s = some r) : loopO f s = some r := by
 have hex : ∃ n r, loopN f n s = some r := ⟨n, r, h⟩
 cases hl : loopO f s with
 | none => exfalso; unfold loopO at hl; rw [dif_pos hex] at hl; cases hl
 | some r' =>
  obtain ⟨m, hm⟩ := loopO_some hl;have h1 := loopN_mono h (Nat.le_max_left n m);have h2 := loopN_mono hm (Nat.le_max_right n m);rw [<- h1, <- h2]
theorem loopO_inl {s s' : σ} (h : f s = some (.inl s')) : loopO f s = loopO f s' := by
 cases hl : loopO f s' with
 | some r =>
  obtain ⟨n, hn⟩ := loopO_some hl;exact loopO_of (n := n + 1) (by simp [loopN, h, hn])
 | none =>
  cases hl2 : loopO f s with
  | none => rfl
  | some r =>
   obtain ⟨n, hn⟩ := loopO_some hl2;cases n with
   | zero => simp [loopN] at hn
   | succ n =>
    simp only [loopN, h] at hn;rw [loopO_of hn] at hl;cases hl
theorem loopO_inr {s : σ} {r : ρ} (h : f s = some (.inr r)) : loopO f s = some r := loopO_of (n := 1) (by simp [loopN, h])
theorem loop_inv (n : Nat) (I : Nat -> σ -> Prop) (Q : ρ -> Prop)
  (hs : ∀ i s, i <= n -> I i s -> (∃ s', f s = some (.inl s') /\ i < n /\ I (i + 1) s') \/ (∃ r, f s = some (.inr r) /\ Q r)) {s : σ} (h0 : I 0 s) : ∃ r, loopO f s = some r /\ Q r := by
 have h : ∀ k i s, n - i = k -> i <= n -> I i s -> ∃ r, loopO f s = some r /\ Q r := by
  intro k;induction k with
  | zero =>
   intro i s hk hi hI;rcases hs i s hi hI with ⟨s', _, h, _⟩ | ⟨r, h, hq⟩
   ·omega
   ·exact ⟨r, loopO_inr h, hq⟩
  | succ k ih =>
   intro i s hk hi hI;rcases hs i s hi hI with ⟨s', h, hlt, hI'⟩ | ⟨r, h, hq⟩
   ·obtain ⟨r, hr, hq⟩ := ih (i + 1) s' (by omega) (by omega) hI';exact ⟨r, by rw [loopO_inl h, hr], hq⟩
   ·exact ⟨r, loopO_inr h, hq⟩
 exact h n 0 s (by omega) (by omega) h0
end
def findI {α ρ : Type} (g : Nat -> α -> Option ρ) : Nat -> List α -> Option ρ
 | _, [] => none
 | k, a :: l => match g k a with
  | some r => some r
  | none => findI g (k + 1) l
def toSum {ρ : Type} : Option ρ -> Unit ⊕ ρ
 | some r => .inr r
 | none => .inl ()
def stp {ρ : Type} (i : Nat) : Option ρ -> Int ⊕ (Unit ⊕ ρ)
 | some r => .inr (.inr r)
 | none => .inl ((i : Int) + 1)
theorem loop_list {α ρ : Type} (l : List α) {f : Int -> Option (Int ⊕ (Unit ⊕ ρ))} (g : Nat -> α -> Option ρ)
  (h : ∀ (i : Nat) (a : α), l[i]? = some a -> f i = some (stp i (g i a)))
  (he : f l.length = some (.inr (.inl ()))) : loopO f 0 = some (toSum (findI g 0 l)) := by
 have key : ∀ (l2 l1 : List α), l1 ++ l2 = l -> loopO f (l1.length : Nat) = some (toSum (findI g l1.length l2)) := by
  intro l2;induction l2 with
  | nil =>
   intro l1 e;have : l1 = l := by simpa using e
   subst this;rw [loopO_inr he]; rfl
  | cons a l2 ih =>
   intro l1 e;have hi : l[l1.length]? = some a := by rw [<- e]; simp
   have hf := h _ _ hi;simp only [findI];cases hg : g l1.length a with
   | some r => rw [hg] at hf; rw [loopO_inr hf]; rfl
   | none =>
    rw [hg] at hf;rw [loopO_inl hf];have := ih (l1 ++ [a]) (by simp [e]);simpa using this
 simpa using key l [] rfl
end Go.Tx
end
section
namespace Go.Tx
open Go
def Ok {α : Type} (o : Option α) (Q : α -> Prop) : Prop := ∃ a, o = some a /\ Q a
section
variable {α β σ ρ τ : Type}
theorem ok_some {a : α} {Q : α -> Prop} : Ok (some a) Q ↔ Q a := ⟨fun ⟨_, h, hq⟩ => by cases h; exact hq, fun h => ⟨a, rfl, h⟩⟩
theorem ok_none {Q : α -> Prop} : Ok (none : Option α) Q ↔ False := ⟨fun ⟨_, h, _⟩ => (by cases h), fun h => h.elim⟩
theorem ok_eq {o : Option α} {a : α} : Ok o (fun r => r = a) ↔ o = some a := ⟨fun ⟨_, h, hq⟩ => by rw [h, hq], fun h => ⟨a, h, rfl⟩⟩
theorem Ok.eq {o : Option α} {a : α} (h : Ok o (fun r => r = a)) : o = some a := ok_eq.1 h
theorem Ok.mono {o : Option α} {P Q : α -> Prop} (h : Ok o P) (hq : ∀ a, P a -> Q a) : Ok o Q := by obtain ⟨a, h1, h2⟩ := h; exact ⟨a, h1, hq a h2⟩
theorem Ok.bind {o : Option α} {k : α -> Option β} {P : α -> Prop} {Q : β -> Prop} (h : Ok o P) (hk : ∀ a, P a -> Ok (k a) Q) : Ok (o.bind k) Q := by
 obtain ⟨a, h1, h2⟩ := h; rw [h1]; exact hk a h2
theorem ok_bind {o : Option α} {k : α -> Option β} {Q : β -> Prop} : Ok (o.bind k) Q ↔ Ok o fun a => Ok (k a) Q := by
 cases o with
 | none => simp [ok_none]
 | some a => simp [ok_some]
theorem app_in {l l2 : List α} (h : l.length + l2.length <= 4294967296) : app l l2 = some (l ++ l2) := app_of h
theorem app_one {l : List α} {a : α} (h : l.length <= 4294967295) : app l [a] = some (l ++ [a]) := app_of (by simp; omega)
theorem app_nil {l2 : List α} (h : l2.length <= 4294967296) : app [] l2 = some l2 := by rw [app_of (by simpa using h)]; rfl
theorem mkS_in {z : α} {n : Int} (h : 0 <= n /\ n <= 4294967296) : mkS z n = some (List.replicate n.toNat z) := by unfold mkS; rw [if_pos h]
def Rnd (o : Option (σ ⊕ ρ)) (I : σ -> Prop) (Q : ρ -> Prop) : Prop := Ok o fun x => match x with
 | .inl s => I s
 | .inr r => Q r
theorem rnd_inl {s : σ} {I : σ -> Prop} {Q : ρ -> Prop} : Rnd (some (.inl s)) I Q ↔ I s := ok_some
theorem rnd_inr {r : ρ} {I : σ -> Prop} {Q : ρ -> Prop} : Rnd (some (.inr r) : Option (σ ⊕ ρ)) I Q ↔ Q r := ok_some
theorem rnd_bind {o : Option α} {k : α -> Option (σ ⊕ ρ)} {I : σ -> Prop} {Q : ρ -> Prop} : Rnd (o.bind k) I Q ↔ Ok o fun a => Rnd (k a) I Q := ok_bind
theorem loop_wf {f : σ -> Option (σ ⊕ ρ)} (μ : σ -> Nat) (I : σ -> Prop) (Q : ρ -> Prop) {s : σ} (h0 : I s)
  (hs : ∀ s, I s -> Rnd (f s) (fun s' => I s' /\ μ s' < μ s) Q) : Ok (loopO f s) Q := by
 have key : ∀ n s, μ s <= n -> I s -> Ok (loopO f s) Q := by
  intro n;induction n with
  | zero =>
   intro s hn hI;obtain ⟨x, hx, h⟩ := hs s hI;cases x with
   | inl s' => exact absurd h.2 (by omega)
   | inr r => exact ⟨r, loopO_inr hx, h⟩
  | succ n ih =>
   intro s hn hI;obtain ⟨x, hx, h⟩ := hs s hI;cases x with
   | inl s' => rw [loopO_inl hx]; exact ih s' (by have := h.2; omega) h.1
   | inr r => exact ⟨r, loopO_inr hx, h⟩
 exact key _ s (Nat.le_refl _) h0
theorem loop_up {f : σ -> Option (σ ⊕ ρ)} (n : Nat) (I : Nat -> σ -> Prop) (Q : ρ -> Prop) {s : σ} (h0 : I 0 s)
  (hs : ∀ i s, i <= n -> I i s -> Rnd (f s) (fun s' => i < n /\ I (i + 1) s') Q) : Ok (loopO f s) Q := by
 obtain ⟨r, h1, h2⟩ := loop_inv n I Q (fun i s hi hI => by
  obtain ⟨x, hx, h⟩ := hs i s hi hI;cases x with
  | inl s' => exact .inl ⟨s', hx, h⟩
  | inr r => exact .inr ⟨r, hx, h⟩) h0
 exact ⟨r, h1, h2⟩
theorem ok_elim {o : Option (α ⊕ β)} {k : α -> Option β} {Q : β -> Prop} : Ok (o.bind (Sum.elim k some)) Q ↔ Ok o fun x => match x with
  | .inl a => Ok (k a) Q
  | .inr b => Q b := by
 rw [ok_bind];cases o with
 | none => simp [ok_none]
 | some x => cases x <;> simp [ok_some]
end
theorem getD_at {α : Type} {l : List α} {i : Nat} {a d : α} (h : l[i]? = some a) : l.getD i d = a := by simp [h]
theorem take_next {α : Type} {l : List α} {i : Nat} (d : α) (h : i < l.length) : l.take (i + 1) = l.take i ++ [l.getD i d] := by
 rw [List.take_add_one]; simp [h]
end Go.Tx
end
section
namespace Go.Tx
open Go
section
variable {α β ρ τ : Type}
theorem len_lt {l : List α} {i : Nat} {a : α} (h : l[i]? = some a) : i < l.length := (List.getElem?_eq_some_iff.1 h).1
theorem for_find (l : List α) (K : Int -> Option (Int ⊕ (Unit ⊕ ρ))) (g : Nat -> α -> Option ρ) (h : ∀ (i : Nat) (a : α), l[i]? = some a -> K i = some (stp i (g i a))) :
  loopO (fun s => bif decide (s < (l.length : Int)) then K s else some (.inr (.inl ()))) 0 = some (toSum (findI g 0 l)) := by
 refine loop_list l g (fun i a hi => ?_) ?_
 ·have := len_lt hi;have e : decide ((i : Int) < (l.length : Int)) = true := by simp <;> omega
  simp only [e, cond_true];exact h i a hi
 ·simp
theorem elim_toSum {o : Option ρ} {k : Unit -> Option ρ} : (some (toSum o)).bind (Sum.elim k some) = (match o with
  | some r => some r
  | none => k ()) := by cases o <;> rfl
theorem findI_none {g : Nat -> α -> Option ρ} : ∀ {l : List α} {k : Nat}, findI g k l = none ↔ ∀ i a, l[i]? = some a -> g (k + i) a = none
 | [], k => by simp [findI]
 | a :: l, k => by
  simp only [findI];cases hg : g k a with
  | some r =>
   simp only [reduceCtorEq, false_iff];intro h;have := h 0 a rfl;simp [hg] at this
  | none =>
   simp only
   rw [findI_none (l := l) (k := k + 1)];constructor
   ·intro h i b hb;cases i with
    | zero => simp at hb; subst hb; simpa using hg
    | succ i => have := h i b (by simpa using hb); rw [<- this]; congr 1; omega
   ·intro h i b hb;have := h (i + 1) b (by simpa using hb);rw [<- this]; congr 1; omega
theorem findI_some {g : Nat -> α -> Option ρ} {r : ρ} : ∀ {l : List α} {k : Nat}, findI g k l = some r -> ∃ i a, l[i]? = some a /\ g (k + i) a = some r /\ ∀ j b, j < i -> l[j]? = some b -> g (k + j) b = none
 | [], k, h => by simp [findI] at h
 | a :: l, k, h => by
  simp only [findI] at h;cases hg : g k a with
  | some r' =>
   rw [hg] at h;simp only [Option.some.injEq] at h;subst h;exact ⟨0, a, rfl, by simpa using hg, fun j b hj => by omega⟩
  | none =>
   rw [hg] at h;obtain ⟨i, b, h1, h2, h3⟩ := findI_some (l := l) (k := k + 1) h;refine ⟨i + 1, b, by simpa using h1, by rw [<- h2]; congr 1; omega, fun j c hj hc => ?_⟩;cases j with
   | zero => simp at hc; subst hc; simpa using hg
   | succ j => have := h3 j c (by omega) (by simpa using hc); rw [<- this]; congr 1; omega
def fst0 : List Int -> Int
 | [] => 0
 | e :: l => if e = 0 then fst0 l else e
theorem findI_fst0 : ∀ (l : List Int) (k : Nat), findI (fun _ e => if e = 0 then none else some e) k l = if fst0 l = 0 then none else some (fst0 l)
 | [], k => rfl
 | e :: l, k => by
  simp only [findI, fst0];by_cases h : e = 0
  ·simp only [h, if_true]; exact findI_fst0 l (k + 1)
  ·simp [h]
theorem for_first (l : List Int) (hl : l.length <= 1000000000) :
  (loopO (fun (s2 : Int) =>
   bif decide (s2 < (l.length : Int)) then
    (idx l s2).bind fun x3 =>
    bif !(decide (x3 = 0)) then
     some (.inr (.inr x3))
    else
     some (.inl (IntKind.wrap .i64 (s2 + 1)))
   else
    some (.inr (.inl ()))) 0).bind (Sum.elim (fun (p4 : Unit) => some 0) some) = some (fst0 l) := by
 rw [for_find l _ (fun _ e => if e = 0 then none else some e) (fun i a hi => by
  have := len_lt hi;rw [idx_of hi];simp only [Option.bind_some];by_cases h : a = 0
  ·simp only [h, decide_true, Bool.not_true, cond_false, if_true, stp]; rw [wrap_id (by omega) (by omega)]
  ·simp [h, stp]), elim_toSum, findI_fst0]
 by_cases h : fst0 l = 0
 ·simp [h]
 ·simp [h]
end
end Go.Tx
end
section
namespace Go.Tx
open Go
end Go.Tx
end
section
namespace Go.Tx
open Go
section
variable {α : Type}
end
end Go.Tx
end
section
namespace Go.Tx
open Go
section
variable {α β : Type}
def mkL (n : Nat) (f : Nat -> α) : List α := (List.range n).map f
theorem mkL_len (n : Nat) (f : Nat -> α) : (mkL n f).length = n := by simp [mkL]
theorem mkL_get {n : Nat} (f : Nat -> α) {k : Nat} (h : k < n) : (mkL n f)[k]? = some (f k) := by simp [mkL, h]
theorem mkL_getD {n : Nat} (f : Nat -> α) {k : Nat} (d : α) (h : k < n) : (mkL n f).getD k d = f k := getD_at (mkL_get f h)
theorem mem_mkL {n : Nat} {f : Nat -> α} {k : Nat} (h : k < n) : f k ∈ mkL n f := List.mem_map.2 ⟨k, by simpa using h, rfl⟩
end
end Go.Tx
end
section
set_option maxRecDepth 100000
namespace Go.Proofs.YtkcaaaiihhhnmaaGreat
open Go Go.Ab Go.Tx
noncomputable section
@[reducible] def I : Ty := .int .i64
@[reducible] def w64 (n : Int) : Int := IntKind.wrap .i64 n
def lookJ : List (List Tmp × FuncId × Kind × Join) -> List Tmp -> FuncId -> Kind -> Option Join
 | [], _, _, _ => none
 | (c, f, k, j) :: l, c', f', k' => if f = f' then (if k = k' then (if c = c' then some j else lookJ l c' f' k') else lookJ l c' f' k') else lookJ l c' f' k'
def awakeId : Nat := 12
def mkTH (js : List (List Tmp × FuncId × Kind × Join)) (inl : List (List Tmp × FuncId × Tmp)) : TH where
 lib := fun g => decide (g = awakeId)
 join := lookJ js
 inl := fun c f d => inl.any fun (c', f', d') => decide (f = f') && decide (d = d') && decide (c = c')
def Lb : FuncId -> Option (List V -> Option V) := fun g => if g = awakeId then some (fun args => match args with
  | [] => some (.val (.bool true))
  | _ => none) else none
theorem hJ {js : List (List Tmp × FuncId × Kind × Join)} {inl : List (List Tmp × FuncId × Tmp)} : ∀ g, (mkTH js inl).lib g = false -> Lb g = none := fun g h => by
 simp only [mkTH, decide_eq_false_iff_not] at h;simp [Lb, h]
def KT (e : Entry) (j : TH) (l : List Entry) (n : Nat) : Prop := ∀ x : denP e.ps, fnT Tryz.prog Hn.hints j (tabT l) n e.g (ofPms e.ps x) e.rs = e.F x
abbrev OT (e : Entry) : Prop := EntryOk Tryz.prog Hn.hints Lb e
theorem entK {e : Entry} {j : TH} {l : List Entry} {n : Nat} (h : TOk Tryz.prog Hn.hints Lb (tabT l)) (hj : ∀ g, j.lib g = false -> Lb g = none) (k : KT e j l n) : OT e := entry_ok h hj n e.g e.ps e.rs e.F k
abbrev gT : Ty := .pair I (.pair I .unit)
def law09_awake : Option Bool := some true
def e_law09_awake : Entry := ⟨12, [], [(.bool, 0)], fun _ => law09_awake⟩
theorem o_law09_awake : EntryOk Tryz.prog Hn.hints Lb e_law09_awake := fun x y h vs hv => by
 obtain rfl : true = y := Option.some.inj h;simp only [e_law09_awake, ofPms, RVL] at hv;subst hv;refine ⟨.val (.bool true), ⟨1, fun m hm => ?_⟩, by simp [packT, e_law09_awake, ofL, packedT, ofTy, RV, RTy]⟩;obtain ⟨m', rfl⟩ : ∃ m', m = m' + 1 := ⟨m - 1, by omega⟩
 simp [orcN, Lb, awakeId, e_law09_awake]
def safety_within (a0 : Int) (a1 : Int) (a2 : Int) : Option Bool :=
 (bif decide (a1 <= a0) then
   some (decide (a0 <= a2))
  else
   some false).bind fun (p1 : Bool) =>
 some p1
def e_safety_within : Entry := ⟨84, [.ty I, .ty I, .ty I], [(.bool, 0)], fun x => safety_within x.1 x.2.1 x.2.2⟩
def j_safety_within : TH := mkTH [([], 84, .region 1, { lv := [⟨none, 6, 0⟩], ps := [(.bool, 0)], D := ⟨32704⟩ })] []
theorem k_safety_within : KT e_safety_within j_safety_within [] 40 := fun x => by kernel_rfl
theorem o_safety_within : OT e_safety_within := entK tab_nil hJ k_safety_within
def safety_isSized (a0 : Int) (a1 : Int) : Option Bool :=
 (safety_within a0 (w64 (0 - a1)) a1).bind fun x1 =>
 some x1
def e_safety_isSized : Entry := ⟨94, [.ty I, .ty I], [(.bool, 0)], fun x => safety_isSized x.1 x.2⟩
def j_safety_isSized : TH := mkTH [] []
theorem k_safety_isSized : KT e_safety_isSized j_safety_isSized [e_safety_within] 40 := fun x => by kernel_rfl
theorem o_safety_isSized : OT e_safety_isSized := entK (tab_cons o_safety_within tab_nil) hJ k_safety_isSized
def safety_unless (a0 : Bool) (a1 : Int) : Option Int :=
 bif a0 then
  some 0
 else
  some a1
def e_safety_unless : Entry := ⟨72, [.ty .bool, .ty I], [(I, 0)], fun x => safety_unless x.1 x.2⟩
def j_safety_unless : TH := mkTH [] []
theorem k_safety_unless : KT e_safety_unless j_safety_unless [] 40 := fun x => by kernel_rfl
theorem o_safety_unless : OT e_safety_unless := entK tab_nil hJ k_safety_unless
def safety_first (a0 : (List Int)) : Option Int :=
 (loopO (fun (s2 : Int) =>
   bif decide (s2 < (a0.length : Int)) then
    (idx a0 s2).bind fun x3 =>
    bif !(decide (x3 = 0)) then
     some (.inr (.inr x3))
    else
     some (.inl (w64 (s2 + 1)))
   else
    some (.inr (.inl ()))) 0).bind (Sum.elim (fun (p4 : Unit) =>
 some 0) some)
def e_safety_first : Entry := ⟨71, [.ty (.sl I)], [(I, 0)], fun x => safety_first x⟩
def j_safety_first : TH := mkTH [([], 71, .block 0, { lv := [], ps := [], abn := true, D := ⟨32656⟩ }),
 ([], 71, .loop 0, { lv := [⟨none, 7, 0⟩], ps := [(I, 0)], D := ⟨32656⟩ })] []
theorem k_safety_first : KT e_safety_first j_safety_first [] 40 := fun x => by kernel_rfl
theorem o_safety_first : OT e_safety_first := entK tab_nil hJ k_safety_first
def base_Within (a0 : Int) (a1 : Int) (a2 : Int) : Option Bool :=
 (bif decide (a1 <= a0) then
   some (decide (a0 <= a2))
  else
   some false).bind fun (p1 : Bool) =>
 some p1
def e_base_Within : Entry := ⟨18, [.ty I, .ty I, .ty I], [(.bool, 0)], fun x => base_Within x.1 x.2.1 x.2.2⟩
def j_base_Within : TH := mkTH [([], 18, .region 1, { lv := [⟨none, 6, 0⟩], ps := [(.bool, 0)], D := ⟨32704⟩ })] []
theorem k_base_Within : KT e_base_Within j_base_Within [] 40 := fun x => by kernel_rfl
theorem o_base_Within : OT e_base_Within := entK tab_nil hJ k_base_Within
def safety_CheckLimits (a0 : (Int × Int × Int × Int × Int × Unit)) : Option Int :=
 ((safety_isSized a0.1 (60 : Int)).bind fun x1 =>
  bif x1 then
   (safety_isSized a0.2.1 (60 : Int)).bind fun x2 =>
   bif x2 then
    (safety_within a0.2.2.1 (1 : Int) (8 : Int)).bind fun x3 =>
    bif x3 then
     (safety_within a0.2.2.2.1 (1 : Int) (3 : Int)).bind fun x4 =>
     bif x4 then
      (safety_within a0.2.2.2.2.1 (1 : Int) (6 : Int)).bind fun x5 =>
      some x5
     else
      some false
    else
     some false
   else
    some false
  else
   some false).bind fun (p6 : Bool) =>
 (safety_unless p6 (2 : Int)).bind fun x7 =>
 (safety_unless (decide (a0.1 <= a0.2.1)) (9 : Int)).bind fun x8 =>
 (safety_first ([x7, x8])).bind fun x9 =>
 some x9
def e_safety_CheckLimits : Entry := ⟨37, [.ty (.pair I (.pair I (.pair I gT)))], [(I, 0)], fun x => safety_CheckLimits x⟩
def j_safety_CheckLimits : TH := mkTH [([], 37, .region 1, { lv := [⟨none, 3, 0⟩], ps := [(.bool, 0)], D := ⟨536870904⟩, rs := [⟨0, 1⟩], Dn := ⟨502233544⟩ })] []
theorem k_safety_CheckLimits : KT e_safety_CheckLimits j_safety_CheckLimits [e_safety_first, e_safety_isSized, e_safety_unless, e_safety_within] 40 := fun x => by kernel_rfl
theorem o_safety_CheckLimits : OT e_safety_CheckLimits := entK (tab_cons o_safety_first (tab_cons o_safety_isSized (tab_cons o_safety_unless (tab_cons o_safety_within tab_nil)))) hJ k_safety_CheckLimits
def safety_openMotion (a0 : (Int × Int × Int × Int × Int × Unit)) (a1 : (Int × Int × Int × Unit)) : Option Int :=
 ((safety_within a1.1 a0.1 a0.2.1).bind fun x1 =>
  bif x1 then
   (safety_isSized a1.2.1 a0.2.2.1).bind fun x2 =>
   bif x2 then
    (safety_isSized a1.2.2.1 a0.2.2.2.1).bind fun x3 =>
    some x3
   else
    some false
  else
   some false).bind fun (p4 : Bool) =>
 (safety_CheckLimits a0).bind fun x5 =>
 (safety_unless p4 (2 : Int)).bind fun x6 =>
 (safety_first ([x5, x6])).bind fun x7 =>
 some x7
def e_safety_openMotion : Entry := ⟨91, [.ty (.pair I (.pair I (.pair I gT))), .ty (.pair I gT)], [(I, 0)], fun x => safety_openMotion x.1 x.2⟩
def j_safety_openMotion : TH := mkTH [([], 91, .region 1, { lv := [⟨none, 5, 0⟩], ps := [(.bool, 0)], D := ⟨536870880⟩, rs := [⟨0, 2⟩, ⟨0, 3⟩], Dn := ⟨494593184⟩ })] []
theorem k_safety_openMotion : KT e_safety_openMotion j_safety_openMotion [e_safety_CheckLimits, e_safety_first, e_safety_isSized, e_safety_unless, e_safety_within] 40 := fun x => by kernel_rfl
theorem o_safety_openMotion : OT e_safety_openMotion := entK (tab_cons o_safety_CheckLimits (tab_cons o_safety_first (tab_cons o_safety_isSized (tab_cons o_safety_unless (tab_cons o_safety_within tab_nil))))) hJ k_safety_openMotion
def safety_atRest (a0 : (Int × Int × Int × Unit)) : Option Bool :=
 (bif decide (a0.2.1 = 0) then
   some (decide (a0.2.2.1 = 0))
  else
   some false).bind fun (p1 : Bool) =>
 some p1
def e_safety_atRest : Entry := ⟨95, [.ty (.pair I gT)], [(.bool, 0)], fun x => safety_atRest x⟩
def j_safety_atRest : TH := mkTH [([], 95, .region 1, { lv := [⟨none, 2, 0⟩], ps := [(.bool, 0)], D := ⟨2044⟩, rs := [⟨0, 1⟩], Dn := ⟨1908⟩ })] []
theorem k_safety_atRest : KT e_safety_atRest j_safety_atRest [] 40 := fun x => by kernel_rfl
theorem o_safety_atRest : OT e_safety_atRest := entK tab_nil hJ k_safety_atRest
def safety_pushed (a0 : (Int × Int × Int × Int × Int × Unit)) (a1 : (Int × Int × Int × Unit)) (a2 : Int) : Option ((Int × Int × Int × Unit) × Bool) :=
 ((safety_isSized a2 a0.2.2.2.1).bind fun x1 =>
  bif !x1 then
   some true
  else
   (safety_isSized (w64 (a2 - a1.2.2.1)) a0.2.2.2.2.1).bind fun x2 =>
   some (!x2)).bind fun (p3 : Bool) =>
 bif p3 then
  some (a1, false)
 else
  ((safety_isSized (w64 (a1.2.1 + a2)) a0.2.2.1).bind fun x4 =>
   bif x4 then
    (safety_within (w64 (a1.1 + (w64 (a1.2.1 + a2)))) a0.1 a0.2.1).bind fun x5 =>
    some (x5, w64 (a1.1 + (w64 (a1.2.1 + a2))), w64 (a1.2.1 + a2), a2)
   else
    some (false, w64 (a1.1 + (w64 (a1.2.1 + a2))), w64 (a1.2.1 + a2), a2)).bind fun (p6 : (Bool × Int × Int × Int)) =>
  some ((p6.2.1, p6.2.2.1, p6.2.2.2, ()), p6.1)
def e_safety_pushed : Entry := ⟨92, [.ty (.pair I (.pair I (.pair I gT))), .ty (.pair I gT), .ty I], [((.pair I gT), 0), (.bool, 0)], fun x => safety_pushed x.1 x.2.1 x.2.2⟩
def j_safety_pushed : TH := mkTH [([], 92, .region 1, { lv := [⟨none, 22, 0⟩], ps := [(.bool, 0)], D := ⟨8388352⟩, rs := [⟨0, 3⟩, ⟨0, 4⟩], Dn := ⟨8092928⟩ }),
 ([], 92, .region 5, { lv := [⟨none, 7, 0⟩, ⟨some 0, 6, 0⟩, ⟨some 0, 6, 1⟩, ⟨some 0, 6, 2⟩], ps := [(.bool, 0), (I, 0), (I, 0), (I, 0)], D := ⟨18014261070528640⟩, wr := [⟨0, 6⟩], rs := [⟨0, 3⟩, ⟨0, 4⟩], Dn := ⟨16095338402152576⟩ })] []
theorem k_safety_pushed : KT e_safety_pushed j_safety_pushed [e_safety_isSized, e_safety_within] 40 := fun x => by kernel_rfl
theorem o_safety_pushed : OT e_safety_pushed := entK (tab_cons o_safety_isSized (tab_cons o_safety_within tab_nil)) hJ k_safety_pushed
def safety_stop (a0 : (Int × Int × Int × Int × Int × Unit)) (a1 : (Int × Int × Int × Unit)) : Option ((List Int) × Bool) :=
 (loopO (fun (s2 : ((List (Int × Int × Int × Int × Unit)) × Int × (List (Int × Int × Int × Unit)))) =>
   bif decide (s2.2.1 < (s2.1.length : Int)) then
    (idx s2.1 s2.2.1).bind fun x3 =>
    (safety_atRest (x3.1, x3.2.1, x3.2.2.1, ())).bind fun x4 =>
    bif x4 then
     (loopO (fun (s7 : ((List Int) × Int)) =>
       (idx s2.1 s7.2).bind fun x8 =>
       bif decide (x8.2.2.2.1 >= 0) then
        (idx s2.1 s7.2).bind fun x9 =>
        (app s7.1 ([x9.2.2.1])).bind fun x10 =>
        (idx s2.1 s7.2).bind fun x11 =>
        some (.inl (x10, x11.2.2.2.1))
       else
        some (.inr s7.1)) ([], s2.2.1)).bind fun (p12 : (List Int)) =>
     (revO p12).bind fun x13 =>
     some (.inr (.inr (x13, true)))
    else
     (loopO (fun (s15 : ((List (Int × Int × Int × Int × Unit)) × Int × (List (Int × Int × Int × Unit)))) =>
       bif decide (s15.2.1 <= a0.2.2.2.1) then
        (idx s15.1 s2.2.1).bind fun x16 =>
        (safety_pushed a0 (x16.1, x16.2.1, x16.2.2.1, ()) s15.2.1).bind fun x17 =>
        (bif x17.2 then
          some (!(memK (.pair I gT) s15.2.2 x17.1))
         else
          some false).bind fun (p18 : Bool) =>
        (bif p18 then
          (app s15.1 ([(x17.1.1, x17.1.2.1, x17.1.2.2.1, s2.2.1, ())])).bind fun x19 =>
          some (x19, insK (.pair I gT) s15.2.2 x17.1)
         else
          some (s15.1, s15.2.2)).bind fun (p20 : ((List (Int × Int × Int × Int × Unit)) × (List (Int × Int × Int × Unit)))) =>
        some (.inl (p20.1, w64 (s15.2.1 + 1), p20.2))
       else
        some (.inr (s15.1, s15.2.2))) (s2.1, w64 (0 - a0.2.2.2.1), s2.2.2)).bind fun (p21 : ((List (Int × Int × Int × Int × Unit)) × (List (Int × Int × Int × Unit)))) =>
     some (.inl (p21.1, w64 (s2.2.1 + 1), p21.2))
   else
    some (.inr (.inl ()))) ([(a1.1, a1.2.1, a1.2.2.1, (-1), ())], 0, insK (.pair I gT) [] a1)).bind (Sum.elim (fun (p22 : Unit) =>
 some ([], false)) some)
def e_safety_stop : Entry := ⟨93, [.ty (.pair I (.pair I (.pair I gT))), .ty (.pair I gT)], [((.sl I), 1), (.bool, 0)], fun x => safety_stop x.1 x.2⟩
def j_safety_stop : TH := mkTH [([], 93, .block 0, { lv := [], ps := [], abn := true, D := ⟨2475880078570760549797216064⟩, wr := [⟨0, 12⟩, ⟨0, 16401⟩] }),
 ([], 93, .loop 0, { lv := [⟨none, 6, 0⟩, ⟨none, 8, 0⟩, ⟨some 0, 16401, 0⟩], ps := [((.sl (.pair I (.pair I gT))), 1), (I, 0), ((.mset (.pair I gT)), 0)], D := ⟨2475880078570760549797216064⟩, wr := [⟨0, 12⟩, ⟨0, 16401⟩], rs := [⟨0, 2⟩], Dn := ⟨2475880077345781451152441152⟩ }),
 ([], 93, .block 2, { lv := [⟨none, 9, 0⟩], ps := [((.sl I), 1)], D := ⟨9007190664807936⟩ }),
 ([], 93, .loop 2, { lv := [⟨none, 9, 0⟩, ⟨none, 10, 0⟩], ps := [((.sl I), 1), (I, 0)], D := ⟨9007190664807936⟩ }),
 ([], 93, .block 4, { lv := [⟨none, 6, 0⟩, ⟨some 0, 16401, 0⟩], ps := [((.sl (.pair I (.pair I gT))), 1), ((.mset (.pair I gT)), 0)], D := ⟨2475880077994299797494839872⟩, wr := [⟨0, 12⟩, ⟨0, 16401⟩], rs := [⟨0, 2⟩], Dn := ⟨2475880076841378292887992896⟩ }),
 ([], 93, .loop 4, { lv := [⟨none, 6, 0⟩, ⟨none, 11, 0⟩, ⟨some 0, 16401, 0⟩], ps := [((.sl (.pair I (.pair I gT))), 1), (I, 0), ((.mset (.pair I gT)), 0)], D := ⟨2475880077994299797494839872⟩, wr := [⟨0, 12⟩, ⟨0, 16401⟩], rs := [⟨0, 2⟩, ⟨0, 12⟩, ⟨0, 16401⟩], Dn := ⟨2465906438829557602196662848⟩ }),
 ([], 93, .region 18, { lv := [⟨none, 82, 0⟩], ps := [(.bool, 0)], D := ⟨9595848693191119074230272⟩, rs := [⟨0, 16401⟩], Dn := ⟨9293617238287461780553728⟩ }),
 ([], 93, .cond 82, { lv := [⟨none, 6, 0⟩, ⟨some 0, 16401, 0⟩], ps := [((.sl (.pair I (.pair I gT))), 1), ((.mset (.pair I gT)), 0)], D := ⟨2466208672013843516400599104⟩, wr := [⟨0, 16401⟩], rs := [⟨0, 16401⟩], Dn := ⟨2456537265456926483002949696⟩ })] []
theorem k_safety_stop : KT e_safety_stop j_safety_stop [e_safety_atRest, e_safety_pushed] 40 := fun x => by kernel_rfl
theorem o_safety_stop : OT e_safety_stop := entK (tab_cons o_safety_atRest (tab_cons o_safety_pushed tab_nil)) hJ k_safety_stop
def safety_StopFrom (a0 : (Int × Int × Int × Int × Int × Unit)) (a1 : (Int × Int × Int × Unit)) : Option ((List Int) × Int) :=
 (safety_openMotion a0 a1).bind fun x1 =>
 bif !(decide (x1 = 0)) then
  some ([], x1)
 else
  (safety_stop a0 a1).bind fun x2 =>
  (safety_unless x2.2 (12 : Int)).bind fun x3 =>
  some (x2.1, x3)
def e_safety_StopFrom : Entry := ⟨38, [.ty (.pair I (.pair I (.pair I gT))), .ty (.pair I gT)], [((.sl I), 1), (I, 0)], fun x => safety_StopFrom x.1 x.2⟩
def j_safety_StopFrom : TH := mkTH [] []
theorem k_safety_StopFrom : KT e_safety_StopFrom j_safety_StopFrom [e_safety_openMotion, e_safety_stop, e_safety_unless] 40 := fun x => by kernel_rfl
theorem o_safety_StopFrom : OT e_safety_StopFrom := entK (tab_cons o_safety_openMotion (tab_cons o_safety_stop (tab_cons o_safety_unless tab_nil))) hJ k_safety_StopFrom
def safety_CanStop (a0 : (Int × Int × Int × Int × Int × Unit)) (a1 : (Int × Int × Int × Unit)) : Option (Bool × Int) :=
 (safety_openMotion a0 a1).bind fun x1 =>
 bif !(decide (x1 = 0)) then
  some (false, x1)
 else
  (safety_stop a0 a1).bind fun x2 =>
  some (x2.2, 0)
def e_safety_CanStop : Entry := ⟨39, [.ty (.pair I (.pair I (.pair I gT))), .ty (.pair I gT)], [(.bool, 0), (I, 0)], fun x => safety_CanStop x.1 x.2⟩
def j_safety_CanStop : TH := mkTH [] []
theorem k_safety_CanStop : KT e_safety_CanStop j_safety_CanStop [e_safety_openMotion, e_safety_stop] 40 := fun x => by kernel_rfl
theorem o_safety_CanStop : OT e_safety_CanStop := entK (tab_cons o_safety_openMotion (tab_cons o_safety_stop tab_nil)) hJ k_safety_CanStop
def base_CopyInts (a0 : (List Int)) : Option (List Int) :=
 (app [] a0).bind fun x1 =>
 some x1
def e_base_CopyInts : Entry := ⟨41, [.ty (.sl I)], [((.sl I), 1)], fun x => base_CopyInts x⟩
def j_base_CopyInts : TH := mkTH [] []
theorem k_base_CopyInts : KT e_base_CopyInts j_base_CopyInts [] 40 := fun x => by kernel_rfl
theorem o_base_CopyInts : OT e_base_CopyInts := entK tab_nil hJ k_base_CopyInts
def safety_CheckStop (a0 : (Int × Int × Int × Int × Int × Unit)) (a1 : (Int × Int × Int × Unit)) (a2 : (List Int)) : Option (Int × Int) :=
 (safety_openMotion a0 a1).bind fun x1 =>
 (safety_unless (decide ((a2.length : Int) <= 100)) (8 : Int)).bind fun x2 =>
 (safety_first ([x1, x2])).bind fun x3 =>
 bif !(decide (x3 = 0)) then
  some (0, x3)
 else
  (loopO (fun (s5 : (Int × Int × Int × Int)) =>
    bif decide (s5.1 < (a2.length : Int)) then
     (idx a2 s5.1).bind fun x6 =>
     (safety_pushed a0 (s5.2.1, s5.2.2.1, s5.2.2.2, ()) x6).bind fun x7 =>
     bif !x7.2 then
      some (.inr (.inr (0, 24)))
     else
      some (.inl (w64 (s5.1 + 1), x7.1.1, x7.1.2.1, x7.1.2.2.1))
    else
     some (.inr (.inl (s5.2.1, s5.2.2.1, s5.2.2.2)))) (0, a1.1, a1.2.1, a1.2.2.1)).bind (Sum.elim (fun (p8 : (Int × Int × Int)) =>
  (safety_atRest (p8.1, p8.2.1, p8.2.2, ())).bind fun x9 =>
  bif !x9 then
   some (0, 21)
  else
   some (p8.1, 0)) some)
def e_safety_CheckStop : Entry := ⟨40, [.ty (.pair I (.pair I (.pair I gT))), .ty (.pair I gT), .ty (.sl I)], [(I, 0), (I, 0)], fun x => safety_CheckStop x.1 x.2.1 x.2.2⟩
def j_safety_CheckStop : TH := mkTH [([], 40, .block 0, { lv := [⟨some 0, 4, 0⟩, ⟨some 0, 4, 1⟩, ⟨some 0, 4, 2⟩], ps := [(I, 0), (I, 0), (I, 0)], abn := true, D := ⟨4397912300544⟩, wr := [⟨0, 4⟩, ⟨0, 11⟩] }),
 ([], 40, .loop 0, { lv := [⟨none, 27, 0⟩, ⟨some 0, 4, 0⟩, ⟨some 0, 4, 1⟩, ⟨some 0, 4, 2⟩], ps := [(I, 0), (I, 0), (I, 0), (I, 0)], D := ⟨4397912300544⟩, wr := [⟨0, 4⟩, ⟨0, 11⟩], rs := [⟨0, 11⟩], Dn := ⟨4397912298496⟩ })] []
theorem k_safety_CheckStop : KT e_safety_CheckStop j_safety_CheckStop [e_safety_atRest, e_safety_first, e_safety_openMotion, e_safety_pushed, e_safety_unless] 40 := fun x => by kernel_rfl
theorem o_safety_CheckStop : OT e_safety_CheckStop := entK (tab_cons o_safety_atRest (tab_cons o_safety_first (tab_cons o_safety_openMotion (tab_cons o_safety_pushed (tab_cons o_safety_unless tab_nil))))) hJ k_safety_CheckStop
def ref09_LimitsErr (a0 : (Int × Int × Int × Int × Int × Unit)) : Option Int :=
 ((base_Within a0.1 (-60 : Int) (60 : Int)).bind fun x1 =>
  bif !x1 then
   some true
  else
   (base_Within a0.2.1 (-60 : Int) (60 : Int)).bind fun x2 =>
   bif !x2 then
    some true
   else
    (base_Within a0.2.2.1 (1 : Int) (8 : Int)).bind fun x3 =>
    bif !x3 then
     some true
    else
     (base_Within a0.2.2.2.1 (1 : Int) (3 : Int)).bind fun x4 =>
     bif !x4 then
      some true
     else
      (base_Within a0.2.2.2.2.1 (1 : Int) (6 : Int)).bind fun x5 =>
      some (!x5)).bind fun (p6 : Bool) =>
 bif p6 then
  some 2
 else
  bif decide (a0.1 > a0.2.1) then
   some 9
  else
   some 0
def e_ref09_LimitsErr : Entry := ⟨42, [.ty (.pair I (.pair I (.pair I gT)))], [(I, 0)], fun x => ref09_LimitsErr x⟩
def j_ref09_LimitsErr : TH := mkTH [([], 42, .region 1, { lv := [⟨none, 32, 0⟩], ps := [(.bool, 0)], D := ⟨8589934584⟩, rs := [⟨0, 1⟩], Dn := ⟨8317237728⟩ })] []
theorem k_ref09_LimitsErr : KT e_ref09_LimitsErr j_ref09_LimitsErr [e_base_Within] 40 := fun x => by kernel_rfl
theorem o_ref09_LimitsErr : OT e_ref09_LimitsErr := entK (tab_cons o_base_Within tab_nil) hJ k_ref09_LimitsErr
def ref09_MotionErr (a0 : (Int × Int × Int × Int × Int × Unit)) (a1 : (Int × Int × Int × Unit)) : Option Int :=
 ((base_Within a1.1 a0.1 a0.2.1).bind fun x1 =>
  bif !x1 then
   some true
  else
   (base_Within a1.2.1 (w64 (0 - a0.2.2.1)) a0.2.2.1).bind fun x2 =>
   bif !x2 then
    some true
   else
    (base_Within a1.2.2.1 (w64 (0 - a0.2.2.2.1)) a0.2.2.2.1).bind fun x3 =>
    some (!x3)).bind fun (p4 : Bool) =>
 bif p4 then
  some 2
 else
  some 0
def e_ref09_MotionErr : Entry := ⟨90, [.ty (.pair I (.pair I (.pair I gT))), .ty (.pair I gT)], [(I, 0)], fun x => ref09_MotionErr x.1 x.2⟩
def j_ref09_MotionErr : TH := mkTH [([], 90, .region 1, { lv := [⟨none, 36, 0⟩], ps := [(.bool, 0)], D := ⟨137438953440⟩, rs := [⟨0, 2⟩, ⟨0, 3⟩], Dn := ⟨132470469184⟩ })] []
theorem k_ref09_MotionErr : KT e_ref09_MotionErr j_ref09_MotionErr [e_base_Within] 40 := fun x => by kernel_rfl
theorem o_ref09_MotionErr : OT e_ref09_MotionErr := entK (tab_cons o_base_Within tab_nil) hJ k_ref09_MotionErr
def law09_motionErr (a0 : (Int × Int × Int × Int × Int × Unit)) (a1 : (Int × Int × Int × Unit)) : Option Int :=
 (ref09_LimitsErr a0).bind fun x1 =>
 bif !(decide (x1 = 0)) then
  some x1
 else
  (ref09_MotionErr a0 a1).bind fun x2 =>
  some x2
def e_law09_motionErr : Entry := ⟨34, [.ty (.pair I (.pair I (.pair I gT))), .ty (.pair I gT)], [(I, 0)], fun x => law09_motionErr x.1 x.2⟩
def j_law09_motionErr : TH := mkTH [] []
theorem k_law09_motionErr : KT e_law09_motionErr j_law09_motionErr [e_ref09_LimitsErr, e_ref09_MotionErr] 40 := fun x => by kernel_rfl
theorem o_law09_motionErr : OT e_law09_motionErr := entK (tab_cons o_ref09_LimitsErr (tab_cons o_ref09_MotionErr tab_nil)) hJ k_law09_motionErr
def ref09_cell (a0 : (Int × Int × Int × Int × Int × Unit)) (a1 : (Int × Int × Int × Unit)) : Option Int :=
 let v1 : Int := w64 ((w64 ((w64 (a1.1 - a0.1)) * (w64 ((w64 (2 * a0.2.2.1)) + 1)))) + a1.2.1)
 let v2 : Int := w64 ((w64 ((w64 (v1 + a0.2.2.1)) * (w64 ((w64 (2 * a0.2.2.2.1)) + 1)))) + a1.2.2.1)
 some (w64 (v2 + a0.2.2.2.1))
def ref09_IsRest (a0 : (Int × Int × Int × Unit)) : Option Bool :=
 (bif decide (a0.2.1 = 0) then
   some (decide (a0.2.2.1 = 0))
  else
   some false).bind fun (p1 : Bool) =>
 some p1
def e_ref09_IsRest : Entry := ⟨59, [.ty (.pair I gT)], [(.bool, 0)], fun x => ref09_IsRest x⟩
def j_ref09_IsRest : TH := mkTH [([], 59, .region 1, { lv := [⟨none, 2, 0⟩], ps := [(.bool, 0)], D := ⟨2044⟩, rs := [⟨0, 1⟩], Dn := ⟨1908⟩ })] []
theorem k_ref09_IsRest : KT e_ref09_IsRest j_ref09_IsRest [] 40 := fun x => by kernel_rfl
theorem o_ref09_IsRest : OT e_ref09_IsRest := entK tab_nil hJ k_ref09_IsRest
def ref09_Pushed (a0 : (Int × Int × Int × Int × Int × Unit)) (a1 : (Int × Int × Int × Unit)) (a2 : Int) : Option ((Int × Int × Int × Unit) × Bool) :=
 ((base_Within a2 (w64 (0 - a0.2.2.2.1)) a0.2.2.2.1).bind fun x1 =>
  bif !x1 then
   some true
  else
   (base_Within a2 (w64 (a1.2.2.1 - a0.2.2.2.2.1)) (w64 (a1.2.2.1 + a0.2.2.2.2.1))).bind fun x2 =>
   some (!x2)).bind fun (p3 : Bool) =>
 bif p3 then
  some ((0, 0, 0, ()), false)
 else
  (ref09_MotionErr a0 (w64 (a1.1 + (w64 (a1.2.1 + a2))), w64 (a1.2.1 + a2), a2, ())).bind fun x4 =>
  bif !(decide (x4 = 0)) then
   some ((0, 0, 0, ()), false)
  else
   some ((w64 (a1.1 + (w64 (a1.2.1 + a2))), w64 (a1.2.1 + a2), a2, ()), true)
def e_ref09_Pushed : Entry := ⟨60, [.ty (.pair I (.pair I (.pair I gT))), .ty (.pair I gT), .ty I], [((.pair I gT), 0), (.bool, 0)], fun x => ref09_Pushed x.1 x.2.1 x.2.2⟩
def j_ref09_Pushed : TH := mkTH [([], 60, .region 1, { lv := [⟨none, 31, 0⟩], ps := [(.bool, 0)], D := ⟨4294966784⟩, rs := [⟨0, 3⟩, ⟨0, 4⟩], Dn := ⟨4208450048⟩ })] []
theorem k_ref09_Pushed : KT e_ref09_Pushed j_ref09_Pushed [e_base_Within, e_ref09_MotionErr] 40 := fun x => by kernel_rfl
theorem o_ref09_Pushed : OT e_ref09_Pushed := entK (tab_cons o_base_Within (tab_cons o_ref09_MotionErr tab_nil)) hJ k_ref09_Pushed
def ref09_Stop (a0 : (Int × Int × Int × Int × Int × Unit)) (a1 : (Int × Int × Int × Unit)) : Option ((List Int) × Bool) :=
 let v1 : Int := w64 ((w64 ((w64 (a0.2.1 - a0.1)) + 1)) * (w64 ((w64 (2 * a0.2.2.1)) + 1)))
 (mkS false (w64 (v1 * (w64 ((w64 (2 * a0.2.2.2.1)) + 1))))).bind fun x2 =>
 bif decide (w64 (v1 * (w64 ((w64 (2 * a0.2.2.2.1)) + 1))) = w64 (v1 * (w64 ((w64 (2 * a0.2.2.2.1)) + 1)))) then
  (ref09_cell a0 a1).bind fun x3 =>
  (idx x2 x3).bind fun x4 =>
  (idx x2 x3).bind fun x5 =>
  let l6 : (List Bool) := List.set x2 x3.toNat true
  (loopO (fun (s8 : ((List (Int × Int × Int × Int × Int × Unit)) × (List Bool) × Int)) =>
    bif decide (s8.2.2 < (s8.1.length : Int)) then
     (idx s8.1 s8.2.2).bind fun x9 =>
     (ref09_IsRest (x9.1, x9.2.1, x9.2.2.1, ())).bind fun x10 =>
     bif x10 then
      (loopO (fun (s13 : ((List Int) × Int)) =>
        (idx s8.1 s13.2).bind fun x14 =>
        bif decide (x14.2.2.2.1 >= 0) then
         (idx s8.1 s13.2).bind fun x15 =>
         (app ([x15.2.2.2.2.1]) s13.1).bind fun x16 =>
         (idx s8.1 s13.2).bind fun x17 =>
         some (.inl (x16, x17.2.2.2.1))
        else
         some (.inr s13.1)) ([], s8.2.2)).bind fun (p18 : (List Int)) =>
      some (.inr (.inr (p18, true)))
     else
      (loopO (fun (s20 : ((List (Int × Int × Int × Int × Int × Unit)) × (List Bool) × Int)) =>
        bif decide (s20.2.2 <= a0.2.2.2.1) then
         (idx s20.1 s8.2.2).bind fun x21 =>
         (ref09_Pushed a0 (x21.1, x21.2.1, x21.2.2.1, ()) s20.2.2).bind fun x22 =>
         (bif x22.2 then
           (ref09_cell a0 x22.1).bind fun x23 =>
           (idx s20.2.1 x23).bind fun x24 =>
           some (!x24)
          else
           some false).bind fun (p25 : Bool) =>
         (bif p25 then
           (ref09_cell a0 x22.1).bind fun x26 =>
           (idx s20.2.1 x26).bind fun x27 =>
           (idx s20.2.1 x26).bind fun x28 =>
           let l29 : (List Bool) := List.set s20.2.1 x26.toNat true
           (app s20.1 ([(x22.1.1, x22.1.2.1, x22.1.2.2.1, s8.2.2, s20.2.2, ())])).bind fun x30 =>
           some (x30, l29)
          else
           some (s20.1, s20.2.1)).bind fun (p31 : ((List (Int × Int × Int × Int × Int × Unit)) × (List Bool))) =>
         some (.inl (p31.1, p31.2, w64 (s20.2.2 + 1)))
        else
         some (.inr (s20.1, s20.2.1))) (s8.1, s8.2.1, w64 (0 - a0.2.2.2.1))).bind fun (p32 : ((List (Int × Int × Int × Int × Int × Unit)) × (List Bool))) =>
      some (.inl (p32.1, p32.2, w64 (s8.2.2 + 1)))
    else
     some (.inr (.inl ()))) ([(a1.1, a1.2.1, a1.2.2.1, (-1), 0, ())], l6, 0)).bind (Sum.elim (fun (p33 : Unit) =>
  some ([], false)) some)
 else
  none
def safety_PushesFrom (a0 : (Int × Int × Int × Int × Int × Unit)) (a1 : (Int × Int × Int × Unit)) : Option ((List Int) × Int) :=
 (safety_openMotion a0 a1).bind fun x1 =>
 bif !(decide (x1 = 0)) then
  some ([], x1)
 else
  (loopO (fun (s3 : ((List Int) × Int)) =>
    bif decide (s3.2 <= a0.2.2.2.1) then
     (safety_pushed a0 a1 s3.2).bind fun x4 =>
     (bif x4.2 then
       (safety_stop a0 x4.1).bind fun x5 =>
       some x5.2
      else
       some x4.2).bind fun (p6 : Bool) =>
     (bif p6 then
       (app s3.1 ([s3.2])).bind fun x7 =>
       some x7
      else
       some s3.1).bind fun (p8 : (List Int)) =>
     some (.inl (p8, w64 (s3.2 + 1)))
    else
     some (.inr s3.1)) ([], w64 (0 - a0.2.2.2.1))).bind fun (p9 : (List Int)) =>
  some (p9, 0)
def e_safety_PushesFrom : Entry := ⟨35, [.ty (.pair I (.pair I (.pair I gT))), .ty (.pair I gT)], [((.sl I), 1), (I, 0)], fun x => safety_PushesFrom x.1 x.2⟩
def j_safety_PushesFrom : TH := mkTH [([], 35, .block 0, { lv := [⟨none, 7, 0⟩], ps := [((.sl I), 1)], D := ⟨35184371042176⟩, wr := [⟨0, 9⟩], rs := [⟨0, 2⟩], Dn := ⟨35184368945024⟩ }),
 ([], 35, .loop 0, { lv := [⟨none, 7, 0⟩, ⟨none, 8, 0⟩], ps := [((.sl I), 1), (I, 0)], D := ⟨35184371042176⟩, wr := [⟨0, 9⟩], rs := [⟨0, 2⟩, ⟨0, 9⟩], Dn := ⟨35184368944512⟩ }),
 ([], 35, .cond 33, { lv := [⟨none, 10, 0⟩], ps := [(.bool, 0)], D := ⟨1082331759616⟩ }),
 ([], 35, .cond 40, { lv := [⟨none, 7, 0⟩], ps := [((.sl I), 1)], D := ⟨32985348833408⟩ })] []
theorem k_safety_PushesFrom : KT e_safety_PushesFrom j_safety_PushesFrom [e_safety_openMotion, e_safety_pushed, e_safety_stop] 40 := fun x => by kernel_rfl
theorem o_safety_PushesFrom : OT e_safety_PushesFrom := entK (tab_cons o_safety_openMotion (tab_cons o_safety_pushed (tab_cons o_safety_stop tab_nil))) hJ k_safety_PushesFrom
def base_Has (a0 : (List Int)) (a1 : Int) : Option Bool :=
 (loopO (fun (s2 : Int) =>
   bif decide (s2 < (a0.length : Int)) then
    (idx a0 s2).bind fun x3 =>
    bif decide (x3 = a1) then
     some (.inr (.inr true))
    else
     some (.inl (w64 (s2 + 1)))
   else
    some (.inr (.inl ()))) 0).bind (Sum.elim (fun (p4 : Unit) =>
 some false) some)
def e_base_Has : Entry := ⟨61, [.ty (.sl I), .ty I], [(.bool, 0)], fun x => base_Has x.1 x.2⟩
def j_base_Has : TH := mkTH [([], 61, .block 0, { lv := [], ps := [], abn := true, D := ⟨262112⟩ }),
 ([], 61, .loop 0, { lv := [⟨none, 5, 0⟩], ps := [(I, 0)], D := ⟨262112⟩ })] []
theorem k_base_Has : KT e_base_Has j_base_Has [] 40 := fun x => by kernel_rfl
theorem o_base_Has : OT e_base_Has := entK tab_nil hJ k_base_Has
def law09_SafetyAtRest (a0 : (Int × Int × Int × Int × Int × Unit)) (a1 : (Int × Int × Int × Unit)) (a2 : (List Int)) : Option Bool :=
 (law09_awake).bind fun x1 =>
 bif !x1 then
  some false
 else
  ((law09_motionErr a0 a1).bind fun x2 =>
   bif !(decide (x2 = 0)) then
    some true
   else
    bif decide (w64 (a0.2.1 - a0.1) > 40) then
     some true
    else
     some (decide ((a2.length : Int) > 100))).bind fun (p3 : Bool) =>
  bif p3 then
   some true
  else
   (safety_StopFrom a0 a1).bind fun x4 =>
   (safety_CanStop a0 a1).bind fun x5 =>
   (base_CopyInts a2).bind fun x6 =>
   (safety_CheckStop a0 a1 x6).bind fun x7 =>
   (bif !(decide (x5.2 = 0)) then
     some true
    else
     some (!(x5.1 == decide (x4.2 = 0)))).bind fun (p8 : Bool) =>
   bif p8 then
    some false
   else
    bif !(decide (x4.2 = 0)) then
     (bif decide (x4.2 = 12) then
       some (!(decide (x7.2 = 0)))
      else
       some false).bind fun (p9 : Bool) =>
     some p9
    else
     (bif decide (x7.2 = 0) then
       bif decide ((a2.length : Int) < (x4.1.length : Int)) then
        some true
       else
        bif decide ((x4.1.length : Int) > 20000) then
         some true
        else
         (ref09_IsRest a1).bind fun x10 =>
         some (!(decide ((x4.1.length : Int) = 0) == x10))
      else
       bif decide ((x4.1.length : Int) > 20000) then
        some true
       else
        (ref09_IsRest a1).bind fun x11 =>
        some (!(decide ((x4.1.length : Int) = 0) == x11))).bind fun (p12 : Bool) =>
     bif p12 then
      some false
     else
      (loopO (fun (s14 : (Int × Int × Int × Int)) =>
        bif decide (s14.1 < (x4.1.length : Int)) then
         ((idx x4.1 s14.1).bind fun x15 =>
          (ref09_Pushed a0 (s14.2.1, s14.2.2.1, s14.2.2.2, ()) x15).bind fun x16 =>
          bif !x16.2 then
           some (.inr (.inr (.inr false)))
          else
           bif decide (s14.1 >= 3) then
            some (.inl (x16.1.1, x16.1.2.1, x16.1.2.2.1))
           else
            (safety_StopFrom a0 x16.1).bind fun x17 =>
            (bif !(decide (x17.2 = 0)) then
              some true
             else
              let v18 : Bool := !(decide ((x17.1.length : Int) = w64 ((w64 ((x4.1.length : Int) - s14.1)) - 1)))
              some v18).bind fun (p19 : Bool) =>
            bif p19 then
             some (.inr (.inr (.inr false)))
            else
             some (.inl (x16.1.1, x16.1.2.1, x16.1.2.2.1))).bind (Sum.elim (fun (p20 : (Int × Int × Int)) =>
         some (.inl (w64 (s14.1 + 1), p20.1, p20.2.1, p20.2.2))) some)
        else
         some (.inr (.inl (s14.2.1, s14.2.2.1, s14.2.2.2)))) (0, a1.1, a1.2.1, a1.2.2.1)).bind (Sum.elim (fun (p21 : (Int × Int × Int)) =>
      (ref09_IsRest (p21.1, p21.2.1, p21.2.2, ())).bind fun x22 =>
      bif !x22 then
       some false
      else
       (bif decide ((x4.1.length : Int) <= 100) then
         (base_CopyInts x4.1).bind fun x23 =>
         (safety_CheckStop a0 a1 x23).bind fun x24 =>
         (bif !(decide (x24.2 = 0)) then
           some true
          else
           some (!(decide (x24.1 = p21.1)))).bind fun (p25 : Bool) =>
         bif p25 then
          some (.inr false)
         else
          some (.inl ())
        else
         some (.inl ())).bind (Sum.elim (fun (p26 : Unit) =>
       (safety_StopFrom (max (-60 : Int) (w64 (a0.1 - 2)), min (60 : Int) (w64 (a0.2.1 + 2)), min (8 : Int) (w64 (a0.2.2.1 + 1)), min (3 : Int) (w64 (a0.2.2.2.1 + 1)), min (6 : Int) (w64 (a0.2.2.2.2.1 + 1)), ()) a1).bind fun x27 =>
       (safety_PushesFrom a0 a1).bind fun x28 =>
       (bif !(decide (x27.2 = 0)) then
         some true
        else
         bif decide ((x27.1.length : Int) > (x4.1.length : Int)) then
          some true
         else
          bif !(decide (x28.2 = 0)) then
           some true
          else
           bif decide ((x4.1.length : Int) > 0) then
            (idx x4.1 0).bind fun x29 =>
            (base_Has x28.1 x29).bind fun x30 =>
            some (!x30)
           else
            some false).bind fun (p31 : Bool) =>
       bif p31 then
        some false
       else
        (loopO (fun (s34 : Int) =>
          bif decide (s34 < (x28.1.length : Int)) then
           (idx x28.1 s34).bind fun x35 =>
           (ref09_Pushed a0 a1 x35).bind fun x36 =>
           (bif !x36.2 then
             some true
            else
             bif decide (s34 > 0) then
              (idx x28.1 s34).bind fun x37 =>
              (idx x28.1 (w64 (s34 - 1))).bind fun x38 =>
              some (decide (x37 <= x38))
             else
              some false).bind fun (p39 : Bool) =>
           bif p39 then
            some (.inr (.inr false))
           else
            (safety_CanStop a0 x36.1).bind fun x40 =>
            (bif !(decide (x40.2 = 0)) then
              some true
             else
              some (!x40.1)).bind fun (p41 : Bool) =>
            bif p41 then
             some (.inr (.inr false))
            else
             some (.inl (w64 (s34 + 1)))
          else
           some (.inr (.inl ()))) 0).bind (Sum.elim (fun (p42 : Unit) =>
        some true) some)) some)) some)
def e_law09_SafetyAtRest : Entry := ⟨10, [.ty (.pair I (.pair I (.pair I gT))), .ty (.pair I gT), .ty (.sl I)], [(.bool, 0)], fun x => law09_SafetyAtRest x.1 x.2.1 x.2.2⟩
def j_law09_SafetyAtRest : TH := mkTH [([], 10, .region 3, { lv := [⟨none, 51, 0⟩], ps := [(.bool, 0)], D := ⟨4503591037435904⟩, rs := [⟨0, 3⟩], Dn := ⟨4496169333948416⟩ }),
 ([], 10, .region 8, { lv := [⟨none, 79, 0⟩], ps := [(.bool, 0)], D := ⟨1204203453131759529492480⟩ }),
 ([], 10, .region 11, { lv := [⟨none, 6, 0⟩], ps := [(.bool, 0)], D := ⟨304649306542886552025956416⟩ }),
 ([], 10, .region 12, { lv := [⟨none, 109, 0⟩], ps := [(.bool, 0)], D := ⟨1298073905148697085787555357523968⟩ }),
 ([], 10, .block 0, { lv := [⟨some 0, 13, 0⟩, ⟨some 0, 13, 1⟩, ⟨some 0, 13, 2⟩], ps := [(I, 0), (I, 0), (I, 0)], abn := true, D := ⟨1427247692703363732629018555635229888357056512⟩, wr := [⟨0, 13⟩, ⟨0, 15⟩] }),
 ([], 10, .loop 0, { lv := [⟨none, 14, 0⟩, ⟨some 0, 13, 0⟩, ⟨some 0, 13, 1⟩, ⟨some 0, 13, 2⟩], ps := [(I, 0), (I, 0), (I, 0), (I, 0)], D := ⟨1427247692703363732629018555635229888357056512⟩, wr := [⟨0, 13⟩, ⟨0, 15⟩], rs := [⟨0, 15⟩], Dn := ⟨1427247692703363732629018555635229888357023744⟩ }),
 ([], 10, .block 1, { lv := [⟨some 0, 13, 0⟩, ⟨some 0, 13, 1⟩, ⟨some 0, 13, 2⟩], ps := [(I, 0), (I, 0), (I, 0)], abn := true, D := ⟨1427247692539806381585171485336519253848195072⟩, wr := [⟨0, 13⟩, ⟨0, 15⟩], rs := [⟨0, 15⟩], Dn := ⟨1427247692539806381585171485336519253848162304⟩ }),
 ([], 10, .region 24, { lv := [⟨none, 149, 0⟩], ps := [(.bool, 0)], D := ⟨1426899243562232840071699473851485005734346752⟩ }),
 ([], 10, .cond 155, { lv := [], ps := [], abn := true, D := ⟨5986219362655045171529905344503850480821971201818624⟩, rs := [⟨0, 13⟩], Dn := ⟨5612074943498334024469762027328482027790052470816768⟩ }),
 ([], 10, .region 30, { lv := [⟨none, 171, 0⟩], ps := [(.bool, 0)], D := ⟨5962926680310083906271034117482434720196204775342080⟩, rs := [⟨0, 13⟩], Dn := ⟨5588782261153372759210890800307066267164286044340224⟩ }),
 ([], 10, .region 35, { lv := [⟨none, 233, 0⟩], ps := [(.bool, 0)], D := ⟨27606984975786115819437512910365806170466809642997579812255131062239232⟩ }),
 ([], 10, .block 2, { lv := [], ps := [], abn := true, D := ⟨1942668892225701463934074744568369167618957730950329716815923728192683635110398033920⟩, wr := [⟨0, 15⟩, ⟨0, 27⟩] }),
 ([], 10, .loop 2, { lv := [⟨none, 26, 0⟩], ps := [(I, 0)], D := ⟨1942668892225701463934074744568369167618957730950329716815923728192683635110398033920⟩, wr := [⟨0, 15⟩, ⟨0, 27⟩], rs := [⟨0, 27⟩], Dn := ⟨1942668892225701463934074744568369167618957730950329716815923728192683635110263816192⟩ }),
 ([], 10, .region 41, { lv := [⟨none, 267, 0⟩], ps := [(.bool, 0)], D := ⟨474282588264652803389393261298944909818433649846953349671805147571662055362527232⟩ }),
 ([], 10, .region 44, { lv := [⟨none, 279, 0⟩], ps := [(.bool, 0)], D := ⟨1912314690784702054186345314529401423726119232191949841232252840836733905748877115392⟩ })] []
theorem k_law09_SafetyAtRest : KT e_law09_SafetyAtRest j_law09_SafetyAtRest [e_base_CopyInts, e_base_Has, e_law09_awake, e_law09_motionErr, e_ref09_IsRest, e_ref09_Pushed, e_safety_CanStop, e_safety_CheckStop, e_safety_PushesFrom, e_safety_StopFrom] 40 := fun x => by kernel_rfl
theorem o_law09_SafetyAtRest : OT e_law09_SafetyAtRest := entK (tab_cons o_base_CopyInts (tab_cons o_base_Has (tab_cons o_law09_awake (tab_cons o_law09_motionErr (tab_cons o_ref09_IsRest (tab_cons o_ref09_Pushed (tab_cons o_safety_CanStop (tab_cons o_safety_CheckStop (tab_cons o_safety_PushesFrom (tab_cons o_safety_StopFrom tab_nil)))))))))) hJ k_law09_SafetyAtRest
end
end Go.Proofs.YtkcaaaiihhhnmaaGreat
end
section
namespace Go.Proofs.YtkcaaaiihhhnmaaGreat
open Go Go.Ab Go.Tx
theorem wit (n lo hi : Int) : safety_within n lo hi = some (decide (lo <= n /\ n <= hi)) := by
 unfold safety_within;by_cases h : lo <= n <;> by_cases h' : n <= hi <;> simp [h, h']
theorem Wit (n lo hi : Int) : base_Within n lo hi = some (decide (lo <= n /\ n <= hi)) := by
 unfold base_Within;by_cases h : lo <= n <;> by_cases h' : n <= hi <;> simp [h, h']
theorem wq {n : Int} (h1 : -9223372036854775808 <= n) (h2 : n <= 9223372036854775807) : w64 n = n := wrap_id h1 h2
theorem siz {n m : Int} (h : 0 <= m /\ m <= 4611686018427387904) : safety_isSized n m = some (decide (-m <= n /\ n <= m)) := by
 unfold safety_isSized;rw [wq (n := 0 - m) (by omega) (by omega), wit];simp
theorem unl (b : Bool) (e : Int) : safety_unless b e = some (if b then 0 else e) := by cases b <;> rfl
theorem fst_ (l : List Int) (h : l.length <= 1000000000) : safety_first l = some (fst0 l) := by
 unfold safety_first; exact for_first l h
abbrev Rg := Int × Int × Unit
def wOk (w : Rg) : Prop := (-1000000 <= w.1 /\ w.1 <= 1000000) /\ (1 <= w.2.1 /\ w.2.1 <= 8)
instance (w : Rg) : Decidable (wOk w) := by unfold wOk; infer_instance
def hF (m : Int) (x : Rg) : Int := if x.2.1 > m then 1 else 0
end Go.Proofs.YtkcaaaiihhhnmaaGreat
end
section
namespace Go.Proofs.YtkcaaaiihhhnmaaGreat
open Go Go.Ab Go.Tx
abbrev Lm := Int × Int × Int × Int × Int × Unit
abbrev Mo := Int × Int × Int × Unit
abbrev En := Int × Int × Int × Int × Unit
structure LimOk (x : Lm) : Prop where
 lo : -60 <= x.1 /\ x.1 <= 60
 hi : -60 <= x.2.1 /\ x.2.1 <= 60
 sp : 1 <= x.2.2.1 /\ x.2.2.1 <= 8
 pu : 1 <= x.2.2.2.1 /\ x.2.2.2.1 <= 3
 je : 1 <= x.2.2.2.2.1 /\ x.2.2.2.2.1 <= 6
theorem limOk_iff (x : Lm) : LimOk x ↔ (-60 <= x.1 /\ x.1 <= 60) /\ (-60 <= x.2.1 /\ x.2.1 <= 60) /\ (1 <= x.2.2.1 /\ x.2.2.1 <= 8) /\ (1 <= x.2.2.2.1 /\ x.2.2.2.1 <= 3) /\ (1 <= x.2.2.2.2.1 /\ x.2.2.2.2.1 <= 6) :=
 ⟨fun h => ⟨h.1, h.2, h.3, h.4, h.5⟩, fun h => ⟨h.1, h.2.1, h.2.2.1, h.2.2.2.1, h.2.2.2.2⟩⟩
instance (x : Lm) : Decidable (LimOk x) := decidable_of_iff _ (limOk_iff x).symm
def limE (x : Lm) : Int := if LimOk x then (if x.1 <= x.2.1 then 0 else 9) else 2
def MotOk (x : Lm) (s : Mo) : Prop := (x.1 <= s.1 /\ s.1 <= x.2.1) /\ (-x.2.2.1 <= s.2.1 /\ s.2.1 <= x.2.2.1) /\ (-x.2.2.2.1 <= s.2.2.1 /\ s.2.2.1 <= x.2.2.2.1)
instance (x : Lm) (s : Mo) : Decidable (MotOk x s) := by unfold MotOk; infer_instance
def motE (x : Lm) (s : Mo) : Int := if limE x = 0 then (if MotOk x s then 0 else 2) else limE x
theorem limE_zero {x : Lm} (h : limE x = 0) : LimOk x /\ x.1 <= x.2.1 := by
 unfold limE at h;split at h
 ·rename_i h1;split at h
  ·exact ⟨h1, by assumption⟩
  ·omega
 ·omega
theorem motE_zero {x : Lm} {s : Mo} (h : motE x s = 0) : limE x = 0 /\ MotOk x s := by
 unfold motE at h;split at h
 ·split at h
  ·exact ⟨by assumption, by assumption⟩
  ·omega
 ·rename_i h1; exact absurd h h1
theorem CheckLimits_eq (x : Lm) : safety_CheckLimits x = some (limE x) := by
 unfold safety_CheckLimits;rw [siz (by omega), siz (by omega)];simp only [wit, unl, Option.bind_some];have c : (bif decide (-60 <= x.1 /\ x.1 <= 60) then bif decide (-60 <= x.2.1 /\ x.2.1 <= 60) then bif decide (1 <= x.2.2.1 /\ x.2.2.1 <= 8) then bif decide (1 <= x.2.2.2.1 /\ x.2.2.2.1 <= 3) then some (decide (1 <= x.2.2.2.2.1 /\ x.2.2.2.2.1 <= 6)) else some false else some false else some false else some false) = some (decide (LimOk x)) := by
  simp only [limOk_iff];by_cases h1 : -60 <= x.1 /\ x.1 <= 60 <;> by_cases h2 : -60 <= x.2.1 /\ x.2.1 <= 60 <;> by_cases h3 : 1 <= x.2.2.1 /\ x.2.2.1 <= 8 <;> by_cases h4 : 1 <= x.2.2.2.1 /\ x.2.2.2.1 <= 3 <;> by_cases h5 : 1 <= x.2.2.2.2.1 /\ x.2.2.2.2.1 <= 6 <;> simp [h1, h2, h3, h4, h5]
 rw [c];simp only [Option.bind_some];rw [fst_ _ (by simp)];unfold limE;by_cases h : LimOk x <;> by_cases h' : x.1 <= x.2.1 <;> simp [h, h', fst0]
theorem LimitsErr_eq (x : Lm) : ref09_LimitsErr x = some (limE x) := by
 unfold ref09_LimitsErr;simp only [Wit, Option.bind_some];have c : (bif !decide (-60 <= x.1 /\ x.1 <= 60) then some true else bif !decide (-60 <= x.2.1 /\ x.2.1 <= 60) then some true else bif !decide (1 <= x.2.2.1 /\ x.2.2.1 <= 8) then some true else bif !decide (1 <= x.2.2.2.1 /\ x.2.2.2.1 <= 3) then some true else some (!decide (1 <= x.2.2.2.2.1 /\ x.2.2.2.2.1 <= 6))) = some (!decide (LimOk x)) := by
  simp only [limOk_iff];by_cases h1 : -60 <= x.1 /\ x.1 <= 60 <;> by_cases h2 : -60 <= x.2.1 /\ x.2.1 <= 60 <;> by_cases h3 : 1 <= x.2.2.1 /\ x.2.2.1 <= 8 <;> by_cases h4 : 1 <= x.2.2.2.1 /\ x.2.2.2.1 <= 3 <;> by_cases h5 : 1 <= x.2.2.2.2.1 /\ x.2.2.2.2.1 <= 6 <;> simp [h1, h2, h3, h4, h5]
 rw [c];simp only [Option.bind_some];unfold limE;by_cases h : LimOk x <;> by_cases h' : x.1 <= x.2.1
 ·have : ¬ x.1 > x.2.1 := by omega
  simp [h, h', this]
 ·have : x.1 > x.2.1 := by omega
  simp [h, h', this]
 ·simp [h]
 ·simp [h]
theorem siz_some (n m : Int) : ∃ b, safety_isSized n m = some b := ⟨_, by unfold safety_isSized; rw [wit]; rfl⟩
theorem openMotion_eq (x : Lm) (s : Mo) : safety_openMotion x s = some (motE x s) := by
 unfold safety_openMotion;simp only [wit, unl, Option.bind_some, CheckLimits_eq];obtain ⟨b1, e1⟩ := siz_some s.2.1 x.2.2.1;obtain ⟨b2, e2⟩ := siz_some s.2.2.1 x.2.2.2.1;by_cases h0 : limE x = 0
 ·obtain ⟨h, _⟩ := limE_zero h0;have := h.sp; have := h.pu;rw [siz (by omega), siz (by omega)];simp only [Option.bind_some];have c : (bif decide (x.1 <= s.1 /\ s.1 <= x.2.1) then bif decide (-x.2.2.1 <= s.2.1 /\ s.2.1 <= x.2.2.1) then some (decide (-x.2.2.2.1 <= s.2.2.1 /\ s.2.2.1 <= x.2.2.2.1)) else some false else some false) = some (decide (MotOk x s)) := by
   unfold MotOk;by_cases h1 : x.1 <= s.1 /\ s.1 <= x.2.1 <;> by_cases h2 : -x.2.2.1 <= s.2.1 /\ s.2.1 <= x.2.2.1 <;> by_cases h3 : -x.2.2.2.1 <= s.2.2.1 /\ s.2.2.1 <= x.2.2.2.1 <;> simp [h1, h2, h3]
  rw [c];simp only [Option.bind_some];rw [fst_ _ (by simp)];unfold motE;by_cases h : MotOk x s <;> simp [h, h0, fst0]
 ·rw [e1, e2];simp only [Option.bind_some];have c : ∃ b : Bool, (bif decide (x.1 <= s.1 /\ s.1 <= x.2.1) then bif b1 then some b2 else some false else some false) = some b := by
   by_cases h1 : x.1 <= s.1 /\ s.1 <= x.2.1
   ·rw [decide_eq_true h1];cases b1
    ·exact ⟨false, rfl⟩
    ·exact ⟨b2, rfl⟩
   ·rw [decide_eq_false h1]; exact ⟨false, rfl⟩
  obtain ⟨b, c⟩ := c;rw [c];simp only [Option.bind_some];rw [fst_ _ (by simp)];unfold motE;simp [h0, fst0]
theorem MotionErr_eq {x : Lm} (hx : LimOk x) (s : Mo) : ref09_MotionErr x s = some (if MotOk x s then 0 else 2) := by
 unfold ref09_MotionErr;have := hx.sp; have := hx.pu;simp only [Wit, Option.bind_some];rw [wq (n := 0 - x.2.2.1) (by omega) (by omega), wq (n := 0 - x.2.2.2.1) (by omega) (by omega)];have c : (bif !decide (x.1 <= s.1 /\ s.1 <= x.2.1) then some true else bif !decide (0 - x.2.2.1 <= s.2.1 /\ s.2.1 <= x.2.2.1) then some true else some (!decide (0 - x.2.2.2.1 <= s.2.2.1 /\ s.2.2.1 <= x.2.2.2.1))) = some (!decide (MotOk x s)) := by
  unfold MotOk;simp only [Int.zero_sub];by_cases h1 : x.1 <= s.1 /\ s.1 <= x.2.1 <;> by_cases h2 : -x.2.2.1 <= s.2.1 /\ s.2.1 <= x.2.2.1 <;> by_cases h3 : -x.2.2.2.1 <= s.2.2.1 /\ s.2.2.1 <= x.2.2.2.1 <;> simp [h1, h2, h3]
 rw [c];by_cases h : MotOk x s <;> simp [h]
theorem motionErr_eq (x : Lm) (s : Mo) : law09_motionErr x s = some (motE x s) := by
 unfold law09_motionErr;rw [LimitsErr_eq];simp only [Option.bind_some];unfold motE;by_cases h0 : limE x = 0
 ·rw [MotionErr_eq (limE_zero h0).1];simp [h0]
 ·simp [h0]
def nxt (s : Mo) (p : Int) : Mo := (s.1 + (s.2.1 + p), s.2.1 + p, p, ())
def pok (x : Lm) (s : Mo) (p : Int) : Prop := (-x.2.2.2.1 <= p /\ p <= x.2.2.2.1) /\ (-x.2.2.2.2.1 <= p - s.2.2.1 /\ p - s.2.2.1 <= x.2.2.2.2.1) /\ MotOk x (nxt s p)
instance (x : Lm) (s : Mo) (p : Int) : Decidable (pok x s p) := by unfold pok; infer_instance
theorem pushed_eq {x : Lm} (hx : LimOk x) {s : Mo} (hs : MotOk x s) (p : Int) : ∃ m, safety_pushed x s p = some (m, decide (pok x s p)) /\ (pok x s p -> m = nxt s p) := by
 unfold safety_pushed;have h1 := hx.sp; have h2 := hx.pu; have h3 := hx.je; have h4 := hx.lo; have h5 := hx.hi;obtain ⟨⟨s1, s2⟩, ⟨s3, s4⟩, s5, s6⟩ := hs;rw [siz (by omega)];simp only [Option.bind_some];by_cases hp : -x.2.2.2.1 <= p /\ p <= x.2.2.2.1
 ·simp only [hp, and_self, decide_true, Bool.not_true, cond_false];rw [wq (n := p - s.2.2.1) (by omega) (by omega), siz (by omega)];simp only [Option.bind_some];by_cases hj : -x.2.2.2.2.1 <= p - s.2.2.1 /\ p - s.2.2.1 <= x.2.2.2.2.1
  ·simp only [hj, and_self, decide_true, Bool.not_true, cond_false];rw [wq (n := s.2.1 + p) (by omega) (by omega), wq (n := s.1 + (s.2.1 + p)) (by omega) (by omega), siz (by omega)];simp only [Option.bind_some, wit];by_cases ha : -x.2.2.1 <= s.2.1 + p /\ s.2.1 + p <= x.2.2.1
   ·simp only [ha, and_self, decide_true, cond_true, Option.bind_some];refine ⟨_, ?_, fun _ => rfl⟩;congr 2
    apply decide_eq_decide.2;unfold pok MotOk nxt;simp only
    exact ⟨fun h => ⟨hp, hj, h, ha, hp⟩, fun h => h.2.2.1⟩
   ·simp only [ha, decide_false, cond_false, Option.bind_some];have hn : ¬ pok x s p := fun h => ha h.2.2.2.1;rw [decide_eq_false hn]; exact ⟨_, rfl, fun h => absurd h hn⟩
  ·simp only [hj, decide_false, Bool.not_false, cond_true, Option.bind_some];have hn : ¬ pok x s p := fun h => hj h.2.1;rw [decide_eq_false hn]; exact ⟨_, rfl, fun h => absurd h hn⟩
 ·simp only [hp, decide_false, Bool.not_false, cond_true, Option.bind_some];have hn : ¬ pok x s p := fun h => hp h.1;rw [decide_eq_false hn]; exact ⟨_, rfl, fun h => absurd h hn⟩
theorem Pushed_eq {x : Lm} (hx : LimOk x) {s : Mo} (hs : MotOk x s) (p : Int) : ref09_Pushed x s p = some (if pok x s p then (nxt s p, true) else ((0, 0, 0, ()), false)) := by
 unfold ref09_Pushed;have h1 := hx.sp; have h2 := hx.pu; have h3 := hx.je; have h4 := hx.lo; have h5 := hx.hi;obtain ⟨⟨s1, s2⟩, ⟨s3, s4⟩, s5, s6⟩ := hs;rw [wq (n := 0 - x.2.2.2.1) (by omega) (by omega)];simp only [Wit, Option.bind_some];by_cases hp : -x.2.2.2.1 <= p /\ p <= x.2.2.2.1
 ·have hp0 : 0 - x.2.2.2.1 <= p /\ p <= x.2.2.2.1 := by omega
  simp only [hp0, and_self, decide_true, Bool.not_true, cond_false];rw [wq (n := s.2.2.1 - x.2.2.2.2.1) (by omega) (by omega), wq (n := s.2.2.1 + x.2.2.2.2.1) (by omega) (by omega)];by_cases hj : -x.2.2.2.2.1 <= p - s.2.2.1 /\ p - s.2.2.1 <= x.2.2.2.2.1
  ·have hj0 : s.2.2.1 - x.2.2.2.2.1 <= p /\ p <= s.2.2.1 + x.2.2.2.2.1 := by omega
   simp only [hj0, and_self, decide_true, Bool.not_true, Option.bind_some, cond_false];rw [wq (n := s.2.1 + p) (by omega) (by omega), wq (n := s.1 + (s.2.1 + p)) (by omega) (by omega), MotionErr_eq hx];simp only [Option.bind_some];by_cases hm : MotOk x (nxt s p)
   ·have hn : pok x s p := ⟨hp, hj, hm⟩
    rw [if_pos hn, show (s.1 + (s.2.1 + p), s.2.1 + p, p, ()) = nxt s p from rfl, if_pos hm];simp
   ·have hn : ¬ pok x s p := fun h => hm h.2.2;rw [if_neg hn, show (s.1 + (s.2.1 + p), s.2.1 + p, p, ()) = nxt s p from rfl, if_neg hm];simp
  ·have hj0 : ¬ (s.2.2.1 - x.2.2.2.2.1 <= p /\ p <= s.2.2.1 + x.2.2.2.2.1) := by omega
   have hn : ¬ pok x s p := fun h => hj h.2.1;simp [hj0, hn]
 ·have hp0 : ¬ (0 - x.2.2.2.1 <= p /\ p <= x.2.2.2.1) := by omega
  have hn : ¬ pok x s p := fun h => hp h.1;simp only [decide_eq_false hp0, Bool.not_false, cond_true, Option.bind_some, if_neg hn]
def mot (e : En) : Mo := (e.1, e.2.1, e.2.2.1, ())
def isRest (m : Mo) : Prop := m.2.1 = 0 /\ m.2.2.1 = 0
instance (m : Mo) : Decidable (isRest m) := by unfold isRest; infer_instance
theorem atRest_eq (m : Mo) : safety_atRest m = some (decide (isRest m)) := by
 unfold safety_atRest isRest;by_cases h : m.2.1 = 0 <;> by_cases h' : m.2.2.1 = 0 <;> simp [h, h']
theorem IsRest_eq (m : Mo) : ref09_IsRest m = some (decide (isRest m)) := by
 unfold ref09_IsRest isRest;by_cases h : m.2.1 = 0 <;> by_cases h' : m.2.2.1 = 0 <;> simp [h, h']
def enOf (m : Mo) (k : Int) : En := (m.1, m.2.1, m.2.2.1, k, ())
theorem mot_enOf (m : Mo) (k : Int) : mot (enOf m k) = m := rfl
def addP (x : Lm) (m : Mo) (k : Int) (all : List En) (p : Int) : List En := if pok x m p /\ nxt m p ∉ all.map mot then all ++ [enOf (nxt m p) k] else all
def pushL (P : Int) : List Int := mkL (2 * P + 1).toNat fun j => (j : Int) - P
def expand (x : Lm) (m : Mo) (k : Int) (all : List En) : List En := (pushL x.2.2.2.1).foldl (addP x m k) all
def RR (x : Lm) (s : Mo) : Nat -> Option (List En)
 | 0 => some [enOf s (-1)]
 | i + 1 => (RR x s i).bind fun all => match all[i]? with
  | some e => if isRest (mot e) then none else some (expand x (mot e) i all)
  | none => none
inductive Pth (all : List En) : Nat -> List Int -> Prop
 | nil {k : Nat} {e : En} : all[k]? = some e -> e.2.2.2.1 < 0 -> Pth all k []
 | snoc {k : Nat} {e : En} {l : List Int} : all[k]? = some e -> 0 <= e.2.2.2.1 -> Pth all e.2.2.2.1.toNat l -> Pth all k (l ++ [e.2.2.1])
theorem Pth.uniq {all : List En} {k : Nat} {l l' : List Int} (h : Pth all k l) (h' : Pth all k l') : l = l' := by
 induction h generalizing l' with
 | nil h1 h2 =>
  cases h' with
  | nil => rfl
  | snoc h3 h4 h5 => rw [h1] at h3; cases h3; omega
 | snoc h1 h2 _ ih =>
  cases h' with
  | nil h3 h4 => rw [h1] at h3; cases h3; omega
  | snoc h3 h4 h5 => rw [h1] at h3; cases h3; rw [ih h5]
def Res (x : Lm) (s : Mo) (r : List Int × Bool) : Prop :=
 (∃ i all e l, RR x s i = some all /\ all[i]? = some e /\ isRest (mot e) /\ Pth all i l /\ r = (l, true)) \/ (∃ i all, RR x s i = some all /\ all[i]? = none /\ r = ([], false))
theorem RR_le {x : Lm} {s : Mo} : ∀ {j i : Nat}, i <= j -> (RR x s j).isSome = true -> (RR x s i).isSome = true
 | 0, i, h, hj => by
           have : i = 0 := by omega
           subst this; exact hj
 | j + 1, i, h, hj => by
  by_cases e : i = j + 1
  ·subst e; exact hj
  ·refine RR_le (j := j) (by omega) ?_;simp only [RR] at hj;cases hh : RR x s j with
   | none => rw [hh] at hj; simp at hj
   | some _ => rfl
theorem Res.uniq {x : Lm} {s : Mo} {r r' : List Int × Bool} (h : Res x s r) (h' : Res x s r') : r = r' := by
 have fin : ∀ {r}, Res x s r -> ∃ i all, RR x s i = some all /\ RR x s (i + 1) = none /\ ((∃ e l, all[i]? = some e /\ isRest (mot e) /\ Pth all i l /\ r = (l, true)) \/ (all[i]? = none /\ r = ([], false))) := by
  intro r h;rcases h with ⟨i, all, e, l, h1, h2, h3, h4, h5⟩ | ⟨i, all, h1, h2, h3⟩
  ·exact ⟨i, all, h1, by simp [RR, h1, h2, h3], .inl ⟨e, l, h2, h3, h4, h5⟩⟩
  ·exact ⟨i, all, h1, by simp [RR, h1, h2], .inr ⟨h2, h3⟩⟩
 obtain ⟨i, all, h1, h2, h3⟩ := fin h;obtain ⟨i', all', h1', h2', h3'⟩ := fin h';have e : i = i' := by
  rcases Nat.lt_trichotomy i i' with hlt | rfl | hlt
  ·have := RR_le (x := x) (s := s) (j := i') (i := i + 1) (by omega) (by rw [h1']; rfl);rw [h2] at this; cases this
  ·rfl
  ·have := RR_le (x := x) (s := s) (j := i) (i := i' + 1) (by omega) (by rw [h1]; rfl);rw [h2'] at this; cases this
 subst e;rw [h1] at h1'; cases h1';rcases h3 with ⟨e, l, a1, a2, a3, rfl⟩ | ⟨a1, rfl⟩ <;> rcases h3' with ⟨e', l', b1, b2, b3, rfl⟩ | ⟨b1, rfl⟩
 ·rw [a3.uniq b3]
 ·rw [a1] at b1; cases b1
 ·rw [a1] at b1; cases b1
 ·rfl
structure Good (x : Lm) (all : List En) : Prop where
 nd : (all.map mot).Nodup
 ok : ∀ e ∈ all, MotOk x (mot e)
 bef : ∀ (k : Nat) e, all[k]? = some e -> e.2.2.2.1 < k /\ -1 <= e.2.2.2.1
 pos : 0 < all.length
theorem addP_good {x : Lm} {m : Mo} {k : Nat} {all : List En} (h : Good x all) (hk : k < all.length) (p : Int) : Good x (addP x m k all p) /\ all.length <= (addP x m k all p).length /\ ∀ i, i < all.length -> (addP x m k all p)[i]? = all[i]? := by
 unfold addP;split
 ·rename_i hc;refine ⟨⟨?_, fun e he => ?_, fun j e he => ?_, by simp⟩, by simp, fun i hi => List.getElem?_append_left hi⟩
  ·rw [List.map_append, List.nodup_append];refine ⟨h.nd, by simp, fun a ha b hb => ?_⟩;simp only [List.map_cons, List.map_nil, mot_enOf, List.mem_singleton] at hb;rintro rfl;exact hc.2 (hb ▸ ha)
  ·rcases List.mem_append.1 he with he | he
   ·exact h.ok e he
   ·rw [List.mem_singleton] at he; subst he;exact hc.1.2.2
  ·by_cases hj : j < all.length
   ·rw [List.getElem?_append_left hj] at he; exact h.bef j e he
   ·rw [List.getElem?_append_right (by omega)] at he;have h0 : j - all.length = 0 := by
     have := (List.getElem?_eq_some_iff.1 he).1;simp at this; omega
    rw [h0] at he;simp at he; subst he;simp only [enOf] <;> omega
 ·exact ⟨h, Nat.le_refl _, fun _ _ => rfl⟩
theorem addPs_good {x : Lm} {m : Mo} {k : Nat} : ∀ (ps : List Int) {all : List En}, Good x all -> k < all.length -> Good x (ps.foldl (addP x m k) all) /\ all.length <= (ps.foldl (addP x m k) all).length /\ ∀ i, i < all.length -> (ps.foldl (addP x m k) all)[i]? = all[i]?
 | [], all, h, hk => ⟨h, Nat.le_refl _, fun _ _ => rfl⟩
 | p :: ps, all, h, hk => by
  obtain ⟨h1, h2, h3⟩ := addP_good (m := m) h hk p;obtain ⟨h4, h5, h6⟩ := addPs_good (m := m) (k := k) ps h1 (by omega);exact ⟨h4, by simp only [List.foldl_cons]; omega, fun i hi => by simp only [List.foldl_cons]; rw [h6 i (by omega), h3 i hi]⟩
theorem RR_good {x : Lm} {s : Mo} (hs : MotOk x s) : ∀ {i : Nat} {all : List En}, RR x s i = some all -> Good x all /\ i <= all.length
 | 0, all, h => by
  simp only [RR, Option.some.injEq] at h; subst h;refine ⟨⟨by simp, fun e he => ?_, fun k e he => ?_, by simp⟩, by simp⟩
  ·simp only [List.mem_singleton] at he; subst he; exact hs
  ·have h0 : k = 0 := by
    have := (List.getElem?_eq_some_iff.1 he).1;simp at this; omega
   subst h0;simp at he; subst he;simp [enOf]
 | i + 1, all, h => by
  simp only [RR] at h;obtain ⟨a0, h1, h2⟩ := Option.bind_eq_some_iff.1 h;obtain ⟨hg, hi⟩ := RR_good hs h1;split at h2
  ·rename_i e he;split at h2
   ·cases h2
   ·simp only [Option.some.injEq] at h2; subst h2;have hlt := len_lt he;obtain ⟨g1, g2, _⟩ := addPs_good (m := mot e) (pushL x.2.2.2.1) hg hlt;exact ⟨g1, by unfold expand; omega⟩
  ·cases h2
theorem dm_uniq {a b a' b' B : Int} (h1 : 0 <= b /\ b < B) (h2 : 0 <= b' /\ b' < B) (h : a * B + b = a' * B + b') : a = a' /\ b = b' := by
 have e1 : (a * B + b) / B = a := by rw [Int.add_comm, Int.add_mul_ediv_right _ _ (by omega), Int.ediv_eq_zero_of_lt h1.1 h1.2]; omega
 have e2 : (a' * B + b') / B = a' := by rw [Int.add_comm, Int.add_mul_ediv_right _ _ (by omega), Int.ediv_eq_zero_of_lt h2.1 h2.2]; omega
 have : a = a' := by rw [<- e1, h, e2]
 subst this;exact ⟨rfl, by omega⟩
theorem dm_lt {a b A B : Int} (h1 : 0 <= a /\ a < A) (h2 : 0 <= b /\ b < B) : 0 <= a * B + b /\ a * B + b < A * B := by
 have h3 : 0 <= a * B := Int.mul_nonneg h1.1 (by omega);have h4 : (a + 1) * B <= A * B := Int.mul_le_mul_of_nonneg_right (by omega) (by omega);have h5 : (a + 1) * B = a * B + B := by rw [Int.add_mul]; omega
 omega
def cellZ (x : Lm) (m : Mo) : Int := ((m.1 - x.1) * (2 * x.2.2.1 + 1) + (m.2.1 + x.2.2.1)) * (2 * x.2.2.2.1 + 1) + (m.2.2.1 + x.2.2.2.1)
def NN (x : Lm) : Int := (x.2.1 - x.1 + 1) * (2 * x.2.2.1 + 1) * (2 * x.2.2.2.1 + 1)
theorem cellZ_lt {x : Lm} {m : Mo} (h : MotOk x m) : 0 <= cellZ x m /\ cellZ x m < NN x := by
 obtain ⟨h1, h2, h3⟩ := h;exact dm_lt (dm_lt (by omega) (by omega)) (by omega)
theorem cellZ_inj {x : Lm} {m m' : Mo} (h : MotOk x m) (h' : MotOk x m') (e : cellZ x m = cellZ x m') : m = m' := by
 obtain ⟨h1, h2, h3⟩ := h;obtain ⟨h1', h2', h3'⟩ := h';obtain ⟨e1, e2⟩ := dm_uniq (by omega) (by omega) e;obtain ⟨e3, e4⟩ := dm_uniq (by omega) (by omega) e1;obtain ⟨a, b, c, ⟨⟩⟩ := m;obtain ⟨a', b', c', ⟨⟩⟩ := m';simp only at e2 e3 e4;have : a = a' := by omega
 have : b = b' := by omega
 have : c = c' := by omega
 subst_vars; rfl
theorem NN_le {x : Lm} (h : LimOk x) (h2 : x.1 <= x.2.1) : 0 < NN x /\ NN x <= 14399 := by
 have := h.lo; have := h.hi; have := h.sp; have := h.pu;unfold NN;have a1 : (x.2.1 - x.1 + 1) * (2 * x.2.2.1 + 1) <= 121 * (2 * x.2.2.1 + 1) := Int.mul_le_mul_of_nonneg_right (by omega) (by omega);have a2 : (x.2.1 - x.1 + 1) * (2 * x.2.2.1 + 1) <= 2057 := by omega
 have a3 : 0 < (x.2.1 - x.1 + 1) * (2 * x.2.2.1 + 1) := Int.mul_pos (by omega) (by omega);have a4 : (x.2.1 - x.1 + 1) * (2 * x.2.2.1 + 1) * (2 * x.2.2.2.1 + 1) <= 2057 * (2 * x.2.2.2.1 + 1) := Int.mul_le_mul_of_nonneg_right a2 (by omega);exact ⟨Int.mul_pos a3 (by omega), by omega⟩
theorem nodup_lt : ∀ (N : Nat) (l : List Nat), l.Nodup -> (∀ a ∈ l, a < N) -> l.length <= N
 | 0, l, _, h => by
  cases l with
  | nil => simp
  | cons a l => exact absurd (h a (by simp)) (by omega)
 | N + 1, l, hd, h => by
  have h1 := nodup_lt N (l.filter fun a => decide (a ≠ N)) (hd.filter _) (fun a ha => by
   simp only [List.mem_filter, decide_eq_true_eq] at ha;have := h a ha.1; omega)
  have h2 : (l.filter fun a => !decide (a ≠ N)).length <= 1 := by
   have hn : (l.filter fun a => !decide (a ≠ N)).Nodup := hd.filter _
   match hl : l.filter fun a => !decide (a ≠ N) with
   | [] => simp
   | [a] => simp
   | a :: b :: t =>
    exfalso
    have ha : a ∈ l.filter fun a => !decide (a ≠ N) := by rw [hl]; simp
    have hb : b ∈ l.filter fun a => !decide (a ≠ N) := by rw [hl]; simp
    simp only [List.mem_filter, Bool.not_eq_true', decide_eq_false_iff_not, Decidable.not_not] at ha hb;rw [hl] at hn;have : a ≠ b := by
     have := (List.nodup_cons.1 hn).1;simp only [List.mem_cons, not_or] at this; exact this.1
    exact this (by rw [ha.2, hb.2])
  have h3 : l.length = (l.filter fun a => decide (a ≠ N)).length + (l.filter fun a => !decide (a ≠ N)).length := by
   clear h h1 h2 hd;induction l with
   | nil => rfl
   | cons a l ih =>
    by_cases e : a = N
    ·simp [e, List.filter_cons] at ih ⊢; omega
    ·simp [e, List.filter_cons] at ih ⊢; omega
  omega
theorem good_len {x : Lm} {all : List En} (hx : LimOk x) (h2 : x.1 <= x.2.1) (h : Good x all) : all.length <= 14399 := by
 have hN := NN_le hx h2;have := nodup_lt (NN x).toNat ((all.map mot).map fun m => (cellZ x m).toNat) (by
   have hnd : List.Pairwise (fun a b => a ≠ b) (all.map mot) := h.nd;show List.Pairwise (fun a b => a ≠ b) _;rw [List.pairwise_map];refine List.Pairwise.imp_of_mem ?_ hnd;intro a b ha hb hne e;obtain ⟨ea, ka, rfl⟩ := List.mem_map.1 ha;obtain ⟨eb, kb, rfl⟩ := List.mem_map.1 hb;have q1 := cellZ_lt (h.ok ea ka);have q2 := cellZ_lt (h.ok eb kb);exact hne (cellZ_inj (h.ok ea ka) (h.ok eb kb) (by omega)))
  (fun a ha => by
   obtain ⟨m, hm, rfl⟩ := List.mem_map.1 ha;obtain ⟨e, he, rfl⟩ := List.mem_map.1 hm;have := cellZ_lt (h.ok e he); omega)
 simp only [List.length_map] at this;omega
end Go.Proofs.YtkcaaaiihhhnmaaGreat
end
section
namespace Go.Proofs.YtkcaaaiihhhnmaaGreat
open Go Go.Ab Go.Tx
theorem memM (l : List Mo) (m : Mo) : memK (.pair I (.pair I (.pair I .unit))) l m = decide (m ∈ l) := by
 have := memK_iff (τ := .pair I (.pair I (.pair I .unit))) rfl (l := l) (k := m);by_cases h : m ∈ l
 ·rw [decide_eq_true h]; exact this.2 h
 ·rw [decide_eq_false h];cases hm : memK (.pair I (.pair I (.pair I .unit))) l m with
  | false => rfl
  | true => exact absurd (this.1 hm) h
theorem insM (l : List Mo) (m k : Mo) : m ∈ insK (.pair I (.pair I (.pair I .unit))) l k ↔ m ∈ l \/ m = k := by
 unfold insK;rw [memM];by_cases h : k ∈ l
 ·rw [decide_eq_true h];exact ⟨fun h => .inl h, fun h' => h'.elim id fun e => e ▸ h⟩
 ·rw [decide_eq_false h];show m ∈ l ++ [k] ↔ _;simp
theorem back_ok {all : List En} (hb : ∀ (k : Nat) e, all[k]? = some e -> e.2.2.2.1 < k /\ -1 <= e.2.2.2.1) (hl : all.length <= 14399) {i : Nat} (hi : i < all.length) :
  Ok (loopO (fun (s7 : ((List Int) × Int)) =>
       (idx all s7.2).bind fun x8 =>
       bif decide (x8.2.2.2.1 >= 0) then
        (idx all s7.2).bind fun x9 =>
        (app s7.1 ([x9.2.2.1])).bind fun x10 =>
        (idx all s7.2).bind fun x11 =>
        some (.inl (x10, x11.2.2.2.1))
       else
        some (.inr s7.1)) ([], (i : Int))) fun l => Pth all i l.reverse /\ l.length <= i := by
 refine loop_wf (fun st => st.2.toNat) (fun (st : List Int × Int) => ∃ k : Nat, st.2 = (k : Int) /\ st.1.length + k <= i /\ ∀ l', Pth all k l' -> Pth all i (l' ++ st.1.reverse)) _ ⟨i, rfl, by simp, by simp⟩ ?_;rintro ⟨l, k0⟩ ⟨k, e1, e2, e3⟩;simp only at e1 e2 e3;subst e1;obtain ⟨e, he⟩ : ∃ e, all[k]? = some e := ⟨_, List.getElem?_eq_getElem (by omega)⟩
 have hbe := hb k e he;rw [idx_of he];simp only [Option.bind_some];by_cases h : e.2.2.2.1 >= 0
 ·simp only [h, decide_true, cond_true];rw [app_one (by omega)];simp only [Option.bind_some];rw [rnd_inl];refine ⟨⟨e.2.2.2.1.toNat, by simp only; omega, by simp only [List.length_append, List.length_singleton]; omega, fun l' hl' => ?_⟩, by simp only; omega⟩;have := e3 _ (Pth.snoc he h hl');simp only [List.reverse_append, List.reverse_cons, List.reverse_nil, List.nil_append];rw [<- List.append_assoc]; exact this
 ·simp only [h, decide_false, cond_false];rw [rnd_inr];have := e3 _ (Pth.nil he (by omega));exact ⟨this, by omega⟩
theorem pushL_len (P : Int) : (pushL P).length = (2 * P + 1).toNat := mkL_len _ _
theorem pushL_next {P : Int} {j : Nat} (h : j < (2 * P + 1).toNat) : (pushL P).take (j + 1) = (pushL P).take j ++ [(j : Int) - P] := by
 rw [take_next 0 (by rw [pushL_len]; exact h)];unfold pushL;rw [mkL_getD _ _ h]
theorem grow_ok {x : Lm} (hx : LimOk x) (h2 : x.1 <= x.2.1) {all : List En} (hg : Good x all) {i : Nat} {e : En} (he : all[i]? = some e) {kn : List Mo} (hk : ∀ m, m ∈ kn ↔ m ∈ all.map mot) :
  Ok (loopO (fun (s15 : ((List (Int × Int × Int × Int × Unit)) × Int × (List (Int × Int × Int × Unit)))) =>
       bif decide (s15.2.1 <= x.2.2.2.1) then
        (idx s15.1 (i : Int)).bind fun x16 =>
        (safety_pushed x (x16.1, x16.2.1, x16.2.2.1, ()) s15.2.1).bind fun x17 =>
        (bif x17.2 then
          some (!(memK (.pair I (.pair I (.pair I .unit))) s15.2.2 x17.1))
         else
          some false).bind fun (p18 : Bool) =>
        (bif p18 then
          (app s15.1 ([(x17.1.1, x17.1.2.1, x17.1.2.2.1, (i : Int), ())])).bind fun x19 =>
          some (x19, insK (.pair I (.pair I (.pair I .unit))) s15.2.2 x17.1)
         else
          some (s15.1, s15.2.2)).bind fun (p20 : ((List (Int × Int × Int × Int × Unit)) × (List (Int × Int × Int × Unit)))) =>
        some (.inl (p20.1, w64 (s15.2.1 + 1), p20.2))
       else
        some (.inr (s15.1, s15.2.2))) (all, w64 (0 - x.2.2.2.1), kn)) fun r => r.1 = expand x (mot e) i all /\ ∀ m, m ∈ r.2 ↔ m ∈ r.1.map mot := by
 have hp := hx.pu;have hlt := len_lt he;rw [wq (by omega) (by omega)];refine loop_up (2 * x.2.2.2.1 + 1).toNat (fun j (st : List En × Int × List Mo) => st.2.1 = (j : Int) - x.2.2.2.1 /\ st.1 = ((pushL x.2.2.2.1).take j).foldl (addP x (mot e) i) all /\ ∀ m, m ∈ st.2.2 ↔ m ∈ st.1.map mot) _ ⟨by simp, rfl, hk⟩ ?_;rintro j ⟨a, p, kn'⟩ hj ⟨e1, e2, e3⟩;simp only at e1 e2 e3;obtain ⟨g1, g2, g3⟩ := addPs_good (m := mot e) (k := i) ((pushL x.2.2.2.1).take j) hg hlt;rw [<- e2] at g1 g2 g3;have hal := good_len hx h2 g1;have hm : MotOk x (mot e) := hg.ok e (List.mem_of_getElem? he);by_cases hlt2 : j < (2 * x.2.2.2.1 + 1).toNat
 ·have h0 : decide (p <= x.2.2.2.1) = true := by simp <;> omega
  simp only [h0, cond_true];rw [idx_of (by rw [g3 i hlt]; exact he)];simp only [Option.bind_some];obtain ⟨mm, q1, q2⟩ := pushed_eq hx hm p;have q1' : safety_pushed x (e.1, e.2.1, e.2.2.1, ()) p = some (mm, decide (pok x (mot e) p)) := q1;rw [q1'];simp only [Option.bind_some];have hnext : ((pushL x.2.2.2.1).take (j + 1)).foldl (addP x (mot e) i) all = addP x (mot e) i a p := by
   rw [pushL_next hlt2, List.foldl_append, <- e2, <- e1]; rfl
  by_cases hpk : pok x (mot e) p
  ·have := q2 hpk;subst this;rw [decide_eq_true hpk];simp only [cond_true, Option.bind_some, memM];by_cases hin : nxt (mot e) p ∈ kn'
   ·rw [decide_eq_true hin];simp only [Bool.not_true, cond_false, Option.bind_some];rw [rnd_inl];refine ⟨hlt2, ?_, ?_, e3⟩
    ·simp only; rw [wq (by omega) (by omega)]; omega
    ·simp only; rw [hnext]; unfold addP
     rw [if_neg (fun h => h.2 ((e3 _).1 hin))]
   ·rw [decide_eq_false hin];simp only [Bool.not_false, cond_true];rw [app_one (by omega)];simp only [Option.bind_some];rw [rnd_inl];have hq : addP x (mot e) i a p = a ++ [enOf (nxt (mot e) p) i] := by
     unfold addP;rw [if_pos ⟨hpk, fun h => hin ((e3 _).2 h)⟩]
    refine ⟨hlt2, ?_, ?_, fun m => ?_⟩
    ·simp only; rw [wq (by omega) (by omega)]; omega
    ·simp only; rw [hnext, hq]; rfl
    ·simp only
     rw [insM, e3];show _ ↔ m ∈ (a ++ [enOf (nxt (mot e) p) i]).map mot;rw [List.map_append, List.mem_append];simp only [List.map_cons, List.map_nil, mot_enOf, List.mem_singleton]
  ·rw [decide_eq_false hpk];simp only [cond_false, Option.bind_some];rw [rnd_inl];refine ⟨hlt2, ?_, ?_, e3⟩
   ·simp only; rw [wq (by omega) (by omega)]; omega
   ·simp only; rw [hnext]; unfold addP
    rw [if_neg (fun h => hpk h.1)]
 ·have hjn : j = (2 * x.2.2.2.1 + 1).toNat := by omega
  have h0 : decide (p <= x.2.2.2.1) = false := by simp <;> omega
  simp only [h0, cond_false];rw [rnd_inr];refine ⟨?_, e3⟩;simp only
  rw [e2, List.take_of_length_le (by rw [pushL_len]; omega)]; rfl
theorem stop_ok {x : Lm} (hx : LimOk x) (h2 : x.1 <= x.2.1) {s : Mo} (hs : MotOk x s) : Ok (safety_stop x s) (Res x s) := by
 unfold safety_stop;rw [ok_elim];refine (loop_wf (fun st => 14400 - st.2.1.toNat) (fun (st : List En × Int × List Mo) => ∃ i : Nat, st.2.1 = i /\ RR x s i = some st.1 /\ ∀ m, m ∈ st.2.2 ↔ m ∈ st.1.map mot)
  (fun r : Unit ⊕ (List Int × Bool) => match r with
   | .inl _ => Res x s ([], false)
   | .inr q => Res x s q) ⟨0, rfl, rfl, fun m => ?_⟩ ?_).mono ?_
 ·simp only
  rw [insM];show m ∈ [] \/ m = s ↔ m ∈ [s];simp
 ·rintro ⟨all, i0, kn⟩ ⟨i, e1, e2, e3⟩;simp only at e1 e2 e3;subst e1;obtain ⟨hg, hi⟩ := RR_good hs e2;have hlen := good_len hx h2 hg;by_cases hlt : i < all.length
  ·have h0 : decide ((i : Int) < (all.length : Int)) = true := by simp <;> omega
   obtain ⟨e, he⟩ : ∃ e, all[i]? = some e := ⟨_, List.getElem?_eq_getElem hlt⟩
   simp only [h0, cond_true];rw [idx_of he];simp only [Option.bind_some, atRest_eq];by_cases hr : isRest (mot e)
   ·have hr' : decide (isRest (e.1, e.2.1, e.2.2.1, ())) = true := decide_eq_true hr;simp only [hr', cond_true];rw [rnd_bind];refine (back_ok hg.bef hlen hlt).mono ?_;rintro l ⟨hl, hll⟩;unfold revO;rw [if_pos (by omega)];simp only [Option.bind_some];rw [rnd_inr];exact .inl ⟨i, all, e, _, e2, he, hr, hl, rfl⟩
   ·have hr' : decide (isRest (e.1, e.2.1, e.2.2.1, ())) = false := decide_eq_false hr;simp only [hr', cond_false];rw [rnd_bind];refine (grow_ok hx h2 hg he e3).mono ?_;rintro ⟨a, kn'⟩ ⟨ha, hkn⟩;simp only at ha hkn;rw [rnd_inl];refine ⟨⟨i + 1, ?_, ?_, hkn⟩, ?_⟩
    ·simp only; rw [wq (by omega) (by omega)]; omega
    ·simp only [RR, e2, Option.bind_some, he, hr, if_false]; rw [ha]
    ·simp only; rw [wq (by omega) (by omega)]; omega
  ·have h0 : decide ((i : Int) < (all.length : Int)) = false := by simp <;> omega
   simp only [h0, cond_false];rw [rnd_inr];exact .inr ⟨i, all, e2, List.getElem?_eq_none (by omega), rfl⟩
 ·intro r hr;cases r with
  | inl _ => simp only [ok_some]; exact hr
  | inr q => exact hr
theorem cell_eq {x : Lm} (hx : LimOk x) {m : Mo} (h : MotOk x m) : ref09_cell x m = some (cellZ x m) := by
 obtain ⟨⟨a1, a2⟩, ⟨b1, b2⟩, c1, c2⟩ := h;have := hx.lo; have := hx.hi; have := hx.sp; have := hx.pu;have p1 : 0 <= (m.1 - x.1) * (2 * x.2.2.1 + 1) := Int.mul_nonneg (by omega) (by omega);have p2 : (m.1 - x.1) * (2 * x.2.2.1 + 1) <= 120 * (2 * x.2.2.1 + 1) := Int.mul_le_mul_of_nonneg_right (by omega) (by omega);have q1 : 0 <= ((m.1 - x.1) * (2 * x.2.2.1 + 1) + m.2.1 + x.2.2.1) * (2 * x.2.2.2.1 + 1) := Int.mul_nonneg (by omega) (by omega);have q2 : ((m.1 - x.1) * (2 * x.2.2.1 + 1) + m.2.1 + x.2.2.1) * (2 * x.2.2.2.1 + 1) <= 3000 * (2 * x.2.2.2.1 + 1) := Int.mul_le_mul_of_nonneg_right (by omega) (by omega);unfold ref09_cell cellZ;simp only
 rw [wq (n := m.1 - x.1) (by omega) (by omega), wq (n := 2 * x.2.2.1) (by omega) (by omega), wq (n := 2 * x.2.2.1 + 1) (by omega) (by omega),
  wq (n := (m.1 - x.1) * (2 * x.2.2.1 + 1)) (by omega) (by omega), wq (n := (m.1 - x.1) * (2 * x.2.2.1 + 1) + m.2.1) (by omega) (by omega),
  wq (n := (m.1 - x.1) * (2 * x.2.2.1 + 1) + m.2.1 + x.2.2.1) (by omega) (by omega), wq (n := 2 * x.2.2.2.1) (by omega) (by omega), wq (n := 2 * x.2.2.2.1 + 1) (by omega) (by omega),
  wq (n := ((m.1 - x.1) * (2 * x.2.2.1 + 1) + m.2.1 + x.2.2.1) * (2 * x.2.2.2.1 + 1)) (by omega) (by omega),
  wq (n := ((m.1 - x.1) * (2 * x.2.2.1 + 1) + m.2.1 + x.2.2.1) * (2 * x.2.2.2.1 + 1) + m.2.2.1) (by omega) (by omega),
  wq (n := ((m.1 - x.1) * (2 * x.2.2.1 + 1) + m.2.1 + x.2.2.1) * (2 * x.2.2.2.1 + 1) + m.2.2.1 + x.2.2.2.1) (by omega) (by omega)]
 rw [Int.add_assoc ((m.1 - x.1) * (2 * x.2.2.1 + 1)) m.2.1 x.2.2.1, Int.add_assoc (_ * _) m.2.2.1 x.2.2.2.1]
theorem NN_eq {x : Lm} (hx : LimOk x) (h2 : x.1 <= x.2.1) : w64 ((w64 ((w64 ((w64 (x.2.1 - x.1)) + 1)) * (w64 ((w64 (2 * x.2.2.1)) + 1)))) * (w64 ((w64 (2 * x.2.2.2.1)) + 1))) = NN x := by
 have := hx.lo; have := hx.hi; have := hx.sp; have := hx.pu;have hN := NN_le hx h2;have a1 : (x.2.1 - x.1 + 1) * (2 * x.2.2.1 + 1) <= 121 * (2 * x.2.2.1 + 1) := Int.mul_le_mul_of_nonneg_right (by omega) (by omega);have a3 : 0 < (x.2.1 - x.1 + 1) * (2 * x.2.2.1 + 1) := Int.mul_pos (by omega) (by omega);rw [wq (n := x.2.1 - x.1) (by omega) (by omega), wq (n := x.2.1 - x.1 + 1) (by omega) (by omega), wq (n := 2 * x.2.2.1) (by omega) (by omega), wq (n := 2 * x.2.2.1 + 1) (by omega) (by omega),
  wq (n := (x.2.1 - x.1 + 1) * (2 * x.2.2.1 + 1)) (by omega) (by omega), wq (n := 2 * x.2.2.2.1) (by omega) (by omega), wq (n := 2 * x.2.2.2.1 + 1) (by omega) (by omega)]
 exact wq (by unfold NN at hN; omega) (by unfold NN at hN; omega)
abbrev E6 := Int × Int × Int × Int × Int × Unit
def prj (e : E6) : En := (e.1, e.2.1, e.2.2.1, e.2.2.2.1, ())
theorem back6_ok {fo : List E6} (hp : ∀ e ∈ fo, 0 <= e.2.2.2.1 -> e.2.2.2.2.1 = e.2.2.1) (hb : ∀ (k : Nat) e, (fo.map prj)[k]? = some e -> e.2.2.2.1 < k /\ -1 <= e.2.2.2.1) (hl : fo.length <= 14399) {i : Nat} (hi : i < fo.length) :
  Ok (loopO (fun (s13 : ((List Int) × Int)) =>
        (idx fo s13.2).bind fun x14 =>
        bif decide (x14.2.2.2.1 >= 0) then
         (idx fo s13.2).bind fun x15 =>
         (app ([x15.2.2.2.2.1]) s13.1).bind fun x16 =>
         (idx fo s13.2).bind fun x17 =>
         some (.inl (x16, x17.2.2.2.1))
        else
         some (.inr s13.1)) ([], (i : Int))) fun l => Pth (fo.map prj) i l := by
 refine loop_wf (fun st => st.2.toNat) (fun (st : List Int × Int) => ∃ k : Nat, st.2 = (k : Int) /\ st.1.length + k <= i /\ ∀ l', Pth (fo.map prj) k l' -> Pth (fo.map prj) i (l' ++ st.1)) _ ⟨i, rfl, by simp, by simp⟩ ?_;rintro ⟨l, k0⟩ ⟨k, e1, e2, e3⟩;simp only at e1 e2 e3;subst e1;obtain ⟨e, he⟩ : ∃ e, fo[k]? = some e := ⟨_, List.getElem?_eq_getElem (by omega)⟩
 have hep : (fo.map prj)[k]? = some (prj e) := by rw [List.getElem?_map, he]; rfl
 have hbe : e.2.2.2.1 < k /\ -1 <= e.2.2.2.1 := hb k (prj e) hep;rw [idx_of he];simp only [Option.bind_some];by_cases h : e.2.2.2.1 >= 0
 ·simp only [h, decide_true, cond_true];rw [app_in (by simp only [List.length_singleton]; omega)];simp only [Option.bind_some];rw [rnd_inl];refine ⟨⟨e.2.2.2.1.toNat, by simp only; omega, by simp only [List.length_append, List.length_singleton]; omega, fun l' hl' => ?_⟩, by simp only; omega⟩;have := e3 _ (Pth.snoc hep h hl');simp only
  rw [<- List.append_assoc, hp e (List.mem_of_getElem? he) h]; exact this
 ·simp only [h, decide_false, cond_false];rw [rnd_inr];exact e3 _ (Pth.nil hep (by show e.2.2.2.1 < 0; omega))
structure Sn (x : Lm) (fo : List E6) (sn : List Bool) : Prop where
 len : sn.length = (NN x).toNat
 at_ : ∀ m, MotOk x m -> sn[(cellZ x m).toNat]? = some (decide (m ∈ (fo.map prj).map mot))
theorem Sn.add {x : Lm} {fo : List E6} {sn : List Bool} (h : Sn x fo sn) {m : Mo} (hm : MotOk x m) {e : E6} (he : mot (prj e) = m) : Sn x (fo ++ [e]) (sn.set (cellZ x m).toNat true) := by
 refine ⟨by rw [List.length_set]; exact h.len, fun m' hm' => ?_⟩;have c1 := cellZ_lt hm;have c2 := cellZ_lt hm';have hlen := h.len;have hmem : m' ∈ ((fo ++ [e]).map prj).map mot ↔ m' ∈ (fo.map prj).map mot \/ m' = m := by
  rw [List.map_append, List.map_append, List.mem_append];simp only [List.map_cons, List.map_nil, List.mem_singleton, he]
 by_cases heq : m' = m
 ·subst heq;rw [List.getElem?_set_self (by omega), decide_eq_true (hmem.2 (.inr rfl))]
 ·have hne : (cellZ x m).toNat ≠ (cellZ x m').toNat := fun e => heq (cellZ_inj hm' hm (by omega));rw [List.getElem?_set_ne hne, h.at_ m' hm'];congr 1
  rw [decide_eq_decide, hmem];exact ⟨fun h => .inl h, fun h => h.elim id fun h => absurd h heq⟩
theorem Pushed_two {x : Lm} (hx : LimOk x) {s : Mo} (hs : MotOk x s) (p : Int) : ∃ m, ref09_Pushed x s p = some (m, decide (pok x s p)) /\ (pok x s p -> m = nxt s p) := by
 rw [Pushed_eq hx hs];by_cases h : pok x s p
 ·rw [if_pos h, decide_eq_true h]; exact ⟨_, rfl, fun _ => rfl⟩
 ·rw [if_neg h, decide_eq_false h]; exact ⟨_, rfl, fun h' => absurd h' h⟩
theorem grow6_ok {x : Lm} (hx : LimOk x) (h2 : x.1 <= x.2.1) {fo : List E6} (hg : Good x (fo.map prj)) {i : Nat} {e : E6} (he : fo[i]? = some e) {sn : List Bool} (hp : ∀ e ∈ fo, 0 <= e.2.2.2.1 -> e.2.2.2.2.1 = e.2.2.1) (hk : Sn x fo sn) :
  Ok (loopO (fun (s20 : ((List (Int × Int × Int × Int × Int × Unit)) × (List Bool) × Int)) =>
        bif decide (s20.2.2 <= x.2.2.2.1) then
         (idx s20.1 (i : Int)).bind fun x21 =>
         (ref09_Pushed x (x21.1, x21.2.1, x21.2.2.1, ()) s20.2.2).bind fun x22 =>
         (bif x22.2 then
           (ref09_cell x x22.1).bind fun x23 =>
           (idx s20.2.1 x23).bind fun x24 =>
           some (!x24)
          else
           some false).bind fun (p25 : Bool) =>
         (bif p25 then
           (ref09_cell x x22.1).bind fun x26 =>
           (idx s20.2.1 x26).bind fun x27 =>
           (idx s20.2.1 x26).bind fun x28 =>
           let l29 : (List Bool) := List.set s20.2.1 x26.toNat true
           (app s20.1 ([(x22.1.1, x22.1.2.1, x22.1.2.2.1, (i : Int), s20.2.2, ())])).bind fun x30 =>
           some (x30, l29)
          else
           some (s20.1, s20.2.1)).bind fun (p31 : ((List (Int × Int × Int × Int × Int × Unit)) × (List Bool))) =>
         some (.inl (p31.1, p31.2, w64 (s20.2.2 + 1)))
        else
         some (.inr (s20.1, s20.2.1))) (fo, sn, w64 (0 - x.2.2.2.1))) fun r => r.1.map prj = expand x (mot (prj e)) i (fo.map prj) /\ (∀ e ∈ r.1, 0 <= e.2.2.2.1 -> e.2.2.2.2.1 = e.2.2.1) /\ Sn x r.1 r.2 := by
 have hpu := hx.pu;have hep : (fo.map prj)[i]? = some (prj e) := by rw [List.getElem?_map, he]; rfl
 have hlt := len_lt hep;have hlt' := len_lt he;rw [wq (n := 0 - x.2.2.2.1) (by omega) (by omega)];refine loop_up (2 * x.2.2.2.1 + 1).toNat (fun j (st : List E6 × List Bool × Int) => st.2.2 = (j : Int) - x.2.2.2.1 /\ st.1.map prj = ((pushL x.2.2.2.1).take j).foldl (addP x (mot (prj e)) i) (fo.map prj) /\ (∀ e ∈ st.1, 0 <= e.2.2.2.1 -> e.2.2.2.2.1 = e.2.2.1) /\ Sn x st.1 st.2.1 /\ st.1[i]? = some e) _ ⟨by simp, rfl, hp, hk, he⟩ ?_;rintro j ⟨a, sn', p⟩ hj ⟨e1, e2, e4, e3, e5⟩;simp only at e1 e2 e3 e4 e5;obtain ⟨g1, g2, g3⟩ := addPs_good (m := mot (prj e)) (k := i) ((pushL x.2.2.2.1).take j) hg hlt;rw [<- e2] at g1 g2 g3;have hal := good_len hx h2 g1;rw [List.length_map] at hal;have hm : MotOk x (mot (prj e)) := hg.ok (prj e) (List.mem_of_getElem? hep);by_cases hlt2 : j < (2 * x.2.2.2.1 + 1).toNat
 ·have h0 : decide (p <= x.2.2.2.1) = true := by simp <;> omega
  simp only [h0, cond_true];rw [idx_of e5];simp only [Option.bind_some];obtain ⟨mm, q1, q2⟩ := Pushed_two hx hm p;have q1' : ref09_Pushed x (e.1, e.2.1, e.2.2.1, ()) p = some (mm, decide (pok x (mot (prj e)) p)) := q1;rw [q1'];simp only [Option.bind_some];have hnext : ((pushL x.2.2.2.1).take (j + 1)).foldl (addP x (mot (prj e)) i) (fo.map prj) = addP x (mot (prj e)) i (a.map prj) p := by
   rw [pushL_next hlt2, List.foldl_append, <- e2, <- e1]; rfl
  by_cases hpk : pok x (mot (prj e)) p
  ·have := q2 hpk;subst this;have hmn : MotOk x (nxt (mot (prj e)) p) := hpk.2.2;have hc := cellZ_lt hmn;have hsn := e3.at_ _ hmn;rw [decide_eq_true hpk];simp only [cond_true, cell_eq hx hmn, Option.bind_some];have hix : idx sn' (cellZ x (nxt (mot (prj e)) p)) = some (decide (nxt (mot (prj e)) p ∈ (a.map prj).map mot)) := by
    unfold idx; rw [if_pos hc.1]; exact hsn
   rw [hix];simp only [Option.bind_some];by_cases hin : nxt (mot (prj e)) p ∈ (a.map prj).map mot
   ·rw [decide_eq_true hin];simp only [Bool.not_true, cond_false, Option.bind_some];rw [rnd_inl];refine ⟨hlt2, ?_, ?_, e4, e3, e5⟩
    ·simp only; rw [wq (by omega) (by omega)]; omega
    ·simp only; rw [hnext]; unfold addP
     rw [if_neg (fun h => h.2 hin)]
   ·rw [decide_eq_false hin];simp only [Bool.not_false, cond_true, Option.bind_some];rw [app_one (by omega)];simp only [Option.bind_some];rw [rnd_inl];have hq : addP x (mot (prj e)) i (a.map prj) p = a.map prj ++ [enOf (nxt (mot (prj e)) p) i] := by
     unfold addP;rw [if_pos ⟨hpk, hin⟩]
    refine ⟨hlt2, ?_, ?_, fun e' he' h' => ?_, e3.add hmn rfl, ?_⟩
    ·simp only; rw [wq (by omega) (by omega)]; omega
    ·simp only; rw [hnext, hq, List.map_append]; rfl
    ·simp only at he';rcases List.mem_append.1 he' with he' | he'
     ·exact e4 e' he' h'
     ·rw [List.mem_singleton] at he'; subst he'; rfl
    ·simp only
     rw [List.getElem?_append_left (len_lt e5)]; exact e5
  ·rw [decide_eq_false hpk];simp only [cond_false, Option.bind_some];rw [rnd_inl];refine ⟨hlt2, ?_, ?_, e4, e3, e5⟩
   ·simp only; rw [wq (by omega) (by omega)]; omega
   ·simp only; rw [hnext]; unfold addP
    rw [if_neg (fun h => hpk h.1)]
 ·have hjn : j = (2 * x.2.2.2.1 + 1).toNat := by omega
  have h0 : decide (p <= x.2.2.2.1) = false := by simp <;> omega
  simp only [h0, cond_false];rw [rnd_inr];refine ⟨?_, e4, e3⟩;simp only
  rw [e2, List.take_of_length_le (by rw [pushL_len]; omega)]; rfl
theorem Stop_ok {x : Lm} (hx : LimOk x) (h2 : x.1 <= x.2.1) {s : Mo} (hs : MotOk x s) : Ok (ref09_Stop x s) (Res x s) := by
 unfold ref09_Stop;simp only
 rw [NN_eq hx h2];have hN := NN_le hx h2;have hc := cellZ_lt hs;rw [mkS_in ⟨by omega, by omega⟩];simp only [Option.bind_some, decide_true, cond_true, cell_eq hx hs];have hix : idx (List.replicate (NN x).toNat false) (cellZ x s) = some false := by
  unfold idx; rw [if_pos hc.1, List.getElem?_replicate, if_pos (by omega)]
 rw [hix];simp only [Option.bind_some];have hs0 : Sn x [(s.1, s.2.1, s.2.2.1, (-1), 0, ())] (List.set (List.replicate (NN x).toNat false) (cellZ x s).toNat true) := by
  have := Sn.add (x := x) (fo := []) (sn := List.replicate (NN x).toNat false) ⟨by simp, fun m hm => by
   have := cellZ_lt hm;rw [List.getElem?_replicate, if_pos (by omega)]; simp⟩ hs (e := (s.1, s.2.1, s.2.2.1, (-1), 0, ())) rfl
  exact this
 rw [ok_elim];refine (loop_wf (fun st => 14400 - st.2.2.toNat) (fun (st : List E6 × List Bool × Int) => ∃ i : Nat, st.2.2 = i /\ RR x s i = some (st.1.map prj) /\ (∀ e ∈ st.1, 0 <= e.2.2.2.1 -> e.2.2.2.2.1 = e.2.2.1) /\ Sn x st.1 st.2.1)
  (fun r : Unit ⊕ (List Int × Bool) => match r with
   | .inl _ => Res x s ([], false)
   | .inr q => Res x s q) ⟨0, rfl, rfl, by simp, hs0⟩ ?_).mono ?_
 ·rintro ⟨fo, sn, i0⟩ ⟨i, e1, e2, e4, e3⟩;simp only at e1 e2 e3 e4;subst e1;obtain ⟨hg, hi⟩ := RR_good hs e2;have hlen := good_len hx h2 hg;rw [List.length_map] at hlen hi;by_cases hlt : i < fo.length
  ·have h0 : decide ((i : Int) < (fo.length : Int)) = true := by simp <;> omega
   obtain ⟨e, he⟩ : ∃ e, fo[i]? = some e := ⟨_, List.getElem?_eq_getElem hlt⟩
   have hep : (fo.map prj)[i]? = some (prj e) := by rw [List.getElem?_map, he]; rfl
   simp only [h0, cond_true];rw [idx_of he];simp only [Option.bind_some, IsRest_eq];by_cases hr : isRest (mot (prj e))
   ·have hr' : decide (isRest (e.1, e.2.1, e.2.2.1, ())) = true := decide_eq_true hr;simp only [hr', cond_true];rw [rnd_bind];refine (back6_ok e4 hg.bef hlen hlt).mono ?_;intro l hl;rw [rnd_inr];exact .inl ⟨i, _, prj e, _, e2, hep, hr, hl, rfl⟩
   ·have hr' : decide (isRest (e.1, e.2.1, e.2.2.1, ())) = false := decide_eq_false hr;simp only [hr', cond_false];rw [rnd_bind];refine (grow6_ok hx h2 hg he e4 e3).mono ?_;rintro ⟨a, kn'⟩ ⟨ha, hpa, hkn⟩;simp only at ha hkn hpa;rw [rnd_inl];refine ⟨⟨i + 1, ?_, ?_, hpa, hkn⟩, ?_⟩
    ·simp only; rw [wq (by omega) (by omega)]; omega
    ·simp only [RR, e2, Option.bind_some, hep, hr, if_false]; rw [ha]
    ·simp only; rw [wq (by omega) (by omega)]; omega
  ·have h0 : decide ((i : Int) < (fo.length : Int)) = false := by simp <;> omega
   simp only [h0, cond_false];rw [rnd_inr];exact .inr ⟨i, _, e2, List.getElem?_eq_none (by rw [List.length_map]; omega), rfl⟩
 ·intro r hr;cases r with
  | inl _ => simp only [ok_some]; exact hr
  | inr q => exact hr
theorem stop_same {x : Lm} {s : Mo} (h : motE x s = 0) : ∃ r, safety_stop x s = some r /\ ref09_Stop x s = some r /\ Res x s r := by
 obtain ⟨h1, h2⟩ := motE_zero h;obtain ⟨h3, h4⟩ := limE_zero h1;obtain ⟨r, a1, a2⟩ := stop_ok h3 h4 h2;obtain ⟨r', b1, b2⟩ := Stop_ok h3 h4 h2;exact ⟨r, a1, by rw [b1, b2.uniq a2], a2⟩
end Go.Proofs.YtkcaaaiihhhnmaaGreat
end
section
namespace Go.Proofs.YtkcaaaiihhhnmaaGreat
open Go Go.Ab Go.Tx
def walkM (x : Lm) : Mo -> List Int -> Option Mo
 | m, [] => some m
 | m, p :: ps => if pok x m p then walkM x (nxt m p) ps else none
def endM (o : Option Mo) : Int × Int := match o with
 | some m => if isRest m then (m.1, 0) else (0, 21)
 | none => (0, 24)
theorem drop_at {l : List Int} {i : Nat} (h : i < l.length) : ∃ p, l[i]? = some p /\ l.drop i = p :: l.drop (i + 1) := ⟨l[i], List.getElem?_eq_getElem h, List.drop_eq_getElem_cons h⟩
theorem walk_ok {x : Lm} {F : Lm -> Mo -> Int -> Option (Mo × Bool)} (hF : ∀ m, MotOk x m -> ∀ p, ∃ m', F x m p = some (m', decide (pok x m p)) /\ (pok x m p -> m' = nxt m p)) {s : Mo} (hs : MotOk x s) {l : List Int} (hl : l.length <= 1000) :
  Ok (loopO (fun (s5 : (Int × Int × Int × Int)) =>
    bif decide (s5.1 < (l.length : Int)) then
     (idx l s5.1).bind fun x6 =>
     (F x (s5.2.1, s5.2.2.1, s5.2.2.2, ()) x6).bind fun x7 =>
     bif !x7.2 then
      some (.inr (.inr ((0 : Int), (24 : Int))))
     else
      some (.inl (w64 (s5.1 + 1), x7.1.1, x7.1.2.1, x7.1.2.2.1))
    else
     some (.inr (.inl (s5.2.1, s5.2.2.1, s5.2.2.2)))) (0, s.1, s.2.1, s.2.2.1)) fun r : (Int × Int × Int) ⊕ (Int × Int) => match r with
   | .inl p => walkM x s l = some (p.1, p.2.1, p.2.2, ())
   | .inr q => q = (0, 24) /\ walkM x s l = none := by
 refine loop_up l.length (fun i (st : Int × Int × Int × Int) => st.1 = (i : Int) /\ MotOk x (st.2.1, st.2.2.1, st.2.2.2, ()) /\ walkM x s l = walkM x (st.2.1, st.2.2.1, st.2.2.2, ()) (l.drop i)) _ ⟨rfl, hs, rfl⟩ ?_;rintro i ⟨i0, a, b, c⟩ hi ⟨e1, e2, e3⟩;simp only at e1 e2 e3;subst e1;by_cases hlt : i < l.length
 ·have h0 : decide ((i : Int) < (l.length : Int)) = true := by simp <;> omega
  obtain ⟨p, hp, hd⟩ := drop_at hlt;rw [hd] at e3;simp only [h0, cond_true];rw [idx_of hp];obtain ⟨m', q1, q2⟩ := hF _ e2 p;simp only [Option.bind_some];rw [q1];simp only [Option.bind_some];by_cases hk : pok x (a, b, c, ()) p
  ·have := q2 hk;subst this;rw [decide_eq_true hk];simp only [Bool.not_true, cond_false];rw [rnd_inl];refine ⟨hlt, ?_, hk.2.2, ?_⟩
   ·simp only; rw [wq (by omega) (by omega)]; omega
   ·rw [e3, walkM, if_pos hk]
  ·rw [decide_eq_false hk];simp only [Bool.not_false, cond_true];rw [rnd_inr];exact ⟨rfl, by rw [e3, walkM, if_neg hk]⟩
 ·have : i = l.length := by omega
  subst this;have h0 : decide ((l.length : Int) < (l.length : Int)) = false := by simp
  simp only [h0, cond_false];rw [rnd_inr];simp only
  rw [e3]; simp [walkM]
theorem CheckStop_eq {x : Lm} {s : Mo} (h : motE x s = 0) {l : List Int} (hl : l.length <= 1000) : safety_CheckStop x s l = some (if (l.length : Int) <= 100 then endM (walkM x s l) else (0, 8)) := by
 obtain ⟨h1, h2⟩ := motE_zero h;obtain ⟨h3, h4⟩ := limE_zero h1;unfold safety_CheckStop;simp only [openMotion_eq, unl, Option.bind_some];rw [fst_ _ (by simp)];by_cases h8 : (l.length : Int) <= 100
 ·simp only [h, h8, decide_true, if_true, fst0, Option.bind_some, Bool.not_true, cond_false];refine Ok.eq ?_;rw [ok_elim];refine (walk_ok (F := safety_pushed) (fun m hm p => pushed_eq h3 hm p) h2 hl).mono ?_;intro r hr;cases r with
  | inl p =>
   simp only at hr ⊢;rw [hr, atRest_eq];simp only [Option.bind_some, endM];by_cases g : isRest (p.1, p.2.1, p.2.2, ()) <;> simp [g, ok_some]
  | inr q =>
   simp only at hr ⊢;rw [hr.2, hr.1]; rfl
 ·simp [h, h8, fst0]
theorem CopyInts_eq (l : List Int) (h : l.length <= 1000) : base_CopyInts l = some l := by
 unfold base_CopyInts;rw [app_nil (by omega)]; rfl
noncomputable def stB (x : Lm) (m : Mo) : Bool := match safety_stop x m with
 | some r => r.2
 | none => false
noncomputable def waysL (x : Lm) (s : Mo) : List Int := (pushL x.2.2.2.1).filter fun p => decide (pok x s p) && stB x (nxt s p)
theorem take_filter {q : Int -> Bool} {P : Int} {j : Nat} (h : j < (2 * P + 1).toNat) : ((pushL P).take (j + 1)).filter q = ((pushL P).take j).filter q ++ if q ((j : Int) - P) then [(j : Int) - P] else [] := by
 rw [pushL_next h, List.filter_append];by_cases c : q ((j : Int) - P) <;> simp [c]
theorem nxt_motE {x : Lm} {s : Mo} {p : Int} (h : motE x s = 0) (hk : pok x s p) : motE x (nxt s p) = 0 := by
 unfold motE;rw [if_pos (motE_zero h).1, if_pos hk.2.2]
theorem stB_eq {x : Lm} {m : Mo} (h : motE x m = 0) : ∃ l, safety_stop x m = some (l, stB x m) /\ ref09_Stop x m = some (l, stB x m) := by
 obtain ⟨⟨l, f⟩, a1, a2, a3⟩ := stop_same h;have : stB x m = f := by unfold stB; rw [a1]
 rw [this]; exact ⟨l, a1, a2⟩
theorem ways_len {x : Lm} (hx : LimOk x) (s : Mo) (j : Nat) : (((pushL x.2.2.2.1).take j).filter fun p => decide (pok x s p) && stB x (nxt s p)).length <= 1000 := by
 have := hx.pu;have h1 := List.length_filter_le (fun p => decide (pok x s p) && stB x (nxt s p)) ((pushL x.2.2.2.1).take j);have h2 := List.length_take_le j (pushL x.2.2.2.1);rw [List.length_take, pushL_len] at h1;omega
theorem PushesFrom_eq {x : Lm} {s : Mo} (h : motE x s = 0) : safety_PushesFrom x s = some (waysL x s, 0) := by
 obtain ⟨h1, h2⟩ := motE_zero h;obtain ⟨h3, h4⟩ := limE_zero h1;have hp := h3.pu;unfold safety_PushesFrom;simp only [openMotion_eq, h, Option.bind_some, decide_true, Bool.not_true, cond_false];rw [wq (n := 0 - x.2.2.2.1) (by omega) (by omega)];refine Ok.eq ?_;rw [ok_bind];refine (loop_up (2 * x.2.2.2.1 + 1).toNat (fun j (st : List Int × Int) => st.2 = (j : Int) - x.2.2.2.1 /\ st.1 = ((pushL x.2.2.2.1).take j).filter fun p => decide (pok x s p) && stB x (nxt s p)) (fun r => r = waysL x s) ⟨by simp, by simp⟩ ?_).mono (fun r hr => by rw [hr, ok_some]);rintro j ⟨a, p⟩ hj ⟨e1, e2⟩;simp only at e1 e2;have hal : a.length <= 1000 := by rw [e2]; exact ways_len h3 s j
 by_cases hlt : j < (2 * x.2.2.2.1 + 1).toNat
 ·have h0 : decide (p <= x.2.2.2.1) = true := by simp <;> omega
  obtain ⟨mm, q1, q2⟩ := pushed_eq h3 h2 p;simp only [h0, cond_true, q1, Option.bind_some];have hn := take_filter (q := fun p => decide (pok x s p) && stB x (nxt s p)) hlt;rw [<- e1, <- e2] at hn;by_cases hk : pok x s p
  ·have := q2 hk;subst this;obtain ⟨l, s1, s2⟩ := stB_eq (nxt_motE h hk);rw [decide_eq_true hk];simp only [cond_true, s1, Option.bind_some];cases hb : stB x (nxt s p) with
   | true =>
    simp only [cond_true];rw [app_one (by omega)];simp only [Option.bind_some];rw [rnd_inl];refine ⟨hlt, ?_, ?_⟩
    ·simp only; rw [wq (by omega) (by omega)]; omega
    ·simp only; rw [hn]; simp [hk, hb]
   | false =>
    simp only [cond_false, Option.bind_some];rw [rnd_inl];refine ⟨hlt, ?_, ?_⟩
    ·simp only; rw [wq (by omega) (by omega)]; omega
    ·simp only; rw [hn]; simp [hk, hb]
  ·rw [decide_eq_false hk];simp only [cond_false, Option.bind_some];rw [rnd_inl];refine ⟨hlt, ?_, ?_⟩
   ·simp only; rw [wq (by omega) (by omega)]; omega
   ·simp only; rw [hn]; simp [hk]
 ·have h0 : decide (p <= x.2.2.2.1) = false := by simp <;> omega
  simp only [h0, cond_false];rw [rnd_inr, e2, List.take_of_length_le (by rw [pushL_len]; omega)]; rfl
end Go.Proofs.YtkcaaaiihhhnmaaGreat
end
section
namespace Go.Proofs.YtkcaaaiihhhnmaaGreat
open Go Go.Ab Go.Tx
theorem walk_snoc (x : Lm) : ∀ (l : List Int) (m : Mo) (p : Int), walkM x m (l ++ [p]) = (walkM x m l).bind fun m' => if pok x m' p then some (nxt m' p) else none
 | [], m, p => by simp [walkM]
 | q :: l, m, p => by
  simp only [List.cons_append, walkM];split
  ·exact walk_snoc x l _ p
  ·rfl
theorem walk_app (x : Lm) : ∀ (l k : List Int) (m : Mo), walkM x m (l ++ k) = (walkM x m l).bind fun m' => walkM x m' k
 | [], k, m => by simp [walkM]
 | q :: l, k, m => by
  simp only [List.cons_append, walkM];split
  ·exact walk_app x l k _
  ·rfl
structure Bf (x : Lm) (s : Mo) (i : Nat) (all : List En) (d : Nat -> Nat) : Prop where
 le : i <= all.length
 root : all[0]? = some (enOf s (-1)) /\ d 0 = 0
 par : ∀ (k : Nat) e, all[k]? = some e -> 0 < k -> ∃ (j : Nat) (e' : En), e.2.2.2.1 = (j : Int) /\ j < k /\ d k = d j + 1 /\ all[j]? = some e' /\ pok x (mot e') e.2.2.1 /\ mot e = nxt (mot e') e.2.2.1
 mono : ∀ k k', k <= k' -> k' < all.length -> d k <= d k'
 done : ∀ (k : Nat) e, k < i -> all[k]? = some e -> ¬ isRest (mot e) /\ ∀ p, pok x (mot e) p -> ∃ (k2 : Nat) (e2 : En), all[k2]? = some e2 /\ mot e2 = nxt (mot e) p /\ d k2 <= d k + 1
 top : ∀ k, k < all.length -> i < all.length -> d k <= d i + 1
theorem adds {x : Lm} {m : Mo} {i : Nat} : ∀ (ps : List Int) {all : List En},
  (∀ (k : Nat) e, (ps.foldl (addP x m i) all)[k]? = some e -> (k < all.length /\ all[k]? = some e) \/ (all.length <= k /\ ∃ p, pok x m p /\ e = enOf (nxt m p) i)) /\
  (∀ p ∈ ps, pok x m p -> nxt m p ∈ (ps.foldl (addP x m i) all).map mot) /\ (∀ q, q ∈ all.map mot -> q ∈ (ps.foldl (addP x m i) all).map mot) /\
  (∀ k, k < all.length -> (ps.foldl (addP x m i) all)[k]? = all[k]?) /\ all.length <= (ps.foldl (addP x m i) all).length
 | [], all => ⟨fun k e h => .inl ⟨len_lt h, h⟩, by simp, fun q h => h, fun _ _ => rfl, Nat.le_refl _⟩
 | p :: ps, all => by
  obtain ⟨h1, h2, h3, h4, h5⟩ := adds (x := x) (m := m) (i := i) ps (all := addP x m i all p);have a1 : (∀ (k : Nat) e, (addP x m i all p)[k]? = some e -> (k < all.length /\ all[k]? = some e) \/ (all.length <= k /\ ∃ p, pok x m p /\ e = enOf (nxt m p) i)) /\ (∀ q, q ∈ all.map mot -> q ∈ (addP x m i all p).map mot) /\ (∀ k, k < all.length -> (addP x m i all p)[k]? = all[k]?) /\ all.length <= (addP x m i all p).length /\ (pok x m p -> nxt m p ∈ (addP x m i all p).map mot) := by
   unfold addP;by_cases hc : pok x m p /\ nxt m p ∉ all.map mot
   ·rw [if_pos hc];refine ⟨fun k e h => ?_, fun q h => by rw [List.map_append]; exact List.mem_append_left _ h, fun k hk => List.getElem?_append_left hk, by simp, fun _ => by
     rw [List.map_append]; exact List.mem_append_right _ (by simp [mot_enOf])⟩
    by_cases hk : k < all.length
    ·rw [List.getElem?_append_left hk] at h;exact .inl ⟨hk, h⟩
    ·rw [List.getElem?_append_right (by omega)] at h;have h0 : k - all.length = 0 := by
      have := (List.getElem?_eq_some_iff.1 h).1;simp at this; omega
     rw [h0] at h;simp at h;exact .inr ⟨by omega, p, hc.1, h.symm⟩
   ·rw [if_neg hc];exact ⟨fun k e h => .inl ⟨len_lt h, h⟩, fun q h => h, fun _ _ => rfl, Nat.le_refl _, fun hp => Decidable.byContradiction fun hn => hc ⟨hp, hn⟩⟩
  obtain ⟨b1, b2, b3, b4, b5⟩ := a1;simp only [List.foldl_cons];refine ⟨fun k e h => ?_, fun q hq hpk => ?_, fun q h => h3 q (b2 q h), fun k hk => by rw [h4 k (by omega), b3 k hk], by omega⟩
  ·rcases h1 k e h with ⟨c1, c2⟩ | ⟨c1, c2⟩
   ·exact b1 k e c2
   ·exact .inr ⟨by omega, c2⟩
  ·rcases List.mem_cons.1 hq with rfl | hq
   ·exact h3 _ (b5 hpk)
   ·exact h2 q hq hpk
theorem pushL_mem {P p : Int} (h : -P <= p /\ p <= P) : p ∈ pushL P := by
 have : p = ((p + P).toNat : Int) - P := by omega
 rw [this];exact mem_mkL (f := fun j : Nat => (j : Int) - P) (by omega)
theorem RR_Bf {x : Lm} {s : Mo} : ∀ {i : Nat} {all : List En}, RR x s i = some all -> ∃ d, Bf x s i all d
 | 0, all, h => by
  simp only [RR, Option.some.injEq] at h; subst h;refine ⟨fun _ => 0, ⟨by simp, ⟨rfl, rfl⟩, fun k e he hk => ?_, fun _ _ _ _ => Nat.le_refl _, fun k e hk => by omega, fun _ _ _ => by omega⟩⟩;have := (List.getElem?_eq_some_iff.1 he).1;simp at this; omega
 | i + 1, all, h => by
  simp only [RR] at h;obtain ⟨a0, h1, h2⟩ := Option.bind_eq_some_iff.1 h;obtain ⟨d, hb⟩ := RR_Bf h1;split at h2
  ·rename_i e he;split at h2
   ·cases h2
   ·rename_i hnr;simp only [Option.some.injEq] at h2;have hlt := len_lt he;obtain ⟨c1, c2, c3, c4, c5⟩ := adds (x := x) (m := mot e) (i := i) (pushL x.2.2.2.1) (all := a0);have hall : (pushL x.2.2.2.1).foldl (addP x (mot e) i) a0 = all := h2;rw [hall] at c1 c2 c3 c4 c5;have old : ∀ {k : Nat}, k < a0.length -> (if k < a0.length then d k else d i + 1) = d k := fun h => if_pos h;have new : ∀ {k : Nat}, ¬ k < a0.length -> (if k < a0.length then d k else d i + 1) = d i + 1 := fun h => if_neg h;refine ⟨fun k => if k < a0.length then d k else d i + 1, ⟨by omega, ⟨by rw [c4 0 (by omega)]; exact hb.root.1, by rw [old (by omega)]; exact hb.root.2⟩, fun k e' he' hk => ?_, fun k k' hkk hk' => ?_, fun k e' hk he' => ?_, fun k hk hi => ?_⟩⟩
    ·rcases c1 k e' he' with ⟨d1, d2⟩ | ⟨d1, p, d2, d3⟩
     ·obtain ⟨j, e'', q1, q2, q3, q4, q5, q6⟩ := hb.par k e' d2 hk;exact ⟨j, e'', q1, q2, by rw [old d1, old (by omega)]; exact q3, by rw [c4 j (by omega)]; exact q4, q5, q6⟩
     ·subst d3;refine ⟨i, e, rfl, by omega, ?_, by rw [c4 i hlt]; exact he, d2, rfl⟩;rw [new (by omega), old hlt]
    ·skip
     by_cases g2 : k' < a0.length
     ·rw [old g2, old (by omega)]; exact hb.mono k k' hkk g2
     ·rw [new g2];by_cases g1 : k < a0.length
      ·rw [old g1]; exact hb.top k g1 hlt
      ·rw [new g1]; exact Nat.le_refl _
    ·by_cases hki : k < i
     ·rw [c4 k (by omega)] at he';obtain ⟨q1, q2⟩ := hb.done k e' hki he';refine ⟨q1, fun p hp => ?_⟩;obtain ⟨k2, e2, r1, r2, r3⟩ := q2 p hp;refine ⟨k2, e2, by rw [c4 k2 (len_lt r1)]; exact r1, r2, ?_⟩;rw [old (len_lt r1), old (by omega)]; exact r3
     ·have : k = i := by omega
      subst this;rw [c4 k hlt, he] at he';cases he'
      refine ⟨hnr, fun p hp => ?_⟩;have hm := c2 p (pushL_mem hp.1) hp;obtain ⟨e2, m1, m2⟩ := List.mem_map.1 hm;obtain ⟨k2, hk2⟩ := List.mem_iff_getElem?.1 m1;refine ⟨k2, e2, hk2, m2, ?_⟩
      skip
      rw [old hlt];by_cases g : k2 < a0.length
      ·rw [old g]; exact hb.top k2 g hlt
      ·rw [new g]; exact Nat.le_refl _
    ·skip
     have ub : (if k < a0.length then d k else d i + 1) <= d i + 1 := by
      by_cases g : k < a0.length
      ·rw [old g]; exact hb.top k g hlt
      ·rw [new g]; exact Nat.le_refl _
     have lb : d i <= (if i + 1 < a0.length then d (i + 1) else d i + 1) := by
      by_cases g : i + 1 < a0.length
      ·rw [if_pos g]; exact hb.mono i (i + 1) (by omega) g
      ·rw [if_neg g]; omega
     omega
  ·cases h2
theorem Bf.path {x : Lm} {s : Mo} {i : Nat} {all : List En} {d : Nat -> Nat} (hb : Bf x s i all d) {k : Nat} {l : List Int} (h : Pth all k l) : ∀ {e : En}, all[k]? = some e -> walkM x s l = some (mot e) /\ l.length = d k := by
 induction h with
 | @nil k e h1 h2 =>
  intro e' he';have hk : k = 0 := by
   by_cases h : k = 0
   ·exact h
   ·obtain ⟨j, _, q, _⟩ := hb.par k e h1 (by omega);omega
  subst hk;rw [hb.root.1] at he'; cases he';exact ⟨rfl, hb.root.2.symm⟩
 | @snoc k e l h1 h2 h3 ih =>
  intro e' he';rw [h1] at he'; cases he';have hk : 0 < k := by
   by_cases h : k = 0
   ·subst h; rw [hb.root.1] at h1; cases h1;simp only [enOf] at h2; omega
   ·omega
  obtain ⟨j, e'', q1, q2, q3, q4, q5, q6⟩ := hb.par k e h1 hk;have hj : e.2.2.2.1.toNat = j := by omega
  rw [hj] at ih;obtain ⟨w1, w2⟩ := ih q4;refine ⟨?_, ?_⟩
  ·rw [walk_snoc, w1];simp only [Option.bind_some];rw [if_pos q5, q6]
  ·simp only [List.length_append, List.length_singleton] <;> omega
theorem Bf.reach {x : Lm} {s : Mo} {i : Nat} {all : List En} {d : Nat -> Nat} (hb : Bf x s i all d) : ∀ (ps : List Int) {k0 : Nat} {e0 : En} {m : Mo}, all[k0]? = some e0 -> walkM x (mot e0) ps = some m ->
  (∃ (k : Nat) (e : En), all[k]? = some e /\ mot e = m /\ d k <= d k0 + ps.length) \/ ∃ k, i <= k /\ k < all.length /\ d k <= d k0 + ps.length
 | [], k0, e0, m, h0, hw => by
  simp only [walkM, Option.some.injEq] at hw;exact .inl ⟨k0, e0, h0, hw, by simp⟩
 | p :: ps, k0, e0, m, h0, hw => by
  simp only [walkM] at hw;split at hw
  ·rename_i hp;by_cases hk : k0 < i
   ·obtain ⟨k2, e2, r1, r2, r3⟩ := (hb.done k0 e0 hk h0).2 p hp;rw [<- r2] at hw;rcases hb.reach ps r1 hw with ⟨k, e, q1, q2, q3⟩ | ⟨k, q1, q2, q3⟩
    ·exact .inl ⟨k, e, q1, q2, by simp only [List.length_cons]; omega⟩
    ·exact .inr ⟨k, q1, q2, by simp only [List.length_cons]; omega⟩
   ·exact .inr ⟨k0, by omega, len_lt h0, by omega⟩
  ·cases hw
theorem Res_short {x : Lm} {s : Mo} {r : List Int × Bool} (hr : Res x s r) :
  (r.2 = true /\ (∃ m, walkM x s r.1 = some m /\ isRest m) /\ ∀ ps m, walkM x s ps = some m -> isRest m -> r.1.length <= ps.length) \/ (r = ([], false) /\ ∀ ps m, walkM x s ps = some m -> ¬ isRest m) := by
 rcases hr with ⟨i, all, e, l, a1, a2, a3, a4, rfl⟩ | ⟨i, all, a1, a2, rfl⟩
 ·left
  obtain ⟨d, hb⟩ := RR_Bf a1;obtain ⟨w1, w2⟩ := hb.path a4 a2;refine ⟨rfl, ⟨_, w1, a3⟩, fun ps m hw hm => ?_⟩;have hroot : walkM x (mot (enOf s (-1))) ps = some m := by rw [mot_enOf]; exact hw
  have h0 := hb.root.2;rcases hb.reach ps hb.root.1 hroot with ⟨k, e', q1, q2, q3⟩ | ⟨k, q1, q2, q3⟩
  ·by_cases hk : k < i
   ·have := (hb.done k e' hk q1).1;rw [q2] at this; exact absurd hm this
   ·have := hb.mono i k (by omega) (len_lt q1);simp only <;> omega
  ·have := hb.mono i k q1 q2;simp only <;> omega
 ·right
  obtain ⟨d, hb⟩ := RR_Bf a1;refine ⟨rfl, fun ps m hw hm => ?_⟩;have hlen : all.length <= i := by
   by_cases h : i < all.length
   ·rw [List.getElem?_eq_getElem h] at a2; cases a2
   ·omega
  have hroot : walkM x (mot (enOf s (-1))) ps = some m := by rw [mot_enOf]; exact hw
  rcases hb.reach ps hb.root.1 hroot with ⟨k, e', q1, q2, q3⟩ | ⟨k, q1, q2, q3⟩
  ·have := (hb.done k e' (by have := len_lt q1; omega) q1).1;rw [q2] at this; exact absurd hm this
  ·omega
def Stops (x : Lm) (m : Mo) (ps : List Int) : Prop := ∃ m', walkM x m ps = some m' /\ isRest m'
theorem stop_best {x : Lm} {s : Mo} (h : motE x s = 0) : (∃ l, safety_stop x s = some (l, true) /\ ref09_Stop x s = some (l, true) /\ stB x s = true /\ Stops x s l /\ (∀ ps, Stops x s ps -> l.length <= ps.length) /\ l.length <= 14399) \/
  (safety_stop x s = some ([], false) /\ ref09_Stop x s = some ([], false) /\ stB x s = false /\ ∀ ps, ¬ Stops x s ps) := by
 obtain ⟨r, a1, a2, a3⟩ := stop_same h;obtain ⟨h1, h2⟩ := motE_zero h;obtain ⟨h3, h4⟩ := limE_zero h1;rcases Res_short a3 with ⟨c1, ⟨m, c2, c3⟩, c4⟩ | ⟨rfl, c2⟩
 ·left
  obtain ⟨l, f⟩ := r;simp only at c1 c2 c4; subst c1;have hlen : l.length <= 14399 := by
   rcases a3 with ⟨i, all, e, l', b1, b2, b3, b4, b5⟩ | ⟨i, all, b1, b2, b5⟩
   ·cases b5;obtain ⟨d, hb⟩ := RR_Bf b1;have hg := good_len h3 h4 (RR_good h2 b1).1;have key : ∀ {k : Nat} {l : List Int}, Pth all k l -> l.length <= k := by
     intro k l hp;induction hp with
     | nil _ _ => simp
     | snoc q1 q2 q3 ih =>
      have := (RR_good h2 b1).1.bef _ _ q1;simp only [List.length_append, List.length_singleton] <;> omega
    have := key b4;have := len_lt b2;omega
   ·cases b5
  exact ⟨l, a1, a2, by unfold stB; rw [a1], ⟨m, c2, c3⟩, fun ps ⟨m', w1, w2⟩ => c4 ps m' w1 w2, hlen⟩
 ·exact .inr ⟨a1, a2, by unfold stB; rw [a1], fun ps ⟨m', w1, w2⟩ => c2 ps m' w1 w2⟩
end Go.Proofs.YtkcaaaiihhhnmaaGreat
end
section
namespace Go.Proofs.YtkcaaaiihhhnmaaGreat
open Go Go.Ab Go.Tx
abbrev Gt := List UInt8 × List (List UInt8) × Int × Unit
theorem for_upto {ρ : Type} (n : Nat) (K : Int -> Option (Int ⊕ (Unit ⊕ ρ))) (q : Nat -> Prop) [∀ i, Decidable (q i)] (r : ρ) (c : Prop) [Decidable c] (hc : c ↔ ∃ j, j < n /\ q j)
  (h : ∀ i, i < n -> K (i : Int) = some (if q i then .inr (.inr r) else .inl ((i : Int) + 1))) :
  loopO (fun s => bif decide (s < (n : Int)) then K s else some (.inr (.inl ()))) 0 = some (if c then .inr r else .inl ()) := by
 refine Ok.eq (loop_up n (fun i (s : Int) => s = (i : Int) /\ ∀ j, j < i -> ¬ q j) _ ⟨rfl, by omega⟩ ?_);rintro i s hi ⟨rfl, hI⟩;by_cases hlt : i < n
 ·have h0 : decide ((i : Int) < (n : Int)) = true := by simp <;> omega
  simp only [h0, cond_true];rw [h i hlt];by_cases hq : q i
  ·rw [if_pos hq, rnd_inr, if_pos (hc.2 ⟨i, hlt, hq⟩)]
  ·rw [if_neg hq, rnd_inl];refine ⟨hlt, by simp, fun j hj => ?_⟩;by_cases e : j = i
   ·subst e; exact hq
   ·exact hI j (by omega)
 ·have h0 : decide ((i : Int) < (n : Int)) = false := by simp <;> omega
  simp only [h0, cond_false];rw [rnd_inr, if_neg (fun h => by
   obtain ⟨j, h1, h2⟩ := hc.1 h;exact hI j (by omega) h2)]
theorem mem_take {α : Type} {l : List α} {i : Nat} {a : α} : a ∈ l.take i ↔ ∃ j, j < i /\ l[j]? = some a := by
 rw [List.mem_iff_getElem?];constructor
 ·rintro ⟨j, h⟩;rw [List.getElem?_take] at h;split at h
  ·exact ⟨j, by assumption, h⟩
  ·cases h
 ·rintro ⟨j, h1, h2⟩;exact ⟨j, by rw [List.getElem?_take, if_pos h1]; exact h2⟩
structure GB (gs : List Gt) : Prop where
 len : gs.length <= 8
 nm : ∀ g ∈ gs, g.1.length <= 30
 rl : ∀ g ∈ gs, g.2.1.length <= 6
 rn : ∀ g ∈ gs, ∀ r ∈ g.2.1, r.length <= 30
end Go.Proofs.YtkcaaaiihhhnmaaGreat
end
section
namespace Go.Proofs.YtkcaaaiihhhnmaaGreat
open Go Go.Ab Go.Tx
theorem Has_eq (l : List Int) (t : Int) (hl : l.length <= 1000000000) : base_Has l t = some (decide (t ∈ l)) := by
 unfold base_Has;have key := for_find l (fun s2 => (idx l s2).bind fun x3 =>
    bif decide (x3 = t) then
     some (.inr (.inr true))
    else
     some (.inl (w64 (s2 + 1)))) (fun _ a => if a = t then some true else none) (fun i a hi => by
  have := len_lt hi;rw [idx_of hi];simp only [Option.bind_some];by_cases h : a = t
  ·simp [h, stp]
  ·simp only [h, decide_false, cond_false, if_false, stp]; rw [wq (by omega) (by omega)])
 rw [key, elim_toSum];cases hf : findI (fun (_ : Nat) a => if a = t then some true else none) 0 l with
 | none =>
  rw [findI_none] at hf;have : t ∉ l := fun h => by
   obtain ⟨i, hi⟩ := List.mem_iff_getElem?.1 h;have := hf i t hi;simp at this
  simp [this]
 | some r =>
  obtain ⟨i, a, h1, h2, _⟩ := findI_some hf;split at h2
  ·rename_i h; subst h;simp only [Option.some.injEq] at h2; subst h2;simp [List.mem_of_getElem? h1]
  ·cases h2
theorem StopFrom_eq {x : Lm} {s : Mo} (h : motE x s = 0) : ∃ l, safety_StopFrom x s = some (l, if stB x s then 0 else 12) /\ l.length <= 14399 /\ ((stB x s = true /\ Stops x s l /\ ∀ ps, Stops x s ps -> l.length <= ps.length) \/ (stB x s = false /\ l = [] /\ ∀ ps, ¬ Stops x s ps)) := by
 unfold safety_StopFrom;simp only [openMotion_eq, h, Option.bind_some, decide_true, Bool.not_true, cond_false];rcases stop_best h with ⟨l, a1, _, a3, a4, a5, a6⟩ | ⟨a1, _, a3, a4⟩
 ·rw [a1];simp only [Option.bind_some, unl];exact ⟨l, by simp [a3], a6, .inl ⟨a3, a4, a5⟩⟩
 ·rw [a1];simp only [Option.bind_some, unl];exact ⟨[], by simp [a3], by simp, .inr ⟨a3, rfl, a4⟩⟩
theorem CanStop_eq {x : Lm} {s : Mo} (h : motE x s = 0) : safety_CanStop x s = some (stB x s, 0) := by
 unfold safety_CanStop;simp only [openMotion_eq, h, Option.bind_some, decide_true, Bool.not_true, cond_false];obtain ⟨l, s1, s2⟩ := stB_eq h;rw [s1]; rfl
theorem stB_iff {x : Lm} {s : Mo} (h : motE x s = 0) : stB x s = true ↔ ∃ ps, Stops x s ps := by
 rcases stop_best h with ⟨l, a1, _, a3, a4, a5, a6⟩ | ⟨a1, _, a3, a4⟩
 ·exact ⟨fun _ => ⟨l, a4⟩, fun _ => a3⟩
 ·rw [a3]; exact ⟨fun h => (by cases h), fun ⟨ps, h⟩ => absurd h (a4 ps)⟩
theorem stops_cons {x : Lm} {m : Mo} {p : Int} {ps : List Int} : Stops x m (p :: ps) ↔ pok x m p /\ Stops x (nxt m p) ps := by
 unfold Stops;simp only [walkM];by_cases h : pok x m p
 ·simp [h]
 ·simp [h]
theorem stops_nil {x : Lm} {m : Mo} : Stops x m [] ↔ isRest m := by
 unfold Stops; simp [walkM]
theorem walk_wide {x y : Lm} (h : ∀ m p, pok x m p -> pok y m p) : ∀ {ps : List Int} {m m' : Mo}, walkM x m ps = some m' -> walkM y m ps = some m'
 | [], m, m', hw => hw
 | p :: ps, m, m', hw => by
  simp only [walkM] at hw ⊢;split at hw
  ·rename_i hp;rw [if_pos (h m p hp)];exact walk_wide h hw
  ·cases hw
def wideL (x : Lm) : Lm := (max (-60 : Int) (x.1 - 2), min (60 : Int) (x.2.1 + 2), min (8 : Int) (x.2.2.1 + 1), min (3 : Int) (x.2.2.2.1 + 1), min (6 : Int) (x.2.2.2.2.1 + 1), ())
theorem wide_ok {x : Lm} (hx : LimOk x) (h2 : x.1 <= x.2.1) : limE (wideL x) = 0 /\ (∀ m, MotOk x m -> MotOk (wideL x) m) /\ ∀ m p, pok x m p -> pok (wideL x) m p := by
 have := hx.lo; have := hx.hi; have := hx.sp; have := hx.pu; have := hx.je;have e1 : (wideL x).1 = max (-60 : Int) (x.1 - 2) := rfl;have e2 : (wideL x).2.1 = min (60 : Int) (x.2.1 + 2) := rfl;have e3 : (wideL x).2.2.1 = min (8 : Int) (x.2.2.1 + 1) := rfl;have e4 : (wideL x).2.2.2.1 = min (3 : Int) (x.2.2.2.1 + 1) := rfl;have e5 : (wideL x).2.2.2.2.1 = min (6 : Int) (x.2.2.2.2.1 + 1) := rfl;have hm : ∀ m, MotOk x m -> MotOk (wideL x) m := by
  intro m hm;unfold MotOk at hm ⊢;rw [e1, e2, e3, e4];omega
 refine ⟨?_, hm, fun m p hp => ?_⟩
 ·unfold limE;have : LimOk (wideL x) := by
   rw [limOk_iff, e1, e2, e3, e4, e5]; omega
  rw [if_pos this, if_pos (by rw [e1, e2]; omega)]
 ·obtain ⟨q1, q2, q3⟩ := hp;refine ⟨?_, ?_, hm _ q3⟩
  ·rw [e4]; omega
  ·rw [e5]; omega
theorem ways_mem {x : Lm} {s : Mo} {p : Int} : p ∈ waysL x s ↔ pok x s p /\ stB x (nxt s p) = true := by
 unfold waysL;rw [List.mem_filter, Bool.and_eq_true, decide_eq_true_iff];exact ⟨fun h => h.2, fun h => ⟨pushL_mem h.1.1, h⟩⟩
theorem pushL_sorted (P : Int) : List.Pairwise (fun a b => a < b) (pushL P) := by
 unfold pushL mkL;rw [List.pairwise_map];exact List.pairwise_lt_range.imp fun h => by omega
theorem ways_sorted (x : Lm) (s : Mo) : List.Pairwise (fun a b => a < b) (waysL x s) := (pushL_sorted _).filter _
theorem pair_next {l : List Int} (h : List.Pairwise (fun a b => a < b) l) {k : Nat} {a b : Int} (ha : l[k]? = some a) (hb : l[k + 1]? = some b) : a < b := by
 rw [List.pairwise_iff_getElem] at h;have h1 := len_lt ha;have h2 := len_lt hb;have := h k (k + 1) h1 h2 (by omega);rw [List.getElem?_eq_getElem h1] at ha;rw [List.getElem?_eq_getElem h2] at hb;rw [<- Option.some.inj ha, <- Option.some.inj hb]; exact this
theorem walk_drop {x : Lm} {s m' : Mo} {l : List Int} (h : walkM x s l = some m') {i : Nat} {at_ : Mo} (hi : walkM x s (l.take i) = some at_) : walkM x at_ (l.drop i) = some m' := by
 have : walkM x s (l.take i ++ l.drop i) = some m' := by rw [List.take_append_drop]; exact h
 rw [walk_app, hi] at this; exact this
theorem motE_nxt {x : Lm} {s : Mo} {p : Int} (h : limE x = 0) (hk : pok x s p) : motE x (nxt s p) = 0 := by
 unfold motE; rw [if_pos h, if_pos hk.2.2]
theorem SafetyAtRest_all (x : Int × Int × Int × Int × Int × Unit) (s : Int × Int × Int × Unit) (l : List Int) : law09_SafetyAtRest x s l = some true := by
 unfold law09_SafetyAtRest law09_awake;simp only [Option.bind_some, Bool.not_true, cond_false, motionErr_eq];by_cases h : motE x s = 0
 ·obtain ⟨h1, h2⟩ := motE_zero h;obtain ⟨h3, h4⟩ := limE_zero h1;have := h3.lo; have := h3.hi; have := h3.sp; have := h3.pu; have := h3.je;simp only [h, decide_true, Bool.not_true, cond_false];rw [wq (n := x.2.1 - x.1) (by omega) (by omega)];by_cases h40 : x.2.1 - x.1 > 40
  ·simp [h40]
  ·by_cases h100 : (l.length : Int) > 100
   ·simp [h40, h100]
   ·simp only [h40, h100, decide_false, cond_false, Option.bind_some];obtain ⟨w, q1, q2, q3⟩ := StopFrom_eq h;have h100' : (l.length : Int) <= 100 := by omega
    rw [q1, CanStop_eq h, CopyInts_eq l (by omega)];simp only [Option.bind_some];rw [CheckStop_eq h (by omega), if_pos h100'];simp only [Option.bind_some, decide_true, Bool.not_true, cond_false];rcases q3 with ⟨q3, q4, q5⟩ | ⟨q3, q4, q5⟩
    ·-- it can stop
     simp only [q3, if_true, decide_true, beq_self_eq_true, Bool.not_true, cond_false];have hlen20 : ¬ (w.length : Int) > 20000 := by omega
     have hrest : (decide ((w.length : Int) = 0) == decide (isRest s)) = true := by
      rw [beq_iff_eq, decide_eq_decide];constructor
      ·intro h0;have : w = [] := List.eq_nil_of_length_eq_zero (by omega);subst this;exact stops_nil.1 q4
      ·intro hr;have := q5 [] (stops_nil.2 hr);simp at this;rw [this]; rfl
     have c1 : (bif decide ((endM (walkM x s l)).2 = 0) then
       bif decide ((l.length : Int) < (w.length : Int)) then
        some true
       else
        bif decide ((w.length : Int) > 20000) then
         some true
        else
         (ref09_IsRest s).bind fun x10 =>
         some (!(decide ((w.length : Int) = 0) == x10))
      else
       bif decide ((w.length : Int) > 20000) then
        some true
       else
        (ref09_IsRest s).bind fun x11 =>
        some (!(decide ((w.length : Int) = 0) == x11))) = some false := by
      rw [IsRest_eq, decide_eq_false hlen20];simp only [cond_false, Option.bind_some, hrest, Bool.not_true];by_cases hg : (endM (walkM x s l)).2 = 0
      ·have : ¬ (l.length : Int) < (w.length : Int) := by
        have hs : Stops x s l := by
         unfold endM at hg;split at hg
         ·rename_i m hm;split at hg
          ·exact ⟨m, hm, by assumption⟩
          ·simp at hg
         ·simp at hg
        have := q5 l hs; omega
       rw [decide_eq_true hg, decide_eq_false this]; rfl
      ·rw [decide_eq_false hg]; rfl
     rw [c1];simp only [Option.bind_some, cond_false];obtain ⟨mE, w1, w2⟩ := q4
     -- the walk
     have step : Ok (loopO (fun (s14 : (Int × Int × Int × Int)) =>
        bif decide (s14.1 < (w.length : Int)) then
         ((idx w s14.1).bind fun x15 =>
          (ref09_Pushed x (s14.2.1, s14.2.2.1, s14.2.2.2, ()) x15).bind fun x16 =>
          bif !x16.2 then
           some (.inr (.inr (.inr false)))
          else
           bif decide (s14.1 >= 3) then
            some (.inl (x16.1.1, x16.1.2.1, x16.1.2.2.1))
           else
            (safety_StopFrom x x16.1).bind fun x17 =>
            (bif !(decide (x17.2 = 0)) then
              some true
             else
              let v18 : Bool := !(decide ((x17.1.length : Int) = w64 ((w64 ((w.length : Int) - s14.1)) - 1)))
              some v18).bind fun (p19 : Bool) =>
            bif p19 then
             some (.inr (.inr (.inr false)))
            else
             some (.inl (x16.1.1, x16.1.2.1, x16.1.2.2.1))).bind (Sum.elim (fun (p20 : (Int × Int × Int)) =>
         some (.inl (w64 (s14.1 + 1), p20.1, p20.2.1, p20.2.2))) some)
        else
         some (.inr (.inl (s14.2.1, s14.2.2.1, s14.2.2.2)))) (0, s.1, s.2.1, s.2.2.1)) (fun r : (Int × Int × Int) ⊕ Bool => match r with
       | .inl p => (p.1, p.2.1, p.2.2, ()) = mE
       | .inr _ => False) := by
      refine loop_up w.length (fun i (st : Int × Int × Int × Int) => st.1 = (i : Int) /\ MotOk x (st.2.1, st.2.2.1, st.2.2.2, ()) /\ walkM x s (w.take i) = some (st.2.1, st.2.2.1, st.2.2.2, ())) _ ⟨rfl, h2, rfl⟩ ?_;rintro i ⟨i0, a, b, c⟩ hi ⟨e1, e2, e3⟩;simp only at e1 e2 e3;subst e1;have hd := walk_drop w1 e3;by_cases hlt : i < w.length
      ·have h0 : decide ((i : Int) < (w.length : Int)) = true := by simp <;> omega
       obtain ⟨p, hp, hdp⟩ := drop_at hlt;rw [hdp] at hd;have hst : Stops x (a, b, c, ()) (p :: w.drop (i + 1)) := ⟨mE, hd, w2⟩
       obtain ⟨hpk, hst2⟩ := stops_cons.1 hst;simp only [h0, cond_true];rw [idx_of hp];simp only [Option.bind_some];rw [Pushed_eq h3 e2, if_pos hpk];simp only [Option.bind_some, Bool.not_true, cond_false];have hnext : walkM x s (w.take (i + 1)) = some (nxt (a, b, c, ()) p) := by
        rw [take_next p hlt, getD_at hp, walk_snoc, e3];simp only [Option.bind_some];rw [if_pos hpk]
       have goal : Rnd (some (Sum.inl (w64 ((i : Int) + 1), (nxt (a, b, c, ()) p).1, (nxt (a, b, c, ()) p).2.1, (nxt (a, b, c, ()) p).2.2.1)) : Option ((Int × Int × Int × Int) ⊕ ((Int × Int × Int) ⊕ Bool))) (fun s' => i < w.length /\ s'.1 = ((i + 1 : Nat) : Int) /\ MotOk x (s'.2.1, s'.2.2.1, s'.2.2.2, ()) /\ walkM x s (w.take (i + 1)) = some (s'.2.1, s'.2.2.1, s'.2.2.2, ())) (fun r : (Int × Int × Int) ⊕ Bool => match r with
         | .inl p => (p.1, p.2.1, p.2.2, ()) = mE
         | .inr _ => False) := by
        rw [rnd_inl];refine ⟨hlt, ?_, hpk.2.2, hnext⟩;rw [wq (by omega) (by omega)]; simp
       by_cases h3' : (i : Int) >= 3
       ·rw [decide_eq_true h3'];simp only [cond_true, Option.bind_some, Sum.elim_inl];exact goal
       ·rw [decide_eq_false h3'];simp only [cond_false];have hme := motE_nxt h1 hpk;obtain ⟨v, r1, r2, r3⟩ := StopFrom_eq hme;rw [r1];simp only [Option.bind_some];rcases r3 with ⟨r3, r4, r5⟩ | ⟨r3, r4, r5⟩
        ·have len1 := r5 _ hst2;have len2 : w.length <= i + 1 + v.length := by
          have hnew : Stops x s (w.take (i + 1) ++ v) := by
           obtain ⟨m2, v1, v2⟩ := r4;refine ⟨m2, ?_, v2⟩;rw [walk_app, hnext]; exact v1
          have := q5 _ hnew;rw [List.length_append, List.length_take] at this;omega
         rw [List.length_drop] at len1;have e4 : (v.length : Int) = w64 ((w64 ((w.length : Int) - (i : Int))) - 1) := by
          rw [wq (n := (w.length : Int) - (i : Int)) (by omega) (by omega), wq (by omega) (by omega)]; omega
         simp only [r3, if_true, decide_true, Bool.not_true, cond_false];rw [decide_eq_true e4];simp only [Bool.not_true, Option.bind_some, cond_false, Sum.elim_inl];exact goal
        ·exact absurd hst2 (r5 _)
      ·have : i = w.length := by omega
       subst this;have h0 : decide ((w.length : Int) < (w.length : Int)) = false := by simp
       simp only [h0, cond_false];rw [rnd_inr];simp only
       rw [List.take_length, w1] at e3;exact (Option.some.inj e3).symm
     obtain ⟨r, t1, t2⟩ := step;rw [t1];cases r with
     | inr b => exact absurd t2 (by simp)
     | inl p =>
      simp only at t2;simp only [Option.bind_some, Sum.elim_inl];rw [IsRest_eq, t2, decide_eq_true w2];simp only [Option.bind_some, Bool.not_true, cond_false];have c2 : (bif decide ((w.length : Int) <= 100) then
         (base_CopyInts w).bind fun x23 =>
         (safety_CheckStop x s x23).bind fun x24 =>
         (bif !(decide (x24.2 = 0)) then
           some true
          else
           some (!(decide (x24.1 = p.1)))).bind fun (p25 : Bool) =>
         bif p25 then
          some (.inr false)
         else
          some (.inl ())
        else
         some (.inl ())) = (some (.inl ()) : Option (Unit ⊕ Bool)) := by
       by_cases hw100 : (w.length : Int) <= 100
       ·rw [decide_eq_true hw100, CopyInts_eq w (by omega)];simp only [cond_true, Option.bind_some];rw [CheckStop_eq h (by omega), if_pos hw100, w1];simp only [Option.bind_some, endM, if_pos w2];have : mE.1 = p.1 := by rw [<- t2]
        simp [this]
       ·rw [decide_eq_false hw100]; rfl
      rw [c2];simp only [Option.bind_some, Sum.elim_inl];rw [wq (n := x.1 - 2) (by omega) (by omega), wq (n := x.2.1 + 2) (by omega) (by omega), wq (n := x.2.2.1 + 1) (by omega) (by omega), wq (n := x.2.2.2.1 + 1) (by omega) (by omega), wq (n := x.2.2.2.2.1 + 1) (by omega) (by omega)];obtain ⟨v1, v2, v3⟩ := wide_ok h3 h4;have hwide : motE (wideL x) s = 0 := by unfold motE; rw [if_pos v1, if_pos (v2 s h2)]
      obtain ⟨u, u1, u2, u3⟩ := StopFrom_eq hwide;have u1' : safety_StopFrom (max (-60 : Int) (x.1 - 2), min (60 : Int) (x.2.1 + 2), min (8 : Int) (x.2.2.1 + 1), min (3 : Int) (x.2.2.2.1 + 1), min (6 : Int) (x.2.2.2.2.1 + 1), ()) s = some (u, if stB (wideL x) s then 0 else 12) := u1;have hsw : Stops (wideL x) s w := ⟨mE, walk_wide v3 w1, w2⟩
      have hl := ways_len h3 s (2 * x.2.2.2.1 + 1).toNat;rw [List.take_of_length_le (by rw [pushL_len]; omega)] at hl;have hwl : (waysL x s).length <= 1000 := hl;rw [u1', PushesFrom_eq h];simp only [Option.bind_some];rcases u3 with ⟨u3, u4, u5⟩ | ⟨u3, u4, u5⟩
      ·have hul := u5 w hsw;have hul' : ¬ (u.length : Int) > (w.length : Int) := by omega
       have c3 : (bif decide ((w.length : Int) > 0) then
            (idx w 0).bind fun x29 =>
            (base_Has (waysL x s) x29).bind fun x30 =>
            some (!x30)
           else
            some false) = some false := by
        cases w with
        | nil => rfl
        | cons p0 ps =>
         have hst : Stops x s (p0 :: ps) := ⟨mE, w1, w2⟩
         obtain ⟨hpk, hst2⟩ := stops_cons.1 hst;have hm : p0 ∈ waysL x s := ways_mem.2 ⟨hpk, (stB_iff (motE_nxt h1 hpk)).2 ⟨ps, hst2⟩⟩;have hi0 : idx (p0 :: ps) 0 = some p0 := by simp [idx]
         rw [hi0];simp only [Option.bind_some];rw [Has_eq _ _ (by omega), decide_eq_true hm];simp only [Option.bind_some, Bool.not_true];cases decide (((p0 :: ps).length : Int) > 0) <;> rfl
       rw [c3];simp only [u3, if_true, decide_true, Bool.not_true, cond_false, hul', decide_false, Option.bind_some];rw [for_upto (waysL x s).length _ (fun _ => False) false False (by simp) (fun k hk => by
        obtain ⟨p, hp⟩ : ∃ p, (waysL x s)[k]? = some p := ⟨_, List.getElem?_eq_getElem hk⟩
        obtain ⟨hpk, hst⟩ := ways_mem.1 (List.mem_of_getElem? hp);rw [idx_of hp];simp only [Option.bind_some];rw [Pushed_eq h3 h2, if_pos hpk];simp only [Option.bind_some, Bool.not_true, cond_false];have c4 : (bif decide ((k : Int) > 0) then
              (idx (waysL x s) (w64 ((k : Int) - 1))).bind fun x38 =>
              some (decide (p <= x38))
             else
              some false) = some false := by
         cases k with
         | zero => rfl
         | succ k =>
          obtain ⟨q, hq⟩ : ∃ q, (waysL x s)[k]? = some q := ⟨_, List.getElem?_eq_getElem (by omega)⟩
          have hlt := pair_next (ways_sorted x s) hq hp;rw [wq (by omega) (by omega), show ((k + 1 : Nat) : Int) - 1 = (k : Int) by omega, idx_of hq];simp only [Option.bind_some];rw [decide_eq_false (show ¬ p <= q by omega)];cases decide (((k + 1 : Nat) : Int) > 0) <;> rfl
        rw [c4];simp only [Option.bind_some, cond_false];rw [CanStop_eq (motE_nxt h1 hpk), hst];simp only [Option.bind_some, decide_true, Bool.not_true, cond_false, if_false];rw [wq (by omega) (by omega)])]
       simp only [if_false, Option.bind_some, Sum.elim_inl]
      ·exact absurd hsw (u5 _)
    ·-- it cannot
     subst q4;have hg : ¬ (endM (walkM x s l)).2 = 0 := by
      intro hg;unfold endM at hg;split at hg
      ·rename_i m hm;split at hg
       ·exact q5 l ⟨m, hm, by assumption⟩
       ·simp at hg
      ·simp at hg
     simp [q3, hg]
 ·simp [h]
theorem law09_SafetyAtRest_true (x : denP ([(.pair I (.pair I (.pair I (.pair I (.pair I .unit))))), (.pair I (.pair I (.pair I .unit))), (.sl I)].map Pm.ty)) (hx : RngP maxLen [(.pair I (.pair I (.pair I (.pair I (.pair I .unit))))), (.pair I (.pair I (.pair I .unit))), (.sl I)] x) : e_law09_SafetyAtRest.F x = some true :=
 SafetyAtRest_all x.1 x.2.1 x.2.2
end Go.Proofs.YtkcaaaiihhhnmaaGreat
end
section
namespace Go.Proofs.YtkcaaaiihhhnmaaGreat.safetyAtRest
open Go Go.Ab Go.Tx Go.ChangeShapes Go.WideShapes Go.ChangeAt Go.RowKit
theorem hlib : ∀ g h args r, Lb g = some h -> h args = some r -> CallOk Tryz.prog g args [] r [] := fun g h args r hg hr => by
 unfold Lb at hg;split at hg
 ·rename_i e;subst e;cases hg;cases args with
  | nil => cases hr; exact awake_ok
  | cons a l => cases hr
 ·cases hg
set_option maxRecDepth 100000 in
theorem contract (H : Type) (enc : TypeId × Value -> H) (W : World) (base : Nat) (args : Array Value) (ds gs : List (DataW H)) (before : List MemPlace)
  (hval : ∀ (j : Nat) t v, Tryz.f10.params[j]? = some t -> args[j]? = some v -> Value.okWide Tryz.prog W .any base t v)
  (hW : DataW.Whole enc Tryz.prog Tryz.f10.params.toList Rows.safetyAtRestSpec.vars false W args.toList ds gs before) :
  Calls Tryz.prog 10 args W fun e W' => ∃ v, e = .returned v /\ Rows.safetyAtRestSpec.post enc Tryz.prog Tryz.f10 false true false false W args v W' :=
 law_contract (τs := [(.pair I (.pair I (.pair I (.pair I (.pair I .unit))))), (.pair I (.pair I (.pair I .unit))), (.sl I)]) (ts := [66, 68, 46]) (tb := 4) (F := e_law09_SafetyAtRest.F) follows hname hlib laid_out Tryz.func10 (by kernel_rfl) (by kernel_rfl) (by kernel_rfl) (by kernel_rfl) (by kernel_rfl) (by kernel_rfl) Tryz.underlying4 o_law09_SafetyAtRest law09_SafetyAtRest_true rfl
  (fun H ds h => by
   match ds, h with
   | [d1, d2, d3], _ => rfl) H enc W base args ds gs before hval hW
set_option maxRecDepth 100000 in
theorem lifted (os : Os) (started : os.Started) (H : Type) (enc : TypeId × Value -> H) :
  ReturnsInHanded {} Tryz.checked os 10 .any (Rows.safetyAtRestSpec.pre6 enc Tryz.prog Tryz.f10 Rows.safetyAtRestRow.domain false) (Rows.safetyAtRestSpec.post enc Tryz.prog Tryz.f10 false true false false) := by
 refine returnsInHanded_of_change (C := Tryz.checked) own started (by kernel_rfl) Tryz.func10
  (ChangeSpec.witness6 (enc := enc) (C := Tryz.checked) false ⟨#[], #[.agg #[.int .i64 0, .int .i64 0, .int .i64 0, .int .i64 0, .int .i64 0], .agg #[.int .i64 0, .int .i64 0, .int .i64 0], .slice none 0 0], []⟩ 8 (by kernel_rfl) (by kernel_rfl) (by kernel_rfl) (by kernel_rfl)) ?_
 intro W base args ds gs before hval hW _ _;exact contract H enc W base args ds gs before hval hW
theorem proved : Rows.SafetyAtRestSaid :=
 OpenClaim.holds_of_wide 10 Tryz.f10 rfl rfl rfl rfl rfl rfl rfl ⟨rfl, rfl, rfl, rfl, rfl⟩ rfl rfl rfl rfl rfl (by kernel_rfl) Tryz.func10 (by kernel_rfl)
  (of_decide_eq_true (by kernel_rfl)) (by unfold Func.isWrapper; first | (rw [if_pos (by decide +kernel)]; kernel_rfl) | (rw [if_neg (by decide +kernel)]; exact ⟨rfl, rfl⟩))
  (fun os started H enc _ => lifted os started H enc)
end Go.Proofs.YtkcaaaiihhhnmaaGreat.safetyAtRest
end
