/-
  ONE LAW OF A CHAPTER: its program side is run by an interpreter that is proved sound; what it computes is shown to be what the law says. No conditions. Part 6 of 6.
-/
import Derived.Test.YtkcaaaiihhhnmaaMFTe
import Derived.Test.YtkcaaaiihhhnmaaProg
import Derived.Shelf.Slices.Reverse
import Derived.Shelf.Sort.Plain
import Derived.Shelf.Slices.In.SortNone
import Derived.KernelRfl
import Derived.Test.YtkcaaaiihhhnmaaRows
import Derived.WalkKit
set_option linter.unusedSimpArgs false
set_option linter.unusedVariables false
set_option linter.unnecessarySimpa false
section
namespace Go.Tx
open Go Go.Ab Go.RowKit Go.ChangeShapes Go.WideShapes Go.Deep
variable {H : Type} {enc : TypeId × Value -> H} {P : Program} {w : World} {base : Nat} {held : Bool}
theorem slices_elTy {d : Nat} {e : TypeId} {cs1 cs : List Ty} (hc : cellsTy P d e = some cs1) (h : (match cellsTy P d e, P.underlying e with
   | some cs, some (.struct _) => some [Ty.sl (cs.foldr .pair .unit)]
   | some cs, some (.array ..) => some [.sl (cs.foldr .pair .unit)]
   | some [τ], _ => some [.sl τ]
   | _, _ => none) = some cs) : ∃ τ, cs = [.sl τ] /\ elTy P e cs1 = some τ := by
 rw [hc] at h;unfold elTy;cases hu : P.underlying e with
 | none => rw [hu] at h; simp only at h ⊢; split at h <;> simp_all
 | some dd =>
  rw [hu] at h;cases dd <;> simp only at h ⊢ <;> first | (simp only [Option.some.injEq] at h; exact ⟨_, h.symm, rfl⟩) | (split at h <;> simp_all)
theorem rep_empty {X : Cx} : Rep w X (.sl .shared false []) (.slice none 0 0) [] := by simp [Rep, ptrsL]
theorem rep_weird {X : Cx} (a : Addr) : Rep w X (.sl .shared false []) (.slice (some a) 0 0) [] := by simp [Rep, ptrsL]
theorem open_cells (hl : laidOutB P = true) {N : Nat} {S : DataW H -> Prop} (hS : Sm N S) : ∀ (d : Nat) (t : TypeId) (cs : List Ty), cellsTy P d t = some cs -> okT P d t = true -> ∀ (fuel : Nat) (vals : List Value) (x : DataW H × List MemPlace), S x.1 ->
  DataW.trod enc P w base (fun _ => true) held fuel t vals = some x -> All2 (CellOk N w) cs vals
 | 0, t, cs, hc, _, fuel, vals, x, hx, h => by simp [cellsTy] at hc
 | d + 1, t, cs, hc, hok, fuel, vals, x, hx, h => by
  simp only [cellsTy] at hc;simp only [okT, Bool.and_eq_true, decide_eq_true_eq] at hok;split at hc
  ·rename_i k hu;cases hc;obtain ⟨n, rfl, rfl, hwf⟩ := DataW.trod_int hu h;refine .cons ⟨n, .val (.int k n), ?_, by simp [RTy], by simp [Rep]⟩ .nil;simp only [Rng];simp only [Lit.wf, Bool.and_eq_true, decide_eq_true_eq] at hwf;exact hwf
  ·rename_i hu;cases hc;obtain ⟨b, rfl, rfl⟩ := DataW.trod_bool hu h;exact .cons ⟨b, .val (.bool b), trivial, by simp [RTy], by simp [Rep]⟩ .nil
  ·rename_i hu;cases hc;obtain ⟨s, rfl, rfl, hs⟩ := DataW.trod_string hu h;have hsl : s.data.toList.length <= maxLen := by
    have e : s.data.toList.length = s.size := Array.length_toList;rw [e]; exact hs
   exact .cons ⟨s.data.toList, .val (.string s), hS.str _ hx hsl, by simp [RTy], by simp [Rep]⟩ .nil
  ·rename_i hu; rw [hu] at hok; simp at hok
  ·rename_i hu; rw [hu] at hok; simp at hok
  ·rename_i e hu;obtain ⟨ht, hoe⟩ := hok;rw [hu] at hoe;simp only [Bool.and_eq_true, decide_eq_true_eq, beq_iff_eq] at hoe;cases hce : cellsTy P d e with
   | none => rw [hce] at hc; simp at hc
   | some cs1 =>
    obtain ⟨τ, rfl, hτ⟩ := slices_elTy hce (by rw [hce]; rw [hce] at hc; exact hc);obtain ⟨hel, hnc⟩ := elTy_props hce hτ (cellsTy_ones d e cs1 hce);rcases open_slice hu h with ⟨rfl, rfl⟩ | ⟨a, len, cap, m, n, D, Pl, rfl, hb, hlc, hcm, hm, rfl, hx'⟩
    ·exact .cons ⟨[], .sl .shared false [], ⟨Nat.zero_le _, by simp⟩, by simp only [RTy]; exact ⟨_, _, [], rfl, flr_of rfl (by simp) (fun _ => rfl), .nil⟩, rep_empty⟩ .nil
    ·simp only [if_true] at hm;subst hm;obtain ⟨hN, hSe⟩ := hS.slice _ _ hx (by simp; omega);by_cases hcap : m = 0
     ·subst hcap;have hlen : len = 0 := by omega
      subst hlen;exact .cons ⟨[], .sl .shared false [], ⟨Nat.zero_le _, by simp⟩, by simp only [RTy]; exact ⟨_, _, [], rfl, flr_of rfl (by simp) (fun _ => rfl), .nil⟩, rep_weird a⟩ .nil
     ·have hspot : a.spot = none := by
       obtain ⟨cs', hcs', _⟩ := hx' 0 (by omega);obtain ⟨_, hl1, hc1⟩ := World.cells?_some hcs';have h0 := hc1 0 (by omega);simp only [Nat.zero_mul] at h0;have : ∃ v0, cs'[0]? = some v0 := ⟨cs'[0]'(by omega), List.getElem?_eq_getElem (by omega)⟩
       obtain ⟨v0, hv0⟩ := this;rw [hv0] at h0;have := (cell_block h0).1;simpa [Addr.add] using this
      obtain ⟨b, off, spot⟩ := a;simp only at hspot;subst hspot;have hsz : ∀ i, i < m -> ∃ vals : List Value, vals.length = P.cellsOf e /\ (∀ j, j < P.cellsOf e -> w.cell? ⟨b, off + i * P.cellsOf e + j, none⟩ = vals[j]?) /\
        (i < len -> ∃ (y : τ.den) (u : V) (v : Value), Rng N τ y /\ RTy τ 1000 y u /\ Rep w (cx0 w) u v [] /\ v.cells.toList = vals) := fun i hi => by
       obtain ⟨cs', hcs', htr⟩ := hx' i hi;obtain ⟨_, hl1, hc1⟩ := World.cells?_some hcs';refine ⟨cs', hl1, fun j hj => ?_, fun hil => ?_⟩
       ·rw [<- hc1 j hj, Addr.add_lit, Addr.add_lit]
       ·have hSi : S (D i) := hSe _ (List.mem_map.2 ⟨i, List.mem_range.2 hil, rfl⟩);exact elem_ok hce hτ (open_cells hl hS d e cs1 hce hoe.2 n cs' _ hSi htr)
      have hn : τ.ncells = P.cellsOf e := by
       have := hoe.1.2;rw [hce] at this;simp only [Option.map_some, Option.some.injEq] at this;rw [hnc, this]
      obtain ⟨l, us, h1, h2, h3, h4⟩ := slice_rep (Nat.pos_of_ne_zero hoe.1.1) hlc hcap hel hn hsz;exact .cons ⟨l, .sl .shared false us, ⟨by rw [h1]; simpa using hN, h2⟩, by simp only [RTy]; exact ⟨_, _, us, rfl, flr_of rfl (by simp) (fun _ => rfl), h3⟩, h4⟩ .nil
  ·rename_i fields hu;obtain ⟨ht, hoe⟩ := hok;rw [hu] at hoe;simp only [List.all_eq_true] at hoe;obtain ⟨css, hcss, rfl⟩ := Option.map_eq_some_iff.1 hc;obtain ⟨hl1, hget⟩ := mapM_get hcss;obtain ⟨xs, n, _, rfl, hvl, hxl, hxs⟩ := DataW.trod_struct hu h;obtain ⟨_, hsum, hoff⟩ := kid_struct hl ht hu;refine glue css (fields.toList.map fun f => P.cellsOf f.type) vals (by simp [hl1]) (by rw [hvl, hsum]) fun j c s hcj hsj => ?_;rw [List.getElem?_map] at hsj;obtain ⟨fd, hfd, rfl⟩ := Option.map_eq_some_iff.1 hsj;obtain ⟨c', hc', hg⟩ := hget j fd hfd;rw [hcj] at hc'; cases hc';have hx1 := hxs j fd (by simpa using hfd);rw [hoff j fd hfd, List.map_take] at hx1;have hj : j < xs.length := by rw [hxl]; have := (List.getElem?_eq_some_iff.1 hfd).1; simpa using this
   rw [List.getElem?_eq_getElem hj] at hx1;exact open_cells hl hS d fd.type c hg (hoe fd (List.mem_of_getElem? hfd)) n _ _ (hS.agg _ hx _ (List.mem_map.2 ⟨xs[j], List.getElem_mem hj, rfl⟩)) hx1
  ·rename_i n' e hu;obtain ⟨ht, hoe⟩ := hok;rw [hu] at hoe;simp only at hoe;obtain ⟨cs1, hce, rfl⟩ := Option.map_eq_some_iff.1 hc;obtain ⟨_, hsum⟩ := kid_array hl ht hu;cases fuel with
   | zero => simp [DataW.trod] at h
   | succ fuel =>
    unfold DataW.trod at h;rw [hu] at h;simp only at h;split at h
    ·rename_i hvl;obtain ⟨xs, hxs, rfl⟩ := Option.map_eq_some_iff.1 h;obtain ⟨hxl, hget⟩ := mapM_get hxs;refine glue _ (List.replicate n' (P.cellsOf e)) vals (by simp) (by rw [hvl, hsum]; simp) fun j c s hcj hsj => ?_;have hjn : j < n' := by have := (List.getElem?_eq_some_iff.1 hcj).1; simpa using this
     rw [List.getElem?_replicate, if_pos hjn] at hcj hsj;cases hcj; cases hsj
     obtain ⟨b, hb, hg⟩ := hget j j (by simp [hjn]);have htk : ((List.replicate n' (P.cellsOf e)).take j).sum = j * P.cellsOf e := by
      rw [List.take_replicate]; simp [Nat.min_eq_left (Nat.le_of_lt hjn)]
     rw [htk];exact open_cells hl hS d e cs1 hce hoe fuel _ _ (hS.agg _ hx _ (List.mem_map.2 ⟨b, List.mem_of_getElem? hb, rfl⟩)) hg
    ·cases h
  ·cases hc
theorem open_arg (hl : laidOutB P = true) {N : Nat} {S : DataW H -> Prop} (hS : Sm N S) {t : TypeId} {τ : Ty} (hτ : tyOf P t = some τ) (hok : okT P 10 t = true) {v : Value} {d : DataW H} {ps : List MemPlace} {b0 : Nat} (hval : Value.okWide P w .any b0 t v)
  (h : DataW.Trod enc P w base (fun _ => true) held t v d ps) (hd : S d) : CellOk N w τ v := by
 obtain ⟨fuel, hf⟩ := h;unfold tyOf at hτ;split at hτ
 ·rename_i cs hc;have hall := open_cells hl hS 10 t cs hc hok fuel _ _ hd hf;split at hτ
  ·rename_i ha;cases hτ;obtain ⟨y, us, hy, hu, hr⟩ := pack_ok cs _ hall;have hv : ∃ c, v = .agg c := by
    unfold isAggT at ha;unfold Value.okWide at hval;split at ha
    ·rename_i fs hfs; rw [hfs] at hval; obtain ⟨c, hc, _⟩ := hval; exact ⟨c, hc⟩
    ·rename_i n e hfs; rw [hfs] at hval; obtain ⟨c, hc, _⟩ := hval; exact ⟨c, hc⟩
    ·cases ha
   obtain ⟨c, rfl⟩ := hv;refine ⟨y, .agg us, hy, hu, ?_⟩;simp only [Rep];exact ⟨c.toList, by simp, by simpa [Value.cells] using hr⟩
  ·rename_i ha
   match cs, hτ, hall with
   | τ' :: cs', hτ, hall =>
    simp only [List.head?_cons, Option.some.injEq] at hτ;subst hτ;have hone := cellsTy_ones 10 t _ hc τ' (by simp);have hv : v.cells.toList = [v] := by
     cases v with
     | agg c =>
      exfalso
      unfold isAggT at ha;unfold Value.okWide at hval;split at hval
      ·rename_i fs hfs; rw [hfs] at ha; simp at ha
      ·rename_i n e hfs; rw [hfs] at ha; simp at ha
      ·unfold Cell.okWide Cell.ok at hval;split at hval;all_goals first | (rename_i h1 h2; cases h2; done) | skip
       all_goals (split at hval <;> first | (exact hval.elim) | (rename_i h1 h2; cases h2))
     | _ => rfl
    rw [hv] at hall;cases hall with
    | cons h1 h2 => exact h1
 ·cases hτ
theorem open_args (hl : laidOutB P = true) {N : Nat} {S : DataW H -> Prop} (hS : Sm N S) {b0 : Nat} : ∀ (ts : List TypeId) (τs : List Ty) (vs : List Value) (ds : List (DataW H)) (ps : List MemPlace), ts.mapM (tyOf P) = some τs -> ts.all (okT P 10) = true ->
  (∀ (j : Nat) t v, ts[j]? = some t -> vs[j]? = some v -> Value.okWide P w .any b0 t v) -> DataW.TrodAll enc P w base (fun _ => true) held ts vs ds ps -> (∀ d ∈ ds, S d) ->
  ∃ x us, RngP N τs x /\ RVL (ofPms (τs.map .ty) x) us /\ RepL w (cx0 w) us vs []
 | [], τs, vs, ds, ps, hm, _, _, h, _ => by
  simp at hm; subst hm;obtain ⟨rfl, _, _⟩ := trodAll_nil h;exact ⟨(), [], trivial, rvl_nil, by simp [RepL]⟩
 | t :: ts, τs, vs, ds, ps, hm, hok, hval, h, hd => by
  simp only [List.mapM_cons, Option.bind_eq_bind, Option.bind_eq_some_iff] at hm;obtain ⟨τ, hτ, τs', hm', he⟩ := hm;cases he;simp only [List.all_cons, Bool.and_eq_true] at hok;obtain ⟨v, vs', d, ds', p, q, rfl, rfl, rfl, h1, h2⟩ := trodAll_cons h;obtain ⟨y, u, hy, hu, hr⟩ := open_arg hl hS hτ hok.1 (hval 0 t v rfl rfl) h1 (hd d (by simp));obtain ⟨x, us, hx, hus, hrs⟩ := open_args hl hS ts τs' vs' ds' q hm' hok.2 (fun j t' v' a b => hval (j + 1) t' v' (by simpa using a) (by simpa using b)) h2 fun d' hd' => hd d' (by simp [hd']);have hR : RepL w (cx0 w) (u :: us) (v :: vs') [] := by simp only [RepL]; exact ⟨v, vs', [], [], rfl, rfl, hr, hrs⟩
  cases τs' with
  | nil => exact ⟨y, u :: us, hy, (rvl_cons.2 ⟨rv_ofTy _ _ _ _ hu, hus⟩ : RVL (ofTy τ 1000 y :: []) (u :: us)), hR⟩
  | cons τ2 τs2 => exact ⟨(y, x), u :: us, ⟨hy, hx⟩, (rvl_cons.2 ⟨rv_ofTy _ _ _ _ hu, hus⟩ : RVL (ofTy τ 1000 y :: ofPms ((τ2 :: τs2).map .ty) x) (u :: us)), hR⟩
theorem trodAll_below (hl : laidOutB P = true) {W W' : World} (hb : Below W.heap.size W W') : ∀ {ts : List TypeId} {vs : List Value} {ds : List (DataW H)} {ps : List MemPlace}, ts.all (fun t => P.readableRec t && decide (t < P.types.size)) = true ->
  DataW.TrodAll enc P W 0 (fun _ => true) true ts vs ds ps -> (∀ x ∈ ps, x.block < W.heap.size) -> ∀ sp : Nat -> Bool, (∀ p ∈ ps, sp p.block = true) -> DataW.TrodAll enc P W' 0 sp true ts vs ds ps
 | [], [], [], ps, _, h, _, sp, _ => h
 | t :: ts, v :: vs, d :: ds, ps, hr, ⟨p, q, h1, h2, e⟩, hlt, sp, hsp => by
  simp only [List.all_cons, Bool.and_eq_true, decide_eq_true_eq] at hr;subst e;refine ⟨p, q, ?_, trodAll_below hl hb hr.2 h2 (fun x hx => hlt x (List.mem_append_right _ hx)) sp (fun x hx => hsp x (List.mem_append_right _ hx)), rfl⟩;exact WideElems.Trod_stays hl hr.1.1 hr.1.2 h1 (fun x hx => hb.same (hlt x (List.mem_append_left _ hx))) (fun x hx => hsp x (List.mem_append_left _ hx))
theorem lrel0 {w : World} : LRel [] w (cx0 w) (fun _ => []) where
 box := fun r c h => by simp [boxL] at h
 boxD := fun _ _ => rfl
 inj := fun r r' b h => by simp [boxL] at h
 lin := fun _ => Lin.nil
 dis := fun _ _ _ b hb => by cases hb
 ptrB := fun r c h => by simp [boxL] at h
 up := fun r c h => by simp [boxL] at h
 dom := fun b e fz h => (frozen0 h).2.1
theorem law_calls {H0 : Hints} {lib : FuncId -> Option (List V -> Option V)} (hm : P.follows .mixedOrders = true) (hname : NameOk P H0)
  (hlib : ∀ g h args r, lib g = some h -> h args = some r -> CallOk P g args [] r []) (hl : laidOutB P = true) {N : Nat} {S : DataW H -> Prop} (hS : Sm N S) {k : FuncId} {fn : Func} (hfn : P.funcs[k]? = some fn) (hbody : fn.body.isSome = true)
  {ts : List TypeId} {τs : List Ty} (hts : ts.mapM (tyOf P) = some τs) (hok : ts.all (okT P 10) = true) {F : denP (τs.map .ty) -> Option Bool}
  (he : EntryOk P H0 lib ⟨k, τs.map .ty, [(.bool, 0)], F⟩) (hF : ∀ x, RngP N τs x -> F x = some true)
  {W : World} {args : Array Value} {ds : List (DataW H)} {ps : List MemPlace} {b0 : Nat} (hval : ∀ (j : Nat) t v, ts[j]? = some t -> args.toList[j]? = some v -> Value.okWide P W .any b0 t v)
  (h : DataW.TrodAll enc P W 0 (fun _ => true) true ts args.toList ds ps) (hd : ∀ d ∈ ds, S d) :
  Calls P k args W fun e W' => e = .returned (.bool true) /\ Below W.heap.size W W' := by
 obtain ⟨x, us, hx, hus, hrs⟩ := open_args hl hS ts τs args.toList ds ps hts hok hval h hd;obtain ⟨v, hcall, hr⟩ := entry_call hm hname hlib he (x := x) (y := true) (hF x hx) hus;simp only [packT, ofL, packedT, ofTy, RV, RTy] at hr;subst hr;have hp : ptrsL us = [] := by
  apply List.eq_nil_iff_forall_not_mem.2;intro q hq;have hk : ∀ (τs : List Ty) (x : denP (τs.map .ty)), ptrsTL (ofPms (τs.map .ty) x) = [] := by
   have h1 : ∀ (τ : Ty) (y : τ.den), (ofTy τ 1000 y).ptrs = [] /\ ptrsTL (ofTyC τ 1000 y) = [] := by
    intro τ;induction τ with
    | pair a b iha ihb => intro y; simp [ofTy, ofTyC, TV.ptrs, ptrsTL, (iha y.1).1, (ihb y.2).2]
    | _ => intro y; simp [ofTy, ofTyC, TV.ptrs, ptrsTL]
   intro τs;induction τs with
   | nil => intro x; rfl
   | cons τ τs ih =>
    intro x;cases τs with
    | nil => show ptrsTL [ofTy τ 1000 x] = []; simp [ptrsTL, (h1 τ x).1]
    | cons τ2 τs2 => show ptrsTL (ofTy τ 1000 x.1 :: ofPms ((τ2 :: τs2).map .ty) x.2) = []; simp only [ptrsTL, (h1 τ x.1).1, List.nil_append]; exact ih x.2
  have := RVL.ptrs _ _ hus q hq;rw [hk] at this; cases this
 rcases hcall W (cx0 W) args.toList (fun _ => []) hrs lrel0 (fun q hq => by rw [hp] at hq; cases hq) (fun _ b e fz h => (frozen0 h).1) with ⟨_, hc⟩ | ⟨_, v, w', hv, _⟩
 ·refine (by simpa using hc : Calls P k args W _).mono ?_;rintro e W' ⟨v, rfl, X', O', Or, hrep, _, _, _, _, _, _, haft⟩;simp only [Rep] at hrep;obtain ⟨rfl, _⟩ := hrep;refine ⟨rfl, ⟨haft.os, haft.tape, haft.out, haft.size, fun b hb => ?_⟩⟩;exact (haft.kept b hb (by rintro (⟨r, h1, _⟩ | ⟨r, h1⟩) <;> simp [boxL] at h1)).1
 ·exfalso
  have hbs : fn.body.isNone = false := by cases hb : fn.body <;> simp_all
  simp only [callFunc, Sem.run_bind, run_program, Result.andThen_ok, hfn, hname.1 k fn hfn hbody, hbs, Bool.false_eq_true, if_false, Sem.run_pure] at hv;cases hv
end Go.Tx
end
section
namespace Go.Proofs.Ytkcaaaiihhhnmaa.Hn
open Go
def takeT : List (List Nat) := [[], [], [], [52, 58, 60, 62, 66, 68, 71, 81, 85, 87, 92, 95, 100, 103, 113, 117, 119, 142, 149, 150, 156, 158, 159, 164, 180], [5, 8, 10, 14, 16, 19, 24, 28], [], [], [14, 15, 19, 21], [16, 26, 34, 38, 40, 41, 45], [14, 15, 19, 21, 22], [24, 31, 34, 38, 46], [], [], [], [], [13], [12, 21, 23, 30, 38], [], [], [], [15, 31], [32, 44, 55, 65, 76, 85], [43], [6], [13], [], [9, 16], [47, 55], [], [], [], [8, 29], [], [11, 19, 33, 40, 57], [], [], [42, 66, 91, 93, 94, 98, 102, 109, 114, 115, 122, 124, 125, 133], [], [32, 38, 40, 49, 50, 52, 61, 62], [], [], [], [], [], [], [], [27], [], [33, 45, 47, 50, 53, 56], [], [], [7], [83], [80, 167], [], [], [], [18, 22, 23], [], [22, 23], [], [18], [22, 23], [], [13, 17], [17], [75], [], [32], [], [11, 19, 27, 35], [], [19], [17, 21, 24], [], [], [], [8, 14], [24, 25, 26, 27], [17], [17], [18, 22, 23], [20], [], [], [], [], [], [], [], [], [], [], [], [], [], [], [], [], []]
def clearT : List (List (Nat × List Nat)) := [[],
 [],
 [],
 [(0, [9, 12, 13, 14, 15, 16, 17, 18, 19, 20, 21, 22, 23, 24, 25, 75, 76, 77, 78, 79, 80, 81, 82, 83, 84, 85, 86, 87, 88, 89, 90, 91, 92, 93, 94, 95, 96, 97, 98, 99, 100, 101, 102, 103, 104, 105, 106, 107, 108, 109, 110, 111, 112, 113, 114, 115, 116, 117, 118, 119, 120, 121, 122, 123, 124, 125, 126, 127, 128, 129, 130, 131, 132, 133, 134, 135, 136, 137, 138, 139, 140, 141, 142, 143, 144, 145, 146, 147, 148, 149, 150, 151, 152, 153, 154, 155, 156, 157, 158, 159, 160, 161, 162, 163, 164, 165, 166, 167, 168, 169, 170, 171, 172, 173, 174, 175, 176, 177, 178, 179, 180, 181, 182, 183, 184, 185, 186, 187, 188]), (2, [9, 12, 19, 20, 21, 22, 23, 136, 137, 138, 139, 140, 141, 142, 143, 144, 145, 146, 147, 148, 149, 150, 151, 152, 153, 154, 155, 156, 157, 158, 159, 160, 161, 162, 163])],
 [],
 [],
 [],
 [],
 [(0, [9, 10, 20, 21, 22, 23, 24, 25, 26, 27, 28, 29, 30, 31, 32, 33, 34, 35, 36, 37, 38, 39, 40, 41, 42, 43, 44])],
 [],
 [(0, [10, 11, 12, 28, 29, 30, 31, 32, 33, 34, 35, 36, 37, 38, 39, 40, 41])],
 [],
 [],
 [],
 [(0, [6, 7, 8, 9, 10, 11, 12, 13, 14, 15, 16, 17])],
 [],
 [(0, [11, 27, 28, 29, 30, 31, 32, 33, 34, 35])],
 [],
 [],
 [(0, [11, 12, 13, 14, 15, 16, 17, 18, 19, 20, 21, 22, 23, 24, 25])],
 [],
 [(0, [9, 10, 11, 12, 13, 20, 21, 22, 23, 24, 25, 26, 27, 28, 29, 30, 31, 32, 33, 34, 35, 36, 37, 38, 39, 40, 41, 42, 43, 44, 45, 46, 47, 48, 49, 50, 51, 52, 53, 54, 55, 56, 57, 58, 59, 60, 61, 62, 63, 64, 65, 66, 67, 68, 69, 70, 71, 72, 73, 74, 75, 76, 77, 78, 79, 80, 81, 82, 83, 84, 85, 86, 87, 88, 89, 90]), (2, [33, 34, 35, 36, 37, 38, 39, 40, 41, 42, 43, 44, 45, 46, 47, 48, 49, 50, 51, 52]), (4, [9, 12, 13, 59, 60, 61, 62, 63, 64, 65, 66, 67, 68, 69, 70, 71, 72, 73, 74, 75, 76, 77, 78, 79, 80, 81, 82, 83, 84, 85, 86, 87, 88, 89, 90])],
 [],
 [],
 [(0, [4, 8, 9, 10, 11, 12, 13, 14])],
 [],
 [],
 [(0, [10, 11, 18, 19, 20, 21, 22, 23, 24, 25, 26, 27, 28, 29, 30, 31, 32, 33, 34, 35, 36, 37, 38, 39, 40, 41, 42, 43, 44, 45, 46, 47, 48, 49, 50, 51, 52, 53, 54])],
 [],
 [],
 [],
 [],
 [(0, [7, 8, 9, 10, 11, 12, 13, 14, 15, 16, 17, 18, 19, 20, 21, 22, 23, 24, 25, 26, 27])],
 [(0, [8, 29, 30, 31, 32, 33, 34, 35, 36, 37, 38, 39, 40, 41, 42, 43, 44, 45, 46, 47, 48]), (2, [10, 53, 54, 55, 56, 57, 58, 59, 60, 61, 62, 63])],
 [],
 [],
 [(0, [10, 11, 12, 13, 14, 15, 16, 17, 18, 19, 20, 21, 22, 23, 24, 25, 26, 27, 28, 29, 30, 31, 32, 33, 34, 35, 36, 37, 38, 39, 40, 41, 42, 43, 44, 45, 46, 47, 48, 49, 50, 51, 52, 53, 54, 55, 56, 57, 58, 59, 60, 61, 62, 63, 64, 65, 66, 67, 68, 69, 70, 71, 72, 73, 74, 75, 76, 77, 78, 79, 80, 81, 82, 83, 84, 85, 86, 87, 88, 89, 90, 91, 92, 93, 94, 95, 96, 97, 98, 99, 100, 101, 102, 103, 104, 105, 106, 107, 108, 109, 110, 111, 112, 113, 114, 115, 116, 117, 118, 119, 120, 121, 122, 123, 124, 125, 126, 127, 128, 129, 130, 131, 132, 133])],
 [],
 [],
 [],
 [],
 [],
 [],
 [(0, [5, 6, 11, 12, 13, 14, 15, 16, 17, 18, 19, 20, 21, 22, 23, 24, 25, 26, 27, 28, 29, 30, 31, 32, 33, 34, 35, 36, 37, 38])],
 [],
 [(0, [7, 10, 11, 12, 13, 14, 15, 16, 17, 18, 19, 20, 21, 22, 23, 24, 25, 26, 27, 28, 29, 30, 31, 32, 33, 34, 35, 36, 37, 38, 39, 40, 41, 42, 43, 44, 45, 46, 47, 48]), (2, [16, 17, 18, 19, 20, 21, 22, 23, 24, 25, 26, 27, 28, 29, 30, 31, 32, 33, 34, 35, 36, 37, 38, 39, 40, 41, 42, 43, 44, 45, 46, 47, 48])],
 [(0, [18, 19, 20, 21, 22, 23, 24, 25, 26]), (2, [29, 30, 31, 32, 33, 34, 35, 36, 37, 38, 39, 40, 41, 42, 43, 44, 45, 46, 47, 48, 49, 50, 51, 52, 53, 54, 55])],
 [(0, [10, 26, 27, 28, 29, 30, 31, 32, 33, 34, 35, 36, 37, 38, 39, 40, 41, 42, 43, 44, 45, 46, 47, 48, 49, 50, 51, 52, 53, 54, 55, 56, 57, 58, 59, 60, 61, 62, 63, 64])],
 [],
 [(0, [11, 12, 13, 14, 15, 16, 17, 18, 19, 20, 21, 22, 23, 24, 25, 26, 27, 28, 29, 30, 31])],
 [(0, [9, 10, 13, 14, 15, 16, 17, 18, 19, 20, 21, 22, 23, 24, 25, 26, 27, 28, 29, 30, 31, 32, 33, 34, 35, 36, 37, 38, 39, 40, 41, 42, 43, 44, 45, 46, 47, 48, 49, 50, 51, 52, 53, 54, 55, 56, 57, 58, 59, 60, 61, 62, 63, 64, 65, 66, 67, 68, 69, 70, 71, 72, 73, 74, 75, 76, 77, 78, 79, 80, 81, 82, 83, 84, 85, 86, 87, 88, 89, 90, 91, 92, 93, 94, 95, 96, 97, 98, 99, 100, 101, 102, 103, 104, 105, 106, 107, 108, 109, 110, 111, 112, 113, 114, 115, 116, 117, 118, 119, 120, 121, 122, 123, 124, 125, 126, 127, 128, 129, 130, 131, 132]), (2, [17, 18, 19, 20, 21, 22, 23, 24, 25, 26, 27, 28, 29, 30, 31, 32, 33, 34]), (4, [64, 65, 66, 67, 68, 69, 70, 71, 72, 73, 74, 75, 76, 77, 78, 79, 80, 81, 82, 83, 84, 85, 86, 87, 88, 89, 90, 91, 92, 93, 94]), (6, [101, 102, 103, 104, 105, 106, 107, 108, 109, 110, 111, 112, 113, 114, 115, 116, 117, 118, 119, 120, 121, 122, 123, 124, 125, 126, 127, 128, 129, 130, 131, 132])],
 [],
 [(0, [29, 30, 31, 32, 33, 34, 35, 36, 37, 38, 39, 40, 41, 42, 43, 44, 45, 46, 47, 48, 49, 50, 51, 52, 53, 54, 55, 56, 57, 58, 59, 60, 61, 62, 63, 64, 65, 66, 67, 68, 69, 70, 71, 72, 73, 74, 75, 76, 77, 78, 79, 80, 81, 82]), (2, [29, 30, 31, 32, 33, 34, 35, 36, 37, 38, 39, 40, 41, 42, 43, 44, 45]), (4, [46, 47, 48, 49, 50, 51, 52, 53, 54, 55, 56, 57, 58, 59, 60, 61])],
 [(0, [30, 31, 32, 33, 34, 35, 36, 37, 38, 39, 40, 41, 42, 43, 44, 45]), (2, [46, 47, 48, 49, 50, 51, 52, 53, 54, 55, 56, 57, 58, 59, 60, 61, 62]), (4, [99, 100, 101, 102, 103, 104, 105, 106, 107, 108, 109, 110, 111, 112, 113, 114, 115, 116, 117, 118, 119, 120, 121, 122, 123, 124, 125, 126, 127, 128, 129, 130, 131, 132, 133, 134, 135, 136, 137, 138, 139, 140, 141, 142, 143, 144, 145, 146, 147, 148, 149, 150, 151, 152]), (6, [99, 100, 101, 102, 103, 104, 105, 106, 107, 108, 109, 110, 111, 112, 113, 114]), (8, [115, 116, 117, 118, 119, 120, 121, 122, 123, 124, 125, 126, 127, 128, 129, 130, 131])],
 [],
 [],
 [],
 [(0, [6, 7, 8, 12, 13, 14, 15, 16, 17, 18, 19, 20, 21, 22, 23, 24])],
 [],
 [(0, [6, 7, 8, 12, 13, 14, 15, 16, 17, 18, 19, 20, 21, 22, 23, 24])],
 [],
 [],
 [(0, [6, 7, 8, 12, 13, 14, 15, 16, 17, 18, 19, 20, 21, 22, 23, 24])],
 [],
 [(0, [5, 9, 10, 11, 12, 13, 14, 15, 16])],
 [(0, [5, 9, 10, 11, 12, 13, 14, 15, 16, 17, 18])],
 [(0, [9, 11, 12, 13, 14, 15, 16, 17, 18, 19, 20, 21, 22, 23, 24, 25, 26, 27, 28, 29, 30, 31, 32, 33, 34, 35, 36, 37, 38, 39, 40, 41, 42, 43, 44, 45, 46, 47, 48, 49, 50, 51, 52, 53, 54, 55, 56, 57, 58, 59, 60, 61, 62, 63, 64, 65, 66, 67, 68, 69, 70, 71, 72, 73, 74, 75])],
 [],
 [],
 [],
 [],
 [],
 [],
 [(0, [3, 4, 5, 9, 10, 11, 12, 13, 14, 15, 16, 17, 18, 19, 20, 21, 22, 23, 24, 25, 26, 27, 28, 29, 30, 31, 32, 33, 34, 35, 36])],
 [],
 [],
 [],
 [],
 [],
 [(0, [5, 9, 10, 11, 12, 13, 14, 15, 16, 17, 18])],
 [(0, [5, 9, 10, 11, 12, 13, 14, 15, 16, 17, 18])],
 [(0, [6, 7, 8, 12, 13, 14, 15, 16, 17, 18, 19, 20, 21, 22, 23, 24])],
 [],
 [],
 [],
 [],
 [],
 [],
 [],
 [],
 [],
 [],
 [],
 [],
 [],
 [],
 [],
 [],
 [],
 []]
def linkT : List (List Nat) := [[], [], [], [], [], [], [], [], [], [], [], [], [], [], [], [], [], [], [], [], [], [], [], [], [], [], [], [], [], [], [], [], [14, 16, 26, 27], [], [], [], [], [], [], [], [], [], [], [], [], [33, 35, 47, 48], [33, 35, 49, 50], [47, 49, 63, 64], [], [14, 16, 26, 27], [42, 44, 56, 57, 79, 81, 93, 94, 117, 119, 131, 132], [], [11, 13, 23, 24, 65, 67, 77, 78], [12, 14, 24, 25, 66, 68, 78, 79, 81, 83, 93, 94, 135, 137, 147, 148, 153, 155, 165, 166], [], [], [], [], [], [], [], [], [], [], [], [], [53, 57, 73, 74], [], [], [], [], [], [], [], [], [], [], [], [], [], [], [], [], [], [], [], [], [], [], [], [], [], [], [], [], [], [], [], [], []]
def preciseT : List Nat := []
def peekT : List Nat := []
def mapsT : List Nat := [81, 85, 130]
def bornT : List Nat := [56]
def preT : List (Nat × List (Nat × List Nat)) := [(27, [(14, [9, 18, 19, 20, 21, 22, 23, 24, 25, 26, 27, 28, 29, 30, 31, 32, 33, 34, 35, 36, 37, 38])])]
def turnF (f : Nat) : Option (List Int -> Option (List Int)) := if f = 28 then some Ab.sortO else if f = 32 then some Ab.revO else none
def pairsT : List (List (Nat × List (Nat × Nat))) := [[],
 [],
 [],
 [(18, [(0, 1), (0, 3), (1, 3)]), (38, [(0, 1), (0, 6), (1, 6), (0, 9), (1, 9), (0, 11), (1, 11), (0, 16), (1, 16), (6, 16), (9, 16), (11, 16), (12, 16)])],
 [],
 [],
 [],
 [],
 [],
 [],
 [],
 [],
 [],
 [],
 [],
 [],
 [],
 [],
 [],
 [(6, [(3, 7)])],
 [],
 [(17, [(0, 5), (0, 11), (5, 11), (7, 11)])],
 [(5, [(0, 2), (0, 4), (2, 4), (0, 5), (0, 8), (0, 11), (8, 11), (0, 14), (8, 14), (11, 14), (0, 15)])],
 [],
 [],
 [],
 [(2, [(0, 5), (0, 7), (0, 8), (0, 10)])],
 [(6, [(0, 1), (0, 2), (1, 2), (0, 5)]), (7, [(0, 1), (0, 2), (1, 2), (0, 5)])],
 [],
 [],
 [],
 [(2, [(1, 4), (1, 7), (4, 7)])],
 [(3, [(7, 11)])],
 [(8, [(1, 3), (1, 4), (1, 8), (3, 8), (4, 8), (1, 10), (3, 10), (4, 10), (8, 10), (8, 11)]), (13, [(1, 2), (1, 3)])],
 [],
 [],
 [(17, [(7, 11)])],
 [],
 [],
 [(1, [(1, 4), (2, 4)])],
 [],
 [],
 [],
 [(3, [(6, 7), (14, 18), (17, 18)])],
 [],
 [(4, [(7, 12)]), (6, [(9, 13)])],
 [(10, [(11, 15)])],
 [(10, [(11, 15)])],
 [],
 [(3, [(7, 11)])],
 [(5, [(7, 12)]), (11, [(9, 13)]), (16, [(3, 8)]), (17, [(9, 13)]), (22, [(3, 8)]), (23, [(9, 13)])],
 [],
 [(1, [(7, 11)]), (3, [(7, 11)]), (5, [(7, 11)]), (8, [(7, 11)])],
 [(1, [(7, 11)]), (3, [(7, 11)]), (5, [(7, 11)]), (8, [(7, 11)]), (10, [(7, 11)]), (13, [(7, 11)]), (15, [(7, 11)]), (18, [(7, 11)]), (21, [(7, 11)])],
 [],
 [],
 [],
 [],
 [],
 [],
 [(1, [(0, 2), (0, 5), (2, 5), (3, 5), (0, 6), (2, 6), (3, 6), (5, 6), (0, 9), (2, 9), (3, 9), (5, 9), (6, 9), (7, 9), (0, 10), (2, 10), (3, 10), (5, 10), (6, 10), (7, 10), (9, 10)])],
 [(2, [(1, 5), (3, 5)])],
 [],
 [],
 [],
 [],
 [(3, [(10, 17)]), (5, [(5, 11)]), (6, [(13, 19)])],
 [],
 [(1, [(2, 5)]), (2, [(2, 5)]), (3, [(2, 5)])],
 [],
 [],
 [],
 [(1, [(1, 3), (2, 3), (1, 5), (2, 5), (1, 7), (2, 7), (3, 7), (5, 7)])],
 [],
 [],
 [],
 [],
 [],
 [(1, [(3, 7)])],
 [],
 [],
 [],
 [(1, [(1, 6), (3, 6), (4, 6)])],
 [],
 [],
 [],
 [],
 [],
 [],
 [],
 [],
 [],
 [],
 [],
 [],
 [],
 [],
 [],
 [],
 []]
def lookP : List (Nat × List (Nat × Nat)) -> Nat -> List (Nat × Nat)
 | [], _ => []
 | (k, c) :: l, b => if k = b then c else lookP l b
def look : List (Nat × List Nat) -> Nat -> List Nat
 | [], _ => []
 | (k, c) :: l, b => if k = b then c else look l b
def lookF : List (Nat × List (Nat × List Nat)) -> Nat -> List (Nat × List Nat)
 | [], _ => []
 | (k, c) :: l, b => if k = b then c else lookF l b
def hints : Ab.Hints := {
 take := fun f t => (takeT.getD f []).contains t
 clear := fun f b => look (clearT.getD f []) b
 precise := fun f => preciseT.contains f
 pairs := fun f b => lookP (pairsT.getD f []) b
 link := fun f t => (linkT.getD f []).contains t
 peek := fun f => peekT.contains f
 mapT := fun t => mapsT.contains t
 born := fun f => bornT.contains f
 turn := turnF
 pre := fun f b => look (lookF preT f) b }
end Go.Proofs.Ytkcaaaiihhhnmaa.Hn
end
section
namespace Go.Ab
open Go
variable {P : Program}
def sameVal : Value -> Value -> Bool
 | .int k n, .int k' n' => decide (k = k') && decide (n = n')
 | .bool b, .bool b' => b == b'
 | .slice none 0 0, .slice none 0 0 => true
 | .string s, .string s' => decide (s.data.toList = s'.data.toList)
 | _, _ => false
mutual
def V.same : V -> V -> Bool
 | .val a, .val b => sameVal a b
 | .sl f c l, .sl f' c' l' => decide (f = f') && c == c' && sameL l l'
 | .agg l, .agg l' => sameL l l'
 | .tuple l, .tuple l' => sameL l l'
 | _, _ => false
def sameL : List V -> List V -> Bool
 | [], [] => true
 | x :: l, y :: l' => x.same y && sameL l l'
 | _, _ => false
end
theorem sameVal_eq {a b : Value} (h : sameVal a b = true) : a = b := by
 unfold sameVal at h;split at h
 ·simp_all
 ·simp_all
 ·rfl
 ·rename_i s s';have h1 := of_decide_eq_true h;obtain ⟨⟨l⟩⟩ := s;obtain ⟨⟨l'⟩⟩ := s';simp only at h1;rw [h1]
 ·cases h
mutual
theorem same_eq : ∀ (x y : V), x.same y = true -> x = y
 | .val a, y, h => by cases y <;> simp only [V.same] at h <;> first | (rw [sameVal_eq h]) | cases h
 | .sl f c l, y, h => by
  cases y <;> simp only [V.same] at h <;> try (cases h; done)
  simp only [Bool.and_eq_true, decide_eq_true_eq, beq_iff_eq] at h;rw [h.1.1, h.1.2, sameL_eq _ _ h.2]
 | .agg l, y, h => by
  cases y <;> simp only [V.same] at h <;> try (cases h; done)
  rw [sameL_eq _ _ h]
 | .tuple l, y, h => by
  cases y <;> simp only [V.same] at h <;> try (cases h; done)
  rw [sameL_eq _ _ h]
 | .undef, y, h | .ptr .., y, h | .cptr .., y, h | .fn .., y, h | .yld _, y, h | .mref _, y, h | .bsl .., y, h | .mp _, y, h | .iface .., y, h | .lp .., y, h | .room .., y, h => by cases y <;> simp [V.same] at h
theorem sameL_eq : ∀ (l m : List V), sameL l m = true -> l = m
 | [], [], _ => rfl
 | [], y :: m, h => by simp [sameL] at h
 | x :: l, [], h => by simp [sameL] at h
 | x :: l, y :: m, h => by
  simp only [sameL, Bool.and_eq_true] at h;rw [same_eq x y h.1, sameL_eq l m h.2]
end
structure Ran where
 g : FuncId
 args : List V
 r : V
def libOf (t : List Ran) (g : FuncId) : Option (List V -> Option V) :=
 if t.any (fun e => decide (e.g = g)) then some (fun args => (t.find? fun e => decide (e.g = g) && sameL e.args args).map (·.r)) else none
theorem libOf_ok {t : List Ran} (h : ∀ e ∈ t, CallOk P e.g e.args [] e.r []) : ∀ g f args r, libOf t g = some f -> f args = some r -> CallOk P g args [] r [] := by
 intro g f args r hf hr;unfold libOf at hf;split at hf
 ·cases hf;obtain ⟨e, he, rfl⟩ := Option.map_eq_some_iff.1 hr;have h1 := List.find?_some he;simp only [Bool.and_eq_true, decide_eq_true_eq] at h1;rw [<- h1.1, <- sameL_eq _ _ h1.2];exact h e (List.mem_of_find?_eq_some he)
 ·cases hf
theorem ran_ok {H : Hints} (hm : P.follows .mixedOrders = true) (hname : NameOk P H) {t : List Ran} (ht : ∀ e ∈ t, CallOk P e.g e.args [] e.r []) (n : Nat) (e : Ran)
  (h : (match (orcN P H (libOf t) n).call e.g e.args [] with | some (r, []) => r.same e.r | _ => false) = true) : CallOk P e.g e.args [] e.r [] := by
 split at h
 ·rename_i r hr;rw [<- same_eq _ _ h];exact (orcN_ok hm hname (libOf_ok ht) n).call _ _ _ _ _ hr
 ·cases h
end Go.Ab
end
section
namespace Go.Proofs.Ytkcaaaiihhhnmaa.Tn
open Go Go.Ab Go.Sort
def l112_ren : Go.Shelf.Ren := ⟨fun | 112 => 32 | n => n, fun | 28 => 28 | 3 => 3 | 4 => 4 | 0 => 0 | n => n, fun n => n⟩
theorem l112 : Lays.n112 Try.prog l112_ren where
 mixed := by kernel_rfl
 f112 := Try.func32.trans (congrArg some (by kernel_rfl))
 t0 := Try.underlying0
 a0 := Try.isAgg0
 z0 := Try.sizeOf0
 v0 := Try.zeroValue0
 t3 := Try.underlying3
 a3 := Try.isAgg3
 z3 := Try.sizeOf3
 v3 := Try.zeroValue3
 t4 := Try.underlying4
 a4 := Try.isAgg4
 z4 := Try.sizeOf4
 v4 := Try.zeroValue4
 t28 := Try.underlying28
 a28 := Try.isAgg28
 z28 := Try.sizeOf28
 v28 := Try.zeroValue28
def l189_ren : Go.Shelf.Ren := ⟨fun | 189 => 28 | 125 => 37 | 257 => 36 | 128 => 54 | 129 => 55 | 294 => 45 | 295 => 46 | 296 => 47 | 297 => 48 | 298 => 49 | 299 => 50 | 216 => 51 | 300 => 52 | 301 => 53 | 328 => 66 | 329 => 67 | 330 => 68 | 331 => 69 | 332 => 70 | 215 => 71 | 343 => 78 | n => n, fun | 28 => 28 | 3 => 3 | 46 => 91 | 0 => 0 | 51 => 109 | 53 => 111 | 4 => 4 | 183 => 102 | 182 => 101 | 131 => 106 | 5 => 5 | 9 => 9 | 218 => 123 | 222 => 127 | 228 => 134 | 229 => 135 | n => n, fun n => n⟩
theorem l189 : Lays.n189 Try.prog l189_ren where
 mixed := by kernel_rfl
 f125 := Try.func37.trans (congrArg some (by kernel_rfl))
 f128 := Try.func54.trans (congrArg some (by kernel_rfl))
 f129 := Try.func55.trans (congrArg some (by kernel_rfl))
 f189 := Try.func28.trans (congrArg some (by kernel_rfl))
 f215 := Try.func71.trans (congrArg some (by kernel_rfl))
 f216 := Try.func51.trans (congrArg some (by kernel_rfl))
 f257 := Try.func36.trans (congrArg some (by kernel_rfl))
 f294 := Try.func45.trans (congrArg some (by kernel_rfl))
 f295 := Try.func46.trans (congrArg some (by kernel_rfl))
 f296 := Try.func47.trans (congrArg some (by kernel_rfl))
 f297 := Try.func48.trans (congrArg some (by kernel_rfl))
 f298 := Try.func49.trans (congrArg some (by kernel_rfl))
 f299 := Try.func50.trans (congrArg some (by kernel_rfl))
 f300 := Try.func52.trans (congrArg some (by kernel_rfl))
 f301 := Try.func53.trans (congrArg some (by kernel_rfl))
 f328 := Try.func66.trans (congrArg some (by kernel_rfl))
 f329 := Try.func67.trans (congrArg some (by kernel_rfl))
 f330 := Try.func68.trans (congrArg some (by kernel_rfl))
 f331 := Try.func69.trans (congrArg some (by kernel_rfl))
 f332 := Try.func70.trans (congrArg some (by kernel_rfl))
 f343 := Try.func78.trans (congrArg some (by kernel_rfl))
 t0 := Try.underlying0
 a0 := Try.isAgg0
 z0 := Try.sizeOf0
 v0 := Try.zeroValue0
 t3 := Try.underlying3
 a3 := Try.isAgg3
 z3 := Try.sizeOf3
 v3 := Try.zeroValue3
 t4 := Try.underlying4
 a4 := Try.isAgg4
 z4 := Try.sizeOf4
 v4 := Try.zeroValue4
 t5 := Try.underlying5
 a5 := Try.isAgg5
 z5 := Try.sizeOf5
 v5 := Try.zeroValue5
 t9 := Try.underlying9
 a9 := Try.isAgg9
 z9 := Try.sizeOf9
 v9 := Try.zeroValue9
 t28 := Try.underlying28
 a28 := Try.isAgg28
 z28 := Try.sizeOf28
 v28 := Try.zeroValue28
 t46 := Try.underlying91
 a46 := Try.isAgg91
 z46 := Try.sizeOf91
 v46 := Try.zeroValue91
 t51 := Try.underlying109
 a51 := Try.isAgg109
 z51 := Try.sizeOf109
 v51 := Try.zeroValue109
 t53 := Try.underlying111
 a53 := Try.isAgg111
 z53 := Try.sizeOf111
 v53 := Try.zeroValue111
 t131 := Try.underlying106
 a131 := Try.isAgg106
 z131 := Try.sizeOf106
 v131 := Try.zeroValue106
 t182 := Try.underlying101
 a182 := Try.isAgg101
 z182 := Try.sizeOf101
 v182 := Try.zeroValue101
 t183 := Try.underlying102
 a183 := Try.isAgg102
 z183 := Try.sizeOf102
 v183 := Try.zeroValue102
 t218 := Try.underlying123
 a218 := Try.isAgg123
 z218 := Try.sizeOf123
 v218 := Try.zeroValue123
 t222 := Try.underlying127
 a222 := Try.isAgg127
 z222 := Try.sizeOf127
 v222 := Try.zeroValue127
 t228 := Try.underlying134
 a228 := Try.isAgg134
 z228 := Try.sizeOf134
 v228 := Try.zeroValue134
 t229 := Try.underlying135
 a229 := Try.isAgg135
 z229 := Try.sizeOf135
 v229 := Try.zeroValue135
theorem enters {g : FuncId} {fn : Func} (hfn : Try.prog.funcs[g]? = some fn) (hb : fn.body.isSome = true) (hn : (fn.name == "runtime.NumGoroutine") = false) (args : Array Value) (w : World) : (callFunc g args).run Try.prog w = .ok (.enter g args) w := by
 have hbs : fn.body.isNone = false := by cases h : fn.body <;> simp_all
 simp only [callFunc, Sem.run_bind, run_program, Result.andThen_ok, hfn, hn, hbs, Bool.false_eq_true, if_false, Sem.run_pure]
theorem holds_of {w : World} {b off : Nat} {arr : Array Value} {ty : TypeId} {zs : List Int} (hw : w.heap[b]? = some (.cells arr ty (0, 0))) (hs : Seg w b off (zs.map (Value.int .i64))) : Holds (Value.int .i64) w b off zs.toArray := by
 intro j hj;have hj' : j < zs.length := by simpa using hj
 refine ⟨?_, ?_⟩
 ·have := hs j (.int .i64 zs[j]) (by simp [hj']);rw [this];simp [getElem!_pos, hj']
 ·simp [World.frozen?, hw]
theorem putRow_turned {w : World} {b off n : Nat} {arr : Array Value} {ty : TypeId} {zs : List Int} (os : Array Obj) (hw : w.heap[b]? = some (.cells arr ty (0, 0))) (hle : off + zs.length <= arr.size) :
  Turned w b off (zs.map (Value.int .i64)) (grow (putRow (Value.int .i64) (Sort.ahead w n) b off zs.toArray) os) := by
 refine ⟨putRow (Value.int .i64) w b off zs.toArray, n, os, rfl, by simp [putRow, mapBlock], fun k hk => ?_, fun arr' ty' hw' => ?_, rfl, rfl, rfl⟩
 ·simp only [putRow, mapBlock, Array.getElem?_modify];rw [if_neg (Ne.symm hk)]
 ·rw [hw] at hw'; cases hw';simp only [putRow, mapBlock, Array.getElem?_modify, if_true, hw, Option.map_some, onCells];congr 2
  apply Array.ext_getElem?;intro i;have e1 : (Ab.rowAt arr off (zs.map (Value.int .i64)))[i]? = (Ab.rowAt arr off (zs.map (Value.int .i64))).toList[i]? := by simp
  rw [e1];unfold Ab.rowAt;rw [spliceV_at (by simpa using hle)];unfold putCells;simp only [Array.getElem?_mapIdx, List.length_map, List.size_toArray];by_cases hi : off <= i /\ i < off + zs.length
  ·rw [if_pos hi];have hlt : i < arr.size := by omega
   have h2 : i - off < zs.length := by omega
   rw [Array.getElem?_eq_getElem hlt];simp only [Option.map_some, hi, and_self, if_true, List.getElem?_map, List.getElem?_eq_getElem h2];simp [getElem!_pos, h2]
  ·rw [if_neg hi];cases h3 : arr[i]? with
   | none =>
    have : arr.toList[i]? = none := by simpa using h3
    rw [this]; rfl
   | some x =>
    have : arr.toList[i]? = some x := by simpa using h3
    rw [this]; simp [hi]
theorem rev_ok : TurnOk Try.prog 32 revO := by
 intro zs zs' hz;unfold revO at hz;split at hz
 ·rename_i hle;simp only [Option.some.injEq] at hz;subst hz;refine ⟨by simp, fun hne w b off cap arr ty hw hfit hs hcap => ?_, fun h0 w a cap => ?_⟩
  ·refine .inl ⟨enters Try.func32 (by kernel_rfl) (by kernel_rfl) _ _, ?_⟩;refine (Any.slices_Reverse_int l112 b off cap zs w (holds_of hw hs) (by omega)).mono ?_;rintro e w' ⟨rfl, n, rfl⟩;have h := putRow_turned (n := n) #[] hw (zs := zs.reverse) (by simpa using hfit);exact ⟨_, rfl, by simpa using h⟩
  ·refine .inl ⟨enters Try.func32 (by kernel_rfl) (by kernel_rfl) _ _, ?_⟩;refine (Any.slices_Reverse_int_empty l112 a cap w).mono ?_;rintro e w' ⟨rfl, rfl⟩;exact ⟨_, rfl, 0, #[], by simp⟩
 ·cases hz
theorem insI_perm (x : Int) : ∀ l : List Int, (insI x l).Perm (x :: l)
 | [] => .refl _
 | y :: l => by
  unfold insI;split
  ·exact .refl _
  ·exact ((insI_perm x l).cons y).trans (.swap x y l)
theorem isort_perm : ∀ l : List Int, (isortI l).Perm l
 | [] => .refl _
 | x :: l => (insI_perm x _).trans ((isort_perm l).cons x)
theorem insI_sorted (x : Int) : ∀ l : List Int, l.Pairwise (· <= ·) -> (insI x l).Pairwise (· <= ·)
 | [], _ => by simp [insI]
 | y :: l, h => by
  unfold insI;rw [List.pairwise_cons] at h;split
  ·rename_i hxy;refine List.pairwise_cons.2 ⟨fun z hz => ?_, List.pairwise_cons.2 h⟩;rcases List.mem_cons.1 hz with rfl | hz
   ·exact hxy
   ·exact Int.le_trans hxy (h.1 z hz)
  ·rename_i hxy;refine List.pairwise_cons.2 ⟨fun z hz => ?_, insI_sorted x l h.2⟩;rcases List.mem_cons.1 ((insI_perm x l).mem_iff.1 hz) with rfl | hz
   ·omega
   ·exact h.1 z hz
theorem isort_sorted : ∀ l : List Int, (isortI l).Pairwise (· <= ·)
 | [] => .nil
 | x :: l => insI_sorted x _ (isort_sorted l)
theorem sorted_uniq : ∀ {l m : List Int}, l.Pairwise (· <= ·) -> m.Pairwise (· <= ·) -> l.Perm m -> l = m
 | [], m, _, _, h => (List.nil_perm.1 h).symm
 | x :: l, [], _, _, h => absurd (List.perm_nil.1 h) (by simp)
 | x :: l, y :: m, hl, hm, h => by
  rw [List.pairwise_cons] at hl hm;have h1 : x <= y := by
   rcases List.mem_cons.1 (h.mem_iff.2 (List.mem_cons_self : y ∈ y :: m)) with e | e
   ·omega
   ·exact hl.1 y e
  have h2 : y <= x := by
   rcases List.mem_cons.1 (h.mem_iff.1 (List.mem_cons_self : x ∈ x :: l)) with e | e
   ·omega
   ·exact hm.1 x e
  have e : x = y := by omega
  subst e;rw [sorted_uniq hl.2 hm.2 (List.Perm.cons_inv h)]
theorem isort_eq (zs : List Int) : zs.mergeSort (fun x y => decide (x <= y)) = isortI zs := by
 refine sorted_uniq ?_ (isort_sorted zs) ((List.mergeSort_perm zs _).trans (isort_perm zs).symm);have := List.pairwise_mergeSort (le := fun x y : Int => decide (x <= y)) (fun a b c h1 h2 => by simp only [decide_eq_true_eq] at *; omega) (fun a b => by simp only [Bool.or_eq_true, decide_eq_true_eq]; omega) zs;exact this.imp fun h => by simpa using h
theorem sort_ok : TurnOk Try.prog 28 sortO := by
 intro zs zs' hz;unfold sortO at hz;split at hz
 ·rename_i hle;simp only [Option.some.injEq] at hz;subst hz;have hlen : (isortI zs).length = zs.length := (isort_perm zs).length_eq;refine ⟨hlen, fun hne w b off cap arr ty hw hfit hs hcap => ?_, fun h0 w a cap => ?_⟩
  ·refine .inl ⟨enters Try.func28 (by kernel_rfl) (by kernel_rfl) _ _, ?_⟩;refine (Any.slices_Sort_int l189 b off cap zs w (holds_of hw hs) (Array.getElem?_eq_some_iff.1 hw).1 (by omega)).mono ?_;rintro e w' ⟨rfl, n, os, rfl⟩;rw [isort_eq];exact ⟨_, rfl, putRow_turned os hw (by rw [hlen]; exact hfit)⟩
  ·refine .inl ⟨enters Try.func28 (by kernel_rfl) (by kernel_rfl) _ _, ?_⟩;refine (Any.slices_Sort_int_none l189 a cap w).mono ?_;rintro e w' ⟨rfl, rfl⟩;exact ⟨_, rfl, 0, #[], by simp⟩
 ·cases hz
end Go.Proofs.Ytkcaaaiihhhnmaa.Tn
namespace Go.Proofs.Ytkcaaaiihhhnmaa
open Go Go.Ab
theorem turns : TurnsOk Try.prog Hn.hints := by
 intro g F h;simp only [Hn.hints, Hn.turnF] at h;split at h
 ·rename_i e; subst e; cases h; exact Tn.sort_ok
 split at h
 ·rename_i e; subst e; cases h; exact Tn.rev_ok
 cases h
end Go.Proofs.Ytkcaaaiihhhnmaa
end
section
set_option maxRecDepth 100000
namespace Go.Proofs.Ytkcaaaiihhhnmaa.St0
open Go Go.Ab Go.Tx
noncomputable section
@[reducible] def I : Ty := .int .i64
@[reducible] def w64 (n : Int) : Int := IntKind.wrap .i64 n
def lookJ : List (List Tmp × FuncId × Kind × Join) -> List Tmp -> FuncId -> Kind -> Option Join
 | [], _, _, _ => none
 | (c, f, k, j) :: l, c', f', k' => if f = f' then (if k = k' then (if c = c' then some j else lookJ l c' f' k') else lookJ l c' f' k') else lookJ l c' f' k'
def mkTH (js : List (List Tmp × FuncId × Kind × Join)) (inl : List (List Tmp × FuncId × Tmp)) : TH where
 lib := fun _ => false
 join := lookJ js
 inl := fun c f d => inl.any fun (c', f', d') => decide (f = f') && decide (d = d') && decide (c = c')
def Lb : FuncId -> Option (List V -> Option V) := fun _ => none
theorem hJ {js : List (List Tmp × FuncId × Kind × Join)} {inl : List (List Tmp × FuncId × Tmp)} : ∀ g, (mkTH js inl).lib g = false -> Lb g = none := fun g h => rfl
def safety_within (a0 : Int) (a1 : Int) (a2 : Int) : Option Bool :=
 (bif decide (a1 <= a0) then
   some (decide (a0 <= a2))
  else
   some false).bind fun (p1 : Bool) =>
 some p1
def e_safety_within : Entry := ⟨29, [.ty I, .ty I, .ty I], [(.bool, 0)], fun x => safety_within x.1 x.2.1 x.2.2⟩
def j_safety_within : TH := mkTH [([], 29, .region 1, { lv := [⟨none, 6, 0⟩], ps := [(.bool, 0)], D := ⟨32704⟩ })] []
theorem k_safety_within (x : denP e_safety_within.ps) : fnT Try.prog Hn.hints j_safety_within (tabT []) 40 29 (ofPms e_safety_within.ps x) e_safety_within.rs = e_safety_within.F x := by kernel_rfl
theorem o_safety_within : EntryOk Try.prog Hn.hints Lb e_safety_within := entry_ok tab_nil hJ 40 _ _ _ _ k_safety_within
def safety_isSized (a0 : Int) (a1 : Int) : Option Bool :=
 (safety_within a0 (w64 (0 - a1)) a1).bind fun x1 =>
 some x1
def e_safety_isSized : Entry := ⟨30, [.ty I, .ty I], [(.bool, 0)], fun x => safety_isSized x.1 x.2⟩
def j_safety_isSized : TH := mkTH [] []
theorem k_safety_isSized (x : denP e_safety_isSized.ps) : fnT Try.prog Hn.hints j_safety_isSized (tabT [e_safety_within]) 40 30 (ofPms e_safety_isSized.ps x) e_safety_isSized.rs = e_safety_isSized.F x := by kernel_rfl
theorem o_safety_isSized : EntryOk Try.prog Hn.hints Lb e_safety_isSized := entry_ok (tab_cons o_safety_within tab_nil) hJ 40 _ _ _ _ k_safety_isSized
def safety_unless (a0 : Bool) (a1 : Int) : Option Int :=
 bif a0 then
  some 0
 else
  some a1
def e_safety_unless : Entry := ⟨23, [.ty .bool, .ty I], [(I, 0)], fun x => safety_unless x.1 x.2⟩
def j_safety_unless : TH := mkTH [] []
theorem k_safety_unless (x : denP e_safety_unless.ps) : fnT Try.prog Hn.hints j_safety_unless (tabT []) 40 23 (ofPms e_safety_unless.ps x) e_safety_unless.rs = e_safety_unless.F x := by kernel_rfl
theorem o_safety_unless : EntryOk Try.prog Hn.hints Lb e_safety_unless := entry_ok tab_nil hJ 40 _ _ _ _ k_safety_unless
def safety_first (a0 : (List Int)) : Option Int :=
 (loopO (fun (s2 : Int) =>
   bif decide (s2 < (a0.length : Int)) then
    (idx a0 s2).bind fun x3 =>
    bif !(decide (x3 = 0)) then
     some (.inr (.inr x3))
    else
     some (.inl (w64 (s2 + 1)))
   else
    some (.inr (.inl ()))) 0).bind (Sum.elim (fun (p4 : Unit) =>
 some 0) some)
def e_safety_first : Entry := ⟨24, [.ty (.sl I)], [(I, 0)], fun x => safety_first x⟩
def j_safety_first : TH := mkTH [([], 24, .block 0, { lv := [], ps := [], abn := true, D := ⟨32656⟩ }),
 ([], 24, .loop 0, { lv := [⟨none, 7, 0⟩], ps := [(I, 0)], D := ⟨32656⟩ })] []
theorem k_safety_first (x : denP e_safety_first.ps) : fnT Try.prog Hn.hints j_safety_first (tabT []) 40 24 (ofPms e_safety_first.ps x) e_safety_first.rs = e_safety_first.F x := by kernel_rfl
theorem o_safety_first : EntryOk Try.prog Hn.hints Lb e_safety_first := entry_ok tab_nil hJ 40 _ _ _ _ k_safety_first
def safety_CheckLimits (a0 : (Int × Int × Int × Int × Int × Unit)) : Option Int :=
 ((safety_isSized a0.1 (60 : Int)).bind fun x1 =>
  bif x1 then
   (safety_isSized a0.2.1 (60 : Int)).bind fun x2 =>
   bif x2 then
    (safety_within a0.2.2.1 (1 : Int) (8 : Int)).bind fun x3 =>
    bif x3 then
     (safety_within a0.2.2.2.1 (1 : Int) (3 : Int)).bind fun x4 =>
     bif x4 then
      (safety_within a0.2.2.2.2.1 (1 : Int) (6 : Int)).bind fun x5 =>
      some x5
     else
      some false
    else
     some false
   else
    some false
  else
   some false).bind fun (p6 : Bool) =>
 (safety_unless p6 (2 : Int)).bind fun x7 =>
 (safety_unless (decide (a0.1 <= a0.2.1)) (9 : Int)).bind fun x8 =>
 (safety_first ([x7, x8])).bind fun x9 =>
 some x9
def e_safety_CheckLimits : Entry := ⟨31, [.ty (.pair I (.pair I (.pair I (.pair I (.pair I .unit)))))], [(I, 0)], fun x => safety_CheckLimits x⟩
def j_safety_CheckLimits : TH := mkTH [([], 31, .region 1, { lv := [⟨none, 3, 0⟩], ps := [(.bool, 0)], D := ⟨536870904⟩, rs := [⟨0, 1⟩], Dn := ⟨502233544⟩ })] []
theorem k_safety_CheckLimits (x : denP e_safety_CheckLimits.ps) : fnT Try.prog Hn.hints j_safety_CheckLimits (tabT [e_safety_first, e_safety_isSized, e_safety_unless, e_safety_within]) 40 31 (ofPms e_safety_CheckLimits.ps x) e_safety_CheckLimits.rs = e_safety_CheckLimits.F x := by kernel_rfl
theorem o_safety_CheckLimits : EntryOk Try.prog Hn.hints Lb e_safety_CheckLimits := entry_ok (tab_cons o_safety_first (tab_cons o_safety_isSized (tab_cons o_safety_unless (tab_cons o_safety_within tab_nil)))) hJ 40 _ _ _ _ k_safety_CheckLimits
def safety_openMotion (a0 : (Int × Int × Int × Int × Int × Unit)) (a1 : (Int × Int × Int × Unit)) : Option Int :=
 ((safety_within a1.1 a0.1 a0.2.1).bind fun x1 =>
  bif x1 then
   (safety_isSized a1.2.1 a0.2.2.1).bind fun x2 =>
   bif x2 then
    (safety_isSized a1.2.2.1 a0.2.2.2.1).bind fun x3 =>
    some x3
   else
    some false
  else
   some false).bind fun (p4 : Bool) =>
 (safety_CheckLimits a0).bind fun x5 =>
 (safety_unless p4 (2 : Int)).bind fun x6 =>
 (safety_first ([x5, x6])).bind fun x7 =>
 some x7
def e_safety_openMotion : Entry := ⟨20, [.ty (.pair I (.pair I (.pair I (.pair I (.pair I .unit))))), .ty (.pair I (.pair I (.pair I .unit)))], [(I, 0)], fun x => safety_openMotion x.1 x.2⟩
def j_safety_openMotion : TH := mkTH [([], 20, .region 1, { lv := [⟨none, 5, 0⟩], ps := [(.bool, 0)], D := ⟨536870880⟩, rs := [⟨0, 2⟩, ⟨0, 3⟩], Dn := ⟨494593184⟩ })] []
theorem k_safety_openMotion (x : denP e_safety_openMotion.ps) : fnT Try.prog Hn.hints j_safety_openMotion (tabT [e_safety_CheckLimits, e_safety_first, e_safety_isSized, e_safety_unless, e_safety_within]) 40 20 (ofPms e_safety_openMotion.ps x) e_safety_openMotion.rs = e_safety_openMotion.F x := by kernel_rfl
theorem o_safety_openMotion : EntryOk Try.prog Hn.hints Lb e_safety_openMotion := entry_ok (tab_cons o_safety_CheckLimits (tab_cons o_safety_first (tab_cons o_safety_isSized (tab_cons o_safety_unless (tab_cons o_safety_within tab_nil))))) hJ 40 _ _ _ _ k_safety_openMotion
def safety_atRest (a0 : (Int × Int × Int × Unit)) : Option Bool :=
 (bif decide (a0.2.1 = 0) then
   some (decide (a0.2.2.1 = 0))
  else
   some false).bind fun (p1 : Bool) =>
 some p1
def e_safety_atRest : Entry := ⟨25, [.ty (.pair I (.pair I (.pair I .unit)))], [(.bool, 0)], fun x => safety_atRest x⟩
def j_safety_atRest : TH := mkTH [([], 25, .region 1, { lv := [⟨none, 2, 0⟩], ps := [(.bool, 0)], D := ⟨2044⟩, rs := [⟨0, 1⟩], Dn := ⟨1908⟩ })] []
theorem k_safety_atRest (x : denP e_safety_atRest.ps) : fnT Try.prog Hn.hints j_safety_atRest (tabT []) 40 25 (ofPms e_safety_atRest.ps x) e_safety_atRest.rs = e_safety_atRest.F x := by kernel_rfl
theorem o_safety_atRest : EntryOk Try.prog Hn.hints Lb e_safety_atRest := entry_ok tab_nil hJ 40 _ _ _ _ k_safety_atRest
def safety_pushed (a0 : (Int × Int × Int × Int × Int × Unit)) (a1 : (Int × Int × Int × Unit)) (a2 : Int) : Option ((Int × Int × Int × Unit) × Bool) :=
 ((safety_isSized a2 a0.2.2.2.1).bind fun x1 =>
  bif !x1 then
   some true
  else
   (safety_isSized (w64 (a2 - a1.2.2.1)) a0.2.2.2.2.1).bind fun x2 =>
   some (!x2)).bind fun (p3 : Bool) =>
 bif p3 then
  some (a1, false)
 else
  ((safety_isSized (w64 (a1.2.1 + a2)) a0.2.2.1).bind fun x4 =>
   bif x4 then
    (safety_within (w64 (a1.1 + (w64 (a1.2.1 + a2)))) a0.1 a0.2.1).bind fun x5 =>
    some (x5, w64 (a1.1 + (w64 (a1.2.1 + a2))), w64 (a1.2.1 + a2), a2)
   else
    some (false, w64 (a1.1 + (w64 (a1.2.1 + a2))), w64 (a1.2.1 + a2), a2)).bind fun (p6 : (Bool × Int × Int × Int)) =>
  some ((p6.2.1, p6.2.2.1, p6.2.2.2, ()), p6.1)
def e_safety_pushed : Entry := ⟨22, [.ty (.pair I (.pair I (.pair I (.pair I (.pair I .unit))))), .ty (.pair I (.pair I (.pair I .unit))), .ty I], [((.pair I (.pair I (.pair I .unit))), 0), (.bool, 0)], fun x => safety_pushed x.1 x.2.1 x.2.2⟩
def j_safety_pushed : TH := mkTH [([], 22, .region 1, { lv := [⟨none, 22, 0⟩], ps := [(.bool, 0)], D := ⟨8388352⟩, rs := [⟨0, 3⟩, ⟨0, 4⟩], Dn := ⟨8092928⟩ }),
 ([], 22, .region 5, { lv := [⟨none, 7, 0⟩, ⟨some 0, 6, 0⟩, ⟨some 0, 6, 1⟩, ⟨some 0, 6, 2⟩], ps := [(.bool, 0), (I, 0), (I, 0), (I, 0)], D := ⟨18014261070528640⟩, wr := [⟨0, 6⟩], rs := [⟨0, 3⟩, ⟨0, 4⟩], Dn := ⟨16095338402152576⟩ })] []
theorem k_safety_pushed (x : denP e_safety_pushed.ps) : fnT Try.prog Hn.hints j_safety_pushed (tabT [e_safety_isSized, e_safety_within]) 40 22 (ofPms e_safety_pushed.ps x) e_safety_pushed.rs = e_safety_pushed.F x := by kernel_rfl
theorem o_safety_pushed : EntryOk Try.prog Hn.hints Lb e_safety_pushed := entry_ok (tab_cons o_safety_isSized (tab_cons o_safety_within tab_nil)) hJ 40 _ _ _ _ k_safety_pushed
def safety_stop (a0 : (Int × Int × Int × Int × Int × Unit)) (a1 : (Int × Int × Int × Unit)) : Option ((List Int) × Bool) :=
 (loopO (fun (s2 : ((List (Int × Int × Int × Int × Unit)) × Int × (List (Int × Int × Int × Unit)))) =>
   bif decide (s2.2.1 < (s2.1.length : Int)) then
    (idx s2.1 s2.2.1).bind fun x3 =>
    (safety_atRest (x3.1, x3.2.1, x3.2.2.1, ())).bind fun x4 =>
    bif x4 then
     (loopO (fun (s7 : ((List Int) × Int)) =>
       (idx s2.1 s7.2).bind fun x8 =>
       bif decide (x8.2.2.2.1 >= 0) then
        (idx s2.1 s7.2).bind fun x9 =>
        (app s7.1 ([x9.2.2.1])).bind fun x10 =>
        (idx s2.1 s7.2).bind fun x11 =>
        some (.inl (x10, x11.2.2.2.1))
       else
        some (.inr s7.1)) ([], s2.2.1)).bind fun (p12 : (List Int)) =>
     (revO p12).bind fun x13 =>
     some (.inr (.inr (x13, true)))
    else
     (loopO (fun (s15 : ((List (Int × Int × Int × Int × Unit)) × Int × (List (Int × Int × Int × Unit)))) =>
       bif decide (s15.2.1 <= a0.2.2.2.1) then
        (idx s15.1 s2.2.1).bind fun x16 =>
        (safety_pushed a0 (x16.1, x16.2.1, x16.2.2.1, ()) s15.2.1).bind fun x17 =>
        (bif x17.2 then
          some (!(memK (.pair I (.pair I (.pair I .unit))) s15.2.2 x17.1))
         else
          some false).bind fun (p18 : Bool) =>
        (bif p18 then
          (app s15.1 ([(x17.1.1, x17.1.2.1, x17.1.2.2.1, s2.2.1, ())])).bind fun x19 =>
          some (x19, insK (.pair I (.pair I (.pair I .unit))) s15.2.2 x17.1)
         else
          some (s15.1, s15.2.2)).bind fun (p20 : ((List (Int × Int × Int × Int × Unit)) × (List (Int × Int × Int × Unit)))) =>
        some (.inl (p20.1, w64 (s15.2.1 + 1), p20.2))
       else
        some (.inr (s15.1, s15.2.2))) (s2.1, w64 (0 - a0.2.2.2.1), s2.2.2)).bind fun (p21 : ((List (Int × Int × Int × Int × Unit)) × (List (Int × Int × Int × Unit)))) =>
     some (.inl (p21.1, w64 (s2.2.1 + 1), p21.2))
   else
    some (.inr (.inl ()))) ([(a1.1, a1.2.1, a1.2.2.1, (-1), ())], 0, insK (.pair I (.pair I (.pair I .unit))) [] a1)).bind (Sum.elim (fun (p22 : Unit) =>
 some ([], false)) some)
def e_safety_stop : Entry := ⟨21, [.ty (.pair I (.pair I (.pair I (.pair I (.pair I .unit))))), .ty (.pair I (.pair I (.pair I .unit)))], [((.sl I), 1), (.bool, 0)], fun x => safety_stop x.1 x.2⟩
def j_safety_stop : TH := mkTH [([], 21, .block 0, { lv := [], ps := [], abn := true, D := ⟨2475880078570760549797216064⟩, wr := [⟨0, 12⟩, ⟨0, 16401⟩] }),
 ([], 21, .loop 0, { lv := [⟨none, 6, 0⟩, ⟨none, 8, 0⟩, ⟨some 0, 16401, 0⟩], ps := [((.sl (.pair I (.pair I (.pair I (.pair I .unit))))), 1), (I, 0), ((.mset (.pair I (.pair I (.pair I .unit)))), 0)], D := ⟨2475880078570760549797216064⟩, wr := [⟨0, 12⟩, ⟨0, 16401⟩], rs := [⟨0, 2⟩], Dn := ⟨2475880077345781451152441152⟩ }),
 ([], 21, .block 2, { lv := [⟨none, 9, 0⟩], ps := [((.sl I), 1)], D := ⟨9007190664807936⟩ }),
 ([], 21, .loop 2, { lv := [⟨none, 9, 0⟩, ⟨none, 10, 0⟩], ps := [((.sl I), 1), (I, 0)], D := ⟨9007190664807936⟩ }),
 ([], 21, .block 4, { lv := [⟨none, 6, 0⟩, ⟨some 0, 16401, 0⟩], ps := [((.sl (.pair I (.pair I (.pair I (.pair I .unit))))), 1), ((.mset (.pair I (.pair I (.pair I .unit)))), 0)], D := ⟨2475880077994299797494839872⟩, wr := [⟨0, 12⟩, ⟨0, 16401⟩], rs := [⟨0, 2⟩], Dn := ⟨2475880076841378292887992896⟩ }),
 ([], 21, .loop 4, { lv := [⟨none, 6, 0⟩, ⟨none, 11, 0⟩, ⟨some 0, 16401, 0⟩], ps := [((.sl (.pair I (.pair I (.pair I (.pair I .unit))))), 1), (I, 0), ((.mset (.pair I (.pair I (.pair I .unit)))), 0)], D := ⟨2475880077994299797494839872⟩, wr := [⟨0, 12⟩, ⟨0, 16401⟩], rs := [⟨0, 2⟩, ⟨0, 12⟩, ⟨0, 16401⟩], Dn := ⟨2465906438829557602196662848⟩ }),
 ([], 21, .region 18, { lv := [⟨none, 82, 0⟩], ps := [(.bool, 0)], D := ⟨9595848693191119074230272⟩, rs := [⟨0, 16401⟩], Dn := ⟨9293617238287461780553728⟩ }),
 ([], 21, .cond 82, { lv := [⟨none, 6, 0⟩, ⟨some 0, 16401, 0⟩], ps := [((.sl (.pair I (.pair I (.pair I (.pair I .unit))))), 1), ((.mset (.pair I (.pair I (.pair I .unit)))), 0)], D := ⟨2466208672013843516400599104⟩, wr := [⟨0, 16401⟩], rs := [⟨0, 16401⟩], Dn := ⟨2456537265456926483002949696⟩ })] []
theorem k_safety_stop (x : denP e_safety_stop.ps) : fnT Try.prog Hn.hints j_safety_stop (tabT [e_safety_atRest, e_safety_pushed]) 40 21 (ofPms e_safety_stop.ps x) e_safety_stop.rs = e_safety_stop.F x := by kernel_rfl
theorem o_safety_stop : EntryOk Try.prog Hn.hints Lb e_safety_stop := entry_ok (tab_cons o_safety_atRest (tab_cons o_safety_pushed tab_nil)) hJ 40 _ _ _ _ k_safety_stop
def safety_StopFrom (a0 : (Int × Int × Int × Int × Int × Unit)) (a1 : (Int × Int × Int × Unit)) : Option ((List Int) × Int) :=
 (safety_openMotion a0 a1).bind fun x1 =>
 bif !(decide (x1 = 0)) then
  some ([], x1)
 else
  (safety_stop a0 a1).bind fun x2 =>
  (safety_unless x2.2 (12 : Int)).bind fun x3 =>
  some (x2.1, x3)
def e_safety_StopFrom : Entry := ⟨9, [.ty (.pair I (.pair I (.pair I (.pair I (.pair I .unit))))), .ty (.pair I (.pair I (.pair I .unit)))], [((.sl I), 1), (I, 0)], fun x => safety_StopFrom x.1 x.2⟩
def j_safety_StopFrom : TH := mkTH [] []
theorem k_safety_StopFrom (x : denP e_safety_StopFrom.ps) : fnT Try.prog Hn.hints j_safety_StopFrom (tabT [e_safety_openMotion, e_safety_stop, e_safety_unless]) 40 9 (ofPms e_safety_StopFrom.ps x) e_safety_StopFrom.rs = e_safety_StopFrom.F x := by kernel_rfl
theorem o_safety_StopFrom : EntryOk Try.prog Hn.hints Lb e_safety_StopFrom := entry_ok (tab_cons o_safety_openMotion (tab_cons o_safety_stop (tab_cons o_safety_unless tab_nil))) hJ 40 _ _ _ _ k_safety_StopFrom
end
end Go.Proofs.Ytkcaaaiihhhnmaa.St0
end
section
namespace Go.Proofs.Ytkcaaaiihhhnmaa.St0
open Go Go.Ab Go.Tx
def Le {α : Type} (a b : Option α) : Prop := ∀ r, a = some r -> b = some r
theorem Le.refl {α : Type} (a : Option α) : Le a a := fun _ h => h
theorem Le.bind {α β : Type} {a a' : Option α} {f f' : α -> Option β} (h : Le a a') (hf : ∀ x, Le (f x) (f' x)) : Le (a.bind f) (a'.bind f') := fun r hr => by
 obtain ⟨x, hx, hr⟩ := Option.bind_eq_some_iff.1 hr;rw [h x hx]; exact hf x r hr
theorem Le.cond {α : Type} {c : Bool} {a a' b b' : Option α} (h : Le a a') (h' : Le b b') : Le (bif c then a else b) (bif c then a' else b') := by cases c <;> assumption
theorem Le.elim {α β γ : Type} {f f' : α -> Option γ} {g : β -> Option γ} (hf : ∀ x, Le (f x) (f' x)) (x : α ⊕ β) : Le (Sum.elim f g x) (Sum.elim f' g x) := by
 cases x with
 | inl x => exact hf x
 | inr y => exact Le.refl _
theorem Le.map {α β : Type} {a a' : Option α} {f : α -> β} (h : Le a a') : Le (a.map f) (a'.map f) := fun r hr => by
 obtain ⟨x, hx, rfl⟩ := Option.map_eq_some_iff.1 hr;rw [h x hx]; rfl
theorem loopN_le {σ ρ : Type} {f g : σ -> Option (σ ⊕ ρ)} (h : ∀ s, Le (f s) (g s)) : ∀ n s, Le (loopN f n s) (loopN g n s)
 | 0, s => Le.refl _
 | n + 1, s => fun r hr => by
  simp only [loopN] at hr ⊢;cases hf : f s with
  | none => rw [hf] at hr; cases hr
  | some x =>
   rw [hf] at hr;rw [h s x hf];cases x with
   | inl s' => exact loopN_le h n s' r hr
   | inr q => exact hr
theorem loopN_more {σ ρ : Type} {f : σ -> Option (σ ⊕ ρ)} : ∀ {n m : Nat} {s : σ} {r : ρ}, n <= m -> loopN f n s = some r -> loopN f m s = some r
 | 0, _, _, _, _, h => by simp [loopN] at h
 | n + 1, 0, _, _, hle, _ => by omega
 | n + 1, m + 1, s, r, hle, h => by
  simp only [loopN] at h ⊢;cases hf : f s with
  | none => rw [hf] at h; cases h
  | some x =>
   rw [hf] at h;cases x with
   | inl s' => exact loopN_more (by omega) h
   | inr q => exact h
theorem loopO_of {σ ρ : Type} {f : σ -> Option (σ ⊕ ρ)} {n : Nat} {s : σ} {r : ρ} (h : loopN f n s = some r) : loopO f s = some r := by
 unfold loopO;rw [dif_pos ⟨n, r, h⟩];have h2 := Classical.choose_spec (Classical.choose_spec (⟨n, r, h⟩ : ∃ n r, loopN f n s = some r));have h3 := loopN_more (Nat.le_max_left n (Classical.choose (⟨n, r, h⟩ : ∃ n r, loopN f n s = some r))) h;have h4 := loopN_more (Nat.le_max_right n (Classical.choose (⟨n, r, h⟩ : ∃ n r, loopN f n s = some r))) h2;rw [h3] at h4;exact h4.symm
theorem Le.loop {σ ρ : Type} {f g : σ -> Option (σ ⊕ ρ)} {n : Nat} {s : σ} (h : ∀ s, Le (f s) (g s)) : Le (loopN f n s) (loopO g s) := fun r hr => loopO_of (loopN_le h n s r hr)
def loopF {σ ρ : Type} (f : σ -> Option (σ ⊕ ρ)) (s : σ) : Option ρ := loopN f 400 s
theorem Le.loopF {σ ρ : Type} {f g : σ -> Option (σ ⊕ ρ)} {s : σ} (h : ∀ s, Le (f s) (g s)) : Le (St0.loopF f s) (loopO g s) := Le.loop h
def safety_within_f (a0 : Int) (a1 : Int) (a2 : Int) : Option Bool :=
 (bif decide (a1 <= a0) then
   some (decide (a0 <= a2))
  else
   some false).bind fun (p1 : Bool) =>
 some p1
theorem safety_within_le (a0 : Int) (a1 : Int) (a2 : Int) : Le (safety_within_f a0 a1 a2) (safety_within a0 a1 a2) := by
 unfold safety_within_f safety_within;repeat' first | exact Le.refl _ | refine Le.loopF fun _ => ?_ | refine Le.elim (fun _ => ?_) _ | refine Le.bind ?_ fun _ => ?_ | refine Le.cond ?_ ?_ | refine Le.map ?_
def safety_isSized_f (a0 : Int) (a1 : Int) : Option Bool :=
 (safety_within_f a0 (w64 (0 - a1)) a1).bind fun x1 =>
 some x1
theorem safety_isSized_le (a0 : Int) (a1 : Int) : Le (safety_isSized_f a0 a1) (safety_isSized a0 a1) := by
 unfold safety_isSized_f safety_isSized;repeat' first | exact Le.refl _ | exact safety_within_le _ _ _ | refine Le.loopF fun _ => ?_ | refine Le.elim (fun _ => ?_) _ | refine Le.bind ?_ fun _ => ?_ | refine Le.cond ?_ ?_ | refine Le.map ?_
def safety_unless_f (a0 : Bool) (a1 : Int) : Option Int :=
 bif a0 then
  some 0
 else
  some a1
theorem safety_unless_le (a0 : Bool) (a1 : Int) : Le (safety_unless_f a0 a1) (safety_unless a0 a1) := by
 unfold safety_unless_f safety_unless;repeat' first | exact Le.refl _ | refine Le.loopF fun _ => ?_ | refine Le.elim (fun _ => ?_) _ | refine Le.bind ?_ fun _ => ?_ | refine Le.cond ?_ ?_ | refine Le.map ?_
def safety_first_f (a0 : (List Int)) : Option Int :=
 (loopF (fun (s2 : Int) =>
   bif decide (s2 < (a0.length : Int)) then
    (idx a0 s2).bind fun x3 =>
    bif !(decide (x3 = 0)) then
     some (.inr (.inr x3))
    else
     some (.inl (w64 (s2 + 1)))
   else
    some (.inr (.inl ()))) 0).bind (Sum.elim (fun (p4 : Unit) =>
 some 0) some)
theorem safety_first_le (a0 : (List Int)) : Le (safety_first_f a0) (safety_first a0) := by
 unfold safety_first_f safety_first;repeat' first | exact Le.refl _ | refine Le.loopF fun _ => ?_ | refine Le.elim (fun _ => ?_) _ | refine Le.bind ?_ fun _ => ?_ | refine Le.cond ?_ ?_ | refine Le.map ?_
def safety_CheckLimits_f (a0 : (Int × Int × Int × Int × Int × Unit)) : Option Int :=
 ((safety_isSized_f a0.1 (60 : Int)).bind fun x1 =>
  bif x1 then
   (safety_isSized_f a0.2.1 (60 : Int)).bind fun x2 =>
   bif x2 then
    (safety_within_f a0.2.2.1 (1 : Int) (8 : Int)).bind fun x3 =>
    bif x3 then
     (safety_within_f a0.2.2.2.1 (1 : Int) (3 : Int)).bind fun x4 =>
     bif x4 then
      (safety_within_f a0.2.2.2.2.1 (1 : Int) (6 : Int)).bind fun x5 =>
      some x5
     else
      some false
    else
     some false
   else
    some false
  else
   some false).bind fun (p6 : Bool) =>
 (safety_unless_f p6 (2 : Int)).bind fun x7 =>
 (safety_unless_f (decide (a0.1 <= a0.2.1)) (9 : Int)).bind fun x8 =>
 (safety_first_f ([x7, x8])).bind fun x9 =>
 some x9
theorem safety_CheckLimits_le (a0 : (Int × Int × Int × Int × Int × Unit)) : Le (safety_CheckLimits_f a0) (safety_CheckLimits a0) := by
 unfold safety_CheckLimits_f safety_CheckLimits;repeat' first | exact Le.refl _ | exact safety_within_le _ _ _ | exact safety_isSized_le _ _ | exact safety_unless_le _ _ | exact safety_first_le _ | refine Le.loopF fun _ => ?_ | refine Le.elim (fun _ => ?_) _ | refine Le.bind ?_ fun _ => ?_ | refine Le.cond ?_ ?_ | refine Le.map ?_
def safety_openMotion_f (a0 : (Int × Int × Int × Int × Int × Unit)) (a1 : (Int × Int × Int × Unit)) : Option Int :=
 ((safety_within_f a1.1 a0.1 a0.2.1).bind fun x1 =>
  bif x1 then
   (safety_isSized_f a1.2.1 a0.2.2.1).bind fun x2 =>
   bif x2 then
    (safety_isSized_f a1.2.2.1 a0.2.2.2.1).bind fun x3 =>
    some x3
   else
    some false
  else
   some false).bind fun (p4 : Bool) =>
 (safety_CheckLimits_f a0).bind fun x5 =>
 (safety_unless_f p4 (2 : Int)).bind fun x6 =>
 (safety_first_f ([x5, x6])).bind fun x7 =>
 some x7
theorem safety_openMotion_le (a0 : (Int × Int × Int × Int × Int × Unit)) (a1 : (Int × Int × Int × Unit)) : Le (safety_openMotion_f a0 a1) (safety_openMotion a0 a1) := by
 unfold safety_openMotion_f safety_openMotion;repeat' first | exact Le.refl _ | exact safety_within_le _ _ _ | exact safety_isSized_le _ _ | exact safety_unless_le _ _ | exact safety_first_le _ | exact safety_CheckLimits_le _ | refine Le.loopF fun _ => ?_ | refine Le.elim (fun _ => ?_) _ | refine Le.bind ?_ fun _ => ?_ | refine Le.cond ?_ ?_ | refine Le.map ?_
def safety_atRest_f (a0 : (Int × Int × Int × Unit)) : Option Bool :=
 (bif decide (a0.2.1 = 0) then
   some (decide (a0.2.2.1 = 0))
  else
   some false).bind fun (p1 : Bool) =>
 some p1
theorem safety_atRest_le (a0 : (Int × Int × Int × Unit)) : Le (safety_atRest_f a0) (safety_atRest a0) := by
 unfold safety_atRest_f safety_atRest;repeat' first | exact Le.refl _ | refine Le.loopF fun _ => ?_ | refine Le.elim (fun _ => ?_) _ | refine Le.bind ?_ fun _ => ?_ | refine Le.cond ?_ ?_ | refine Le.map ?_
def safety_pushed_f (a0 : (Int × Int × Int × Int × Int × Unit)) (a1 : (Int × Int × Int × Unit)) (a2 : Int) : Option ((Int × Int × Int × Unit) × Bool) :=
 ((safety_isSized_f a2 a0.2.2.2.1).bind fun x1 =>
  bif !x1 then
   some true
  else
   (safety_isSized_f (w64 (a2 - a1.2.2.1)) a0.2.2.2.2.1).bind fun x2 =>
   some (!x2)).bind fun (p3 : Bool) =>
 bif p3 then
  some (a1, false)
 else
  ((safety_isSized_f (w64 (a1.2.1 + a2)) a0.2.2.1).bind fun x4 =>
   bif x4 then
    (safety_within_f (w64 (a1.1 + (w64 (a1.2.1 + a2)))) a0.1 a0.2.1).bind fun x5 =>
    some (x5, w64 (a1.1 + (w64 (a1.2.1 + a2))), w64 (a1.2.1 + a2), a2)
   else
    some (false, w64 (a1.1 + (w64 (a1.2.1 + a2))), w64 (a1.2.1 + a2), a2)).bind fun (p6 : (Bool × Int × Int × Int)) =>
  some ((p6.2.1, p6.2.2.1, p6.2.2.2, ()), p6.1)
theorem safety_pushed_le (a0 : (Int × Int × Int × Int × Int × Unit)) (a1 : (Int × Int × Int × Unit)) (a2 : Int) : Le (safety_pushed_f a0 a1 a2) (safety_pushed a0 a1 a2) := by
 unfold safety_pushed_f safety_pushed;repeat' first | exact Le.refl _ | exact safety_within_le _ _ _ | exact safety_isSized_le _ _ | refine Le.loopF fun _ => ?_ | refine Le.elim (fun _ => ?_) _ | refine Le.bind ?_ fun _ => ?_ | refine Le.cond ?_ ?_ | refine Le.map ?_
def safety_stop_f (a0 : (Int × Int × Int × Int × Int × Unit)) (a1 : (Int × Int × Int × Unit)) : Option ((List Int) × Bool) :=
 (loopF (fun (s2 : ((List (Int × Int × Int × Int × Unit)) × Int × (List (Int × Int × Int × Unit)))) =>
   bif decide (s2.2.1 < (s2.1.length : Int)) then
    (idx s2.1 s2.2.1).bind fun x3 =>
    (safety_atRest_f (x3.1, x3.2.1, x3.2.2.1, ())).bind fun x4 =>
    bif x4 then
     (loopF (fun (s7 : ((List Int) × Int)) =>
       (idx s2.1 s7.2).bind fun x8 =>
       bif decide (x8.2.2.2.1 >= 0) then
        (idx s2.1 s7.2).bind fun x9 =>
        (app s7.1 ([x9.2.2.1])).bind fun x10 =>
        (idx s2.1 s7.2).bind fun x11 =>
        some (.inl (x10, x11.2.2.2.1))
       else
        some (.inr s7.1)) ([], s2.2.1)).bind fun (p12 : (List Int)) =>
     (revO p12).bind fun x13 =>
     some (.inr (.inr (x13, true)))
    else
     (loopF (fun (s15 : ((List (Int × Int × Int × Int × Unit)) × Int × (List (Int × Int × Int × Unit)))) =>
       bif decide (s15.2.1 <= a0.2.2.2.1) then
        (idx s15.1 s2.2.1).bind fun x16 =>
        (safety_pushed_f a0 (x16.1, x16.2.1, x16.2.2.1, ()) s15.2.1).bind fun x17 =>
        (bif x17.2 then
          some (!(memK (.pair I (.pair I (.pair I .unit))) s15.2.2 x17.1))
         else
          some false).bind fun (p18 : Bool) =>
        (bif p18 then
          (app s15.1 ([(x17.1.1, x17.1.2.1, x17.1.2.2.1, s2.2.1, ())])).bind fun x19 =>
          some (x19, insK (.pair I (.pair I (.pair I .unit))) s15.2.2 x17.1)
         else
          some (s15.1, s15.2.2)).bind fun (p20 : ((List (Int × Int × Int × Int × Unit)) × (List (Int × Int × Int × Unit)))) =>
        some (.inl (p20.1, w64 (s15.2.1 + 1), p20.2))
       else
        some (.inr (s15.1, s15.2.2))) (s2.1, w64 (0 - a0.2.2.2.1), s2.2.2)).bind fun (p21 : ((List (Int × Int × Int × Int × Unit)) × (List (Int × Int × Int × Unit)))) =>
     some (.inl (p21.1, w64 (s2.2.1 + 1), p21.2))
   else
    some (.inr (.inl ()))) ([(a1.1, a1.2.1, a1.2.2.1, (-1), ())], 0, insK (.pair I (.pair I (.pair I .unit))) [] a1)).bind (Sum.elim (fun (p22 : Unit) =>
 some ([], false)) some)
theorem safety_stop_le (a0 : (Int × Int × Int × Int × Int × Unit)) (a1 : (Int × Int × Int × Unit)) : Le (safety_stop_f a0 a1) (safety_stop a0 a1) := by
 unfold safety_stop_f safety_stop;repeat' first | exact Le.refl _ | exact safety_atRest_le _ | exact safety_pushed_le _ _ _ | refine Le.loopF fun _ => ?_ | refine Le.elim (fun _ => ?_) _ | refine Le.bind ?_ fun _ => ?_ | refine Le.cond ?_ ?_ | refine Le.map ?_
def safety_StopFrom_f (a0 : (Int × Int × Int × Int × Int × Unit)) (a1 : (Int × Int × Int × Unit)) : Option ((List Int) × Int) :=
 (safety_openMotion_f a0 a1).bind fun x1 =>
 bif !(decide (x1 = 0)) then
  some ([], x1)
 else
  (safety_stop_f a0 a1).bind fun x2 =>
  (safety_unless_f x2.2 (12 : Int)).bind fun x3 =>
  some (x2.1, x3)
theorem safety_StopFrom_le (a0 : (Int × Int × Int × Int × Int × Unit)) (a1 : (Int × Int × Int × Unit)) : Le (safety_StopFrom_f a0 a1) (safety_StopFrom a0 a1) := by
 unfold safety_StopFrom_f safety_StopFrom;repeat' first | exact Le.refl _ | exact safety_unless_le _ _ | exact safety_openMotion_le _ _ | exact safety_stop_le _ _ | refine Le.loopF fun _ => ?_ | refine Le.elim (fun _ => ?_) _ | refine Le.bind ?_ fun _ => ?_ | refine Le.cond ?_ ?_ | refine Le.map ?_
end Go.Proofs.Ytkcaaaiihhhnmaa.St0
namespace Go.Proofs.Ytkcaaaiihhhnmaa.St0
open Go Go.Ab Go.Tx
theorem stop_ex : safety_StopFrom (-10, 10, 4, 2, 1, ()) (0, 3, 0, ()) = some ([-1, -1, -1, 0], 0) := safety_StopFrom_le _ _ _ (by kernel_rfl)
end Go.Proofs.Ytkcaaaiihhhnmaa.St0
end
section
namespace Go.Proofs.Ytkcaaaiihhhnmaa
open Go Go.Ab
theorem follows : Try.prog.follows .mixedOrders = true := by kernel_rfl
theorem namesOk : (Try.prog.funcs.toList.all fun fn => !fn.body.isSome || !(fn.name == "runtime.NumGoroutine")) = true := by kernel_rfl
theorem hname : NameOk Try.prog Hn.hints := ⟨fun g fn h hb => by
 have := List.all_eq_true.1 namesOk fn (by rw [Array.mem_toList_iff]; exact Array.mem_of_getElem? h);rw [hb] at this;simpa using this, turns⟩
def vi (n : Int) : V := .val (.int .i64 n)
def r0 : Ran := ⟨16, [.agg [.sl .shared false [.val (.string ⟨#[107, 101, 121]⟩), .val (.string ⟨#[100, 111, 111, 114]⟩), .val (.string ⟨#[114, 117, 110]⟩)], .sl .shared false [.agg [.val (.string ⟨#[111, 112, 101, 110]⟩), .sl .shared false [], .sl .shared false [vi (2)], .sl .shared false [vi (1)], .sl .shared false []], .agg [.val (.string ⟨#[115, 104, 117, 116]⟩), .sl .shared false [], .sl .shared false [], .sl .shared false [], .sl .shared false [vi (1)]], .agg [.val (.string ⟨#[116, 117, 114, 110]⟩), .sl .shared false [], .sl .shared false [], .sl .shared false [vi (0)], .sl .shared false []], .agg [.val (.string ⟨#[115, 116, 97, 114, 116]⟩), .sl .shared false [vi (0)], .sl .shared false [vi (1)], .sl .shared false [vi (2)], .sl .shared false []], .agg [.val (.string ⟨#[104, 97, 108, 116]⟩), .sl .shared false [], .sl .shared false [], .sl .shared false [], .sl .shared false [vi (2)]]], .sl .shared false [.agg [.sl .shared false [vi (1), vi (2)], .sl .shared false []]]], vi (0)], .tuple [.sl .own false [vi (0), vi (1), vi (2), vi (3), vi (5)], vi (0)]⟩
theorem r0_ok : CallOk Try.prog r0.g r0.args [] r0.r [] := ran_ok (t := []) (H := Hn.hints) follows hname (by simp) 200 r0 (by kernel_rfl)
def r1 (c : Bool) : Ran := ⟨9, [.agg [vi (-10), vi (10), vi (4), vi (2), vi (1)], .agg [vi (0), vi (3), vi (0)]], .tuple [.sl .own c [vi (-1), vi (-1), vi (-1), vi (0)], vi (0)]⟩
theorem r1_ok : ∃ c, CallOk Try.prog (r1 c).g (r1 c).args [] (r1 c).r [] := by
 obtain ⟨v, h1, h2⟩ := Tx.entry_call follows hname (lib := St0.Lb) (fun g h args r hl _ => by cases hl) St0.o_safety_StopFrom (x := ((-10, 10, 4, 2, 1, ()), (0, 3, 0, ()))) St0.stop_ex (vs := (r1 false).args) (by
  simp [r1, vi, St0.e_safety_StopFrom, Tx.ofPms, Tx.ofTy, Tx.ofTyC, Tx.RVL, Tx.RV, Tx.RTy, Tx.ofPm])
 simp only [St0.e_safety_StopFrom, Tx.packT, Tx.ofL, Tx.packedT, Tx.ofTy, Tx.RV, Tx.RVL, Tx.RTy] at h2;obtain ⟨l', rfl, v1, m1, rfl, ⟨f, c, l2, rfl, hf, hall⟩, v2, m2, rfl, rfl, rfl⟩ := h2;have hf1 : f = .own := hf.own rfl;subst hf1;have hl : l2 = [vi (-1), vi (-1), vi (-1), vi 0] := by
  cases hall with | cons a1 hall => cases hall with | cons a2 hall => cases hall with | cons a3 hall => cases hall with | cons a4 hall => cases hall with | nil =>
   rw [a1, a2, a3, a4]; rfl
 subst hl;exact ⟨c, h1⟩
def rs (c : Bool) : List Ran := [r0, r1 c]
theorem rs_ok {c : Bool} (h2 : CallOk Try.prog (r1 c).g (r1 c).args [] (r1 c).r []) : ∀ e ∈ rs c, CallOk Try.prog e.g e.args [] e.r [] := by
 intro e he;simp only [rs, List.mem_cons, List.mem_nil_iff, or_false] at he;rcases he with rfl | rfl
 ·exact r0_ok
 ·exact h2
def aw : Ran := ⟨4, [], .val (.bool true)⟩
theorem awake_ok : CallOk Try.prog 4 [] [] (.val (.bool true)) [] := by
 obtain ⟨c, h2⟩ := r1_ok;cases c with
 | true => exact ran_ok (t := rs true) (H := Hn.hints) follows hname (rs_ok h2) 200 aw (by kernel_rfl)
 | false => exact ran_ok (t := rs false) (H := Hn.hints) follows hname (rs_ok h2) 200 aw (by kernel_rfl)
end Go.Proofs.Ytkcaaaiihhhnmaa
end
section
namespace Go.Tx
open Go Go.Ab Go.RowKit Go.ChangeShapes Go.WideShapes Go.Deep
section
variable {H : Type} {enc : TypeId × Value -> H} {P : Program}
theorem post_of_below {f : Func} {s : ChangeSpec} {apart fresh handsOn again : Bool} {W W' : World} {args : Array Value} {v : Value} {ds gs : List (DataW H)} {before pa pv : List MemPlace}
  (hW : DataW.Whole enc P f.params.toList s.vars apart W args.toList ds gs before)
  (hres : ∀ (b : Nat) (sp : Nat -> Bool) (hd : Bool), DataW.TrodAll enc P W' b sp hd f.resultTypes.toList (v.resultList f.resultTypes.size) (s.fn H (ds ++ gs)).results [])
  (hargs : ∀ sp : Nat -> Bool, (∀ p ∈ before, sp p.block = true) -> DataW.TrodAll enc P W' 0 sp true f.params.toList args.toList (s.fn H (ds ++ gs)).args pa)
  (hvars : ∀ sp : Nat -> Bool, (∀ p ∈ before, sp p.block = true) -> DataW.TrodVars enc P W' sp s.vars (s.fn H (ds ++ gs)).vars pv)
  (hps : before = pa ++ pv) (hb : Below W.heap.size W W')
  (hok : ∀ (j : Nat) (t : TypeId) (r : Value), f.resultTypes[j]? = some t -> (v.resultList f.resultTypes.size)[j]? = some r -> Value.okWide P W' .any 0 t r) :
  s.post enc P f apart fresh handsOn again W args v W' := by
 have hlt : ∀ p ∈ before, p.block < W.heap.size := fun p hp => hW.lt p hp;have hold : ∀ p ∈ before, (fun b => decide (b < W.heap.size)) p.block = true := fun p hp => by simpa using hlt p hp
 refine ⟨ds, gs, before, [], pa, pv, hW, hres _ _ _, hargs _ hold, hvars _ hold, World.keptBut_mono (fun p hp => ⟨hp, ?_⟩) (hb.frame (· ∈ before)), fun _ => ?_⟩
 ·rw [hps, List.mem_append] at hp;exact Or.inr hp
 ·obtain ⟨_, _, _, _, _, hz, hn⟩ := hW;refine ⟨hok, _, _, ([] ++ pa) ++ pv, ⟨[] ++ pa, pv, trodAll_append (hargs _ (fun _ _ => rfl)) (hres _ _ _), hvars _ (fun _ _ => rfl), rfl, ?_, ?_⟩, ?_⟩
  ·intro b off hp;have hin : MemPlace.cell b off ∈ before := by rw [hps]; simpa using hp
   rw [hb.frozen (hlt _ hin)];exact hz b off hin
  ·intro ha;have := hn ha;rw [hps] at this;simpa using this
  ·intro p hp _;rw [hps];simpa using hp
theorem trodAll_len : ∀ {ts : List TypeId} {vs : List Value} {ds : List (DataW H)} {ps : List MemPlace} {w : World} {b : Nat} {sp : Nat -> Bool} {hd : Bool}, DataW.TrodAll enc P w b sp hd ts vs ds ps -> ds.length = ts.length
 | [], [], [], _, _, _, _, _, _ => rfl
 | [], [], d :: ds, _, _, _, _, _, h => h.elim
 | [], v :: vs, _, _, _, _, _, _, h => by cases h
 | t :: ts, [], _, _, _, _, _, _, h => by cases h
 | t :: ts, v :: vs, [], _, _, _, _, _, h => by cases h
 | t :: ts, v :: vs, d :: ds, ps, w, b, sp, hd, ⟨p, q, h1, h2, e⟩ => by simp [trodAll_len h2]
end
theorem sm_all {H : Type} : Sm (H := H) maxLen (fun _ => True) where
 slice := fun es sp _ h => ⟨h, fun _ _ => trivial⟩
 agg := fun _ _ _ _ => trivial
 str := fun _ _ h => h
theorem law_contract {P : Program} {H0 : Hints} {lib : FuncId -> Option (List V -> Option V)} (hm : P.follows .mixedOrders = true) (hname : NameOk P H0)
  (hlib : ∀ g h args r, lib g = some h -> h args = some r -> CallOk P g args [] r []) (hl : laidOutB P = true) {k : FuncId} {fn : Func} (hfn : P.funcs[k]? = some fn) (hbody : fn.body.isSome = true)
  {ts : List TypeId} {τs : List Ty} (hps : fn.params.toList = ts) (hts : ts.mapM (tyOf P) = some τs) (hok : ts.all (okT P 10) = true) (hrd : ts.all (fun t => P.readableRec t && decide (t < P.types.size)) = true)
  {tb : TypeId} (hres : fn.resultTypes = #[tb]) (htb : P.underlying tb = some .bool) {F : denP (τs.map .ty) -> Option Bool}
  (he : EntryOk P H0 lib ⟨k, τs.map .ty, [(.bool, 0)], F⟩) (hF : ∀ x, RngP maxLen τs x -> F x = some true)
  {s : ChangeSpec} (hv : s.vars = []) (hs : ∀ (H : Type) (ds : List (DataW H)), ds.length = ts.length -> s.fn H ds = { results := [.lit (.bool true)], args := ds })
  (H : Type) (enc : TypeId × Value -> H) (W : World) (base : Nat) (args : Array Value) (ds gs : List (DataW H)) (before : List MemPlace)
  (hval : ∀ (j : Nat) t v, fn.params[j]? = some t -> args[j]? = some v -> Value.okWide P W .any base t v)
  (hW : DataW.Whole enc P fn.params.toList s.vars false W args.toList ds gs before) :
  Calls P k args W fun e W' => ∃ v, e = .returned v /\ s.post enc P fn false true false false W args v W' := by
 have hW' := hW;have hlt : ∀ p ∈ before, p.block < W.heap.size := fun p hp => hW.lt p hp;obtain ⟨p, q, hA, hV, rfl, hfz, hnd⟩ := hW;rw [hv] at hV;obtain ⟨rfl, rfl⟩ := trodVars_none hV;rw [hps] at hA;have hlen := trodAll_len hA;have hval' : ∀ (j : Nat) t v, ts[j]? = some t -> args.toList[j]? = some v -> Value.okWide P W .any base t v := fun j t v h1 h2 =>
  hval j t v (by rw [<- hps] at h1; simpa using h1) (by simpa using h2)
 refine (law_calls hm hname hlib hl sm_all hfn hbody hts hok he hF hval' hA (fun _ _ => trivial)).mono fun e W' ⟨h1, hb⟩ => ?_;subst h1;have hfs : s.fn H (ds ++ []) = { results := [.lit (.bool true)], args := ds } := by rw [List.append_nil]; exact hs H ds hlen
 refine ⟨_, rfl, post_of_below (pa := p) (pv := []) hW' ?_ ?_ ?_ rfl hb ?_⟩
 ·intro b sp hd;rw [hfs, hres];exact trodAll_mk1 (shut_bool htb true)
 ·intro sp hsp;rw [hfs, hps];exact trodAll_below hl hb hrd hA (fun x hx => hlt x (by simpa using hx)) sp (fun x hx => hsp x (by simpa using hx))
 ·intro sp _;rw [hfs, hv];rfl
 ·exact ok_one hres rfl (okWide_bool_mk htb true)
end Go.Tx
namespace Go.Proofs.Ytkcaaaiihhhnmaa
open Go Go.Ab Go.Tx
theorem own : ownKnob Try.prog.godebug = none := by kernel_rfl
theorem laid_out : laidOutB Try.prog = true := by kernel_rfl
end Go.Proofs.Ytkcaaaiihhhnmaa
end
section
namespace Go.Tx
open Go
theorem wrap_id {n : Int} (h1 : -9223372036854775808 <= n) (h2 : n <= 9223372036854775807) : IntKind.wrap .i64 n = n := by
 rw [IntKind.wrap_i64]; omega
theorem idx_of {α : Type} {l : List α} {i : Nat} {a : α} (h : l[i]? = some a) : idx l (i : Int) = some a := by simp [idx, h]
theorem app_of {α : Type} {l l2 : List α} (h : l.length + l2.length <= 4294967296) : app l l2 = some (l ++ l2) := by simp [app, h]
section
variable {σ ρ : Type} {f : σ -> Option (σ ⊕ ρ)}
theorem loopN_mono : ∀ {n m : Nat} {s : σ} {r : ρ}, loopN f n s = some r -> n <= m -> loopN f m s = some r
 | 0, m, s, r, h, _ => by simp [loopN] at h
 | n + 1, 0, s, r, h, hm => by omega
 | n + 1, m + 1, s, r, h, hm => by
  simp only [loopN] at h ⊢;cases hf : f s with
  | none => rw [hf] at h; cases h
  | some x =>
   rw [hf] at h;cases x with
   | inl s' => exact loopN_mono h (by omega)
   | inr r' => exact h
theorem loopO_of {n : Nat} {s : σ} {r : ρ} (h : loopN f n s = some r) : loopO f s = some r := by
 have hex : ∃ n r, loopN f n s = some r := ⟨n, r, h⟩
 cases hl : loopO f s with
 | none => exfalso; unfold loopO at hl; rw [dif_pos hex] at hl; cases hl
 | some r' =>
  obtain ⟨m, hm⟩ := loopO_some hl;have h1 := loopN_mono h (Nat.le_max_left n m);have h2 := loopN_mono hm (Nat.le_max_right n m);rw [<- h1, <- h2]
theorem loopO_inl {s s' : σ} (h : f s = some (.inl s')) : loopO f s = loopO f s' := by
 cases hl : loopO f s' with
 | some r =>
  obtain ⟨n, hn⟩ := loopO_some hl;exact loopO_of (n := n + 1) (by simp [loopN, h, hn])
 | none =>
  cases hl2 : loopO f s with
  | none => rfl
  | some r =>
   obtain ⟨n, hn⟩ := loopO_some hl2;cases n with
   | zero => simp [loopN] at hn
   | succ n =>
    simp only [loopN, h] at hn;rw [loopO_of hn] at hl;cases hl
theorem loopO_inr {s : σ} {r : ρ} (h : f s = some (.inr r)) : loopO f s = some r := loopO_of (n := 1) (by simp [loopN, h])
theorem loop_inv (n : Nat) (I : Nat -> σ -> Prop) (Q : ρ -> Prop)
  (hs : ∀ i s, i <= n -> I i s -> (∃ s', f s = some (.inl s') /\ i < n /\ I (i + 1) s') \/ (∃ r, f s = some (.inr r) /\ Q r)) {s : σ} (h0 : I 0 s) : ∃ r, loopO f s = some r /\ Q r := by
 have h : ∀ k i s, n - i = k -> i <= n -> I i s -> ∃ r, loopO f s = some r /\ Q r := by
  intro k;induction k with
  | zero =>
   intro i s hk hi hI;rcases hs i s hi hI with ⟨s', _, h, _⟩ | ⟨r, h, hq⟩
   ·omega
   ·exact ⟨r, loopO_inr h, hq⟩
  | succ k ih =>
   intro i s hk hi hI;rcases hs i s hi hI with ⟨s', h, hlt, hI'⟩ | ⟨r, h, hq⟩
   ·obtain ⟨r, hr, hq⟩ := ih (i + 1) s' (by omega) (by omega) hI';exact ⟨r, by rw [loopO_inl h, hr], hq⟩
   ·exact ⟨r, loopO_inr h, hq⟩
 exact h n 0 s (by omega) (by omega) h0
end
def findI {α ρ : Type} (g : Nat -> α -> Option ρ) : Nat -> List α -> Option ρ
 | _, [] => none
 | k, a :: l => match g k a with
  | some r => some r
  | none => findI g (k + 1) l
def toSum {ρ : Type} : Option ρ -> Unit ⊕ ρ
 | some r => .inr r
 | none => .inl ()
def stp {ρ : Type} (i : Nat) : Option ρ -> Int ⊕ (Unit ⊕ ρ)
 | some r => .inr (.inr r)
 | none => .inl ((i : Int) + 1)
theorem loop_list {α ρ : Type} (l : List α) {f : Int -> Option (Int ⊕ (Unit ⊕ ρ))} (g : Nat -> α -> Option ρ)
  (h : ∀ (i : Nat) (a : α), l[i]? = some a -> f i = some (stp i (g i a)))
  (he : f l.length = some (.inr (.inl ()))) : loopO f 0 = some (toSum (findI g 0 l)) := by
 have key : ∀ (l2 l1 : List α), l1 ++ l2 = l -> loopO f (l1.length : Nat) = some (toSum (findI g l1.length l2)) := by
  intro l2;induction l2 with
  | nil =>
   intro l1 e;have : l1 = l := by simpa using e
   subst this;rw [loopO_inr he]; rfl
  | cons a l2 ih =>
   intro l1 e;have hi : l[l1.length]? = some a := by rw [<- e]; simp
   have hf := h _ _ hi;simp only [findI];cases hg : g l1.length a with
   | some r => rw [hg] at hf; rw [loopO_inr hf]; rfl
   | none =>
    rw [hg] at hf;rw [loopO_inl hf];have := ih (l1 ++ [a]) (by simp [e]);simpa using this
 simpa using key l [] rfl
end Go.Tx
end
section
namespace Go.Tx
open Go
def Ok {α : Type} (o : Option α) (Q : α -> Prop) : Prop := ∃ a, o = some a /\ Q a
section
variable {α β σ ρ τ : Type}
theorem ok_some {a : α} {Q : α -> Prop} : Ok (some a) Q ↔ Q a := ⟨fun ⟨_, h, hq⟩ => by cases h; exact hq, fun h => ⟨a, rfl, h⟩⟩
theorem ok_none {Q : α -> Prop} : Ok (none : Option α) Q ↔ False := ⟨fun ⟨_, h, _⟩ => (by cases h), fun h => h.elim⟩
theorem ok_eq {o : Option α} {a : α} : Ok o (fun r => r = a) ↔ o = some a := ⟨fun ⟨_, h, hq⟩ => by rw [h, hq], fun h => ⟨a, h, rfl⟩⟩
theorem Ok.eq {o : Option α} {a : α} (h : Ok o (fun r => r = a)) : o = some a := ok_eq.1 h
theorem Ok.mono {o : Option α} {P Q : α -> Prop} (h : Ok o P) (hq : ∀ a, P a -> Q a) : Ok o Q := by obtain ⟨a, h1, h2⟩ := h; exact ⟨a, h1, hq a h2⟩
theorem Ok.bind {o : Option α} {k : α -> Option β} {P : α -> Prop} {Q : β -> Prop} (h : Ok o P) (hk : ∀ a, P a -> Ok (k a) Q) : Ok (o.bind k) Q := by
 obtain ⟨a, h1, h2⟩ := h; rw [h1]; exact hk a h2
theorem ok_bind {o : Option α} {k : α -> Option β} {Q : β -> Prop} : Ok (o.bind k) Q ↔ Ok o fun a => Ok (k a) Q := by
 cases o with
 | none => simp [ok_none]
 | some a => simp [ok_some]
theorem app_one {l : List α} {a : α} (h : l.length <= 4294967295) : app l [a] = some (l ++ [a]) := app_of (by simp; omega)
theorem app_nil {l2 : List α} (h : l2.length <= 4294967296) : app [] l2 = some l2 := by rw [app_of (by simpa using h)]; rfl
def Rnd (o : Option (σ ⊕ ρ)) (I : σ -> Prop) (Q : ρ -> Prop) : Prop := Ok o fun x => match x with
 | .inl s => I s
 | .inr r => Q r
theorem rnd_inl {s : σ} {I : σ -> Prop} {Q : ρ -> Prop} : Rnd (some (.inl s)) I Q ↔ I s := ok_some
theorem rnd_inr {r : ρ} {I : σ -> Prop} {Q : ρ -> Prop} : Rnd (some (.inr r) : Option (σ ⊕ ρ)) I Q ↔ Q r := ok_some
theorem rnd_bind {o : Option α} {k : α -> Option (σ ⊕ ρ)} {I : σ -> Prop} {Q : ρ -> Prop} : Rnd (o.bind k) I Q ↔ Ok o fun a => Rnd (k a) I Q := ok_bind
theorem loop_wf {f : σ -> Option (σ ⊕ ρ)} (μ : σ -> Nat) (I : σ -> Prop) (Q : ρ -> Prop) {s : σ} (h0 : I s)
  (hs : ∀ s, I s -> Rnd (f s) (fun s' => I s' /\ μ s' < μ s) Q) : Ok (loopO f s) Q := by
 have key : ∀ n s, μ s <= n -> I s -> Ok (loopO f s) Q := by
  intro n;induction n with
  | zero =>
   intro s hn hI;obtain ⟨x, hx, h⟩ := hs s hI;cases x with
   | inl s' => exact absurd h.2 (by omega)
   | inr r => exact ⟨r, loopO_inr hx, h⟩
  | succ n ih =>
   intro s hn hI;obtain ⟨x, hx, h⟩ := hs s hI;cases x with
   | inl s' => rw [loopO_inl hx]; exact ih s' (by have := h.2; omega) h.1
   | inr r => exact ⟨r, loopO_inr hx, h⟩
 exact key _ s (Nat.le_refl _) h0
theorem loop_up {f : σ -> Option (σ ⊕ ρ)} (n : Nat) (I : Nat -> σ -> Prop) (Q : ρ -> Prop) {s : σ} (h0 : I 0 s)
  (hs : ∀ i s, i <= n -> I i s -> Rnd (f s) (fun s' => i < n /\ I (i + 1) s') Q) : Ok (loopO f s) Q := by
 obtain ⟨r, h1, h2⟩ := loop_inv n I Q (fun i s hi hI => by
  obtain ⟨x, hx, h⟩ := hs i s hi hI;cases x with
  | inl s' => exact .inl ⟨s', hx, h⟩
  | inr r => exact .inr ⟨r, hx, h⟩) h0
 exact ⟨r, h1, h2⟩
theorem ok_elim {o : Option (α ⊕ β)} {k : α -> Option β} {Q : β -> Prop} : Ok (o.bind (Sum.elim k some)) Q ↔ Ok o fun x => match x with
  | .inl a => Ok (k a) Q
  | .inr b => Q b := by
 rw [ok_bind];cases o with
 | none => simp [ok_none]
 | some x => cases x <;> simp [ok_some]
end
theorem getD_at {α : Type} {l : List α} {i : Nat} {a d : α} (h : l[i]? = some a) : l.getD i d = a := by simp [h]
theorem take_next {α : Type} {l : List α} {i : Nat} (d : α) (h : i < l.length) : l.take (i + 1) = l.take i ++ [l.getD i d] := by
 rw [List.take_add_one]; simp [h]
end Go.Tx
end
section
namespace Go.Tx
open Go
section
variable {α β ρ τ : Type}
theorem len_lt {l : List α} {i : Nat} {a : α} (h : l[i]? = some a) : i < l.length := (List.getElem?_eq_some_iff.1 h).1
theorem for_find (l : List α) (K : Int -> Option (Int ⊕ (Unit ⊕ ρ))) (g : Nat -> α -> Option ρ) (h : ∀ (i : Nat) (a : α), l[i]? = some a -> K i = some (stp i (g i a))) :
  loopO (fun s => bif decide (s < (l.length : Int)) then K s else some (.inr (.inl ()))) 0 = some (toSum (findI g 0 l)) := by
 refine loop_list l g (fun i a hi => ?_) ?_
 ·have := len_lt hi;have e : decide ((i : Int) < (l.length : Int)) = true := by simp <;> omega
  simp only [e, cond_true];exact h i a hi
 ·simp
theorem elim_toSum {o : Option ρ} {k : Unit -> Option ρ} : (some (toSum o)).bind (Sum.elim k some) = (match o with
  | some r => some r
  | none => k ()) := by cases o <;> rfl
theorem findI_none {g : Nat -> α -> Option ρ} : ∀ {l : List α} {k : Nat}, findI g k l = none ↔ ∀ i a, l[i]? = some a -> g (k + i) a = none
 | [], k => by simp [findI]
 | a :: l, k => by
  simp only [findI];cases hg : g k a with
  | some r =>
   simp only [reduceCtorEq, false_iff];intro h;have := h 0 a rfl;simp [hg] at this
  | none =>
   simp only
   rw [findI_none (l := l) (k := k + 1)];constructor
   ·intro h i b hb;cases i with
    | zero => simp at hb; subst hb; simpa using hg
    | succ i => have := h i b (by simpa using hb); rw [<- this]; congr 1; omega
   ·intro h i b hb;have := h (i + 1) b (by simpa using hb);rw [<- this]; congr 1; omega
theorem findI_some {g : Nat -> α -> Option ρ} {r : ρ} : ∀ {l : List α} {k : Nat}, findI g k l = some r -> ∃ i a, l[i]? = some a /\ g (k + i) a = some r /\ ∀ j b, j < i -> l[j]? = some b -> g (k + j) b = none
 | [], k, h => by simp [findI] at h
 | a :: l, k, h => by
  simp only [findI] at h;cases hg : g k a with
  | some r' =>
   rw [hg] at h;simp only [Option.some.injEq] at h;subst h;exact ⟨0, a, rfl, by simpa using hg, fun j b hj => by omega⟩
  | none =>
   rw [hg] at h;obtain ⟨i, b, h1, h2, h3⟩ := findI_some (l := l) (k := k + 1) h;refine ⟨i + 1, b, by simpa using h1, by rw [<- h2]; congr 1; omega, fun j c hj hc => ?_⟩;cases j with
   | zero => simp at hc; subst hc; simpa using hg
   | succ j => have := h3 j c (by omega) (by simpa using hc); rw [<- this]; congr 1; omega
def fst0 : List Int -> Int
 | [] => 0
 | e :: l => if e = 0 then fst0 l else e
theorem findI_fst0 : ∀ (l : List Int) (k : Nat), findI (fun _ e => if e = 0 then none else some e) k l = if fst0 l = 0 then none else some (fst0 l)
 | [], k => rfl
 | e :: l, k => by
  simp only [findI, fst0];by_cases h : e = 0
  ·simp only [h, if_true]; exact findI_fst0 l (k + 1)
  ·simp [h]
theorem for_first (l : List Int) (hl : l.length <= 1000000000) :
  (loopO (fun (s2 : Int) =>
   bif decide (s2 < (l.length : Int)) then
    (idx l s2).bind fun x3 =>
    bif !(decide (x3 = 0)) then
     some (.inr (.inr x3))
    else
     some (.inl (IntKind.wrap .i64 (s2 + 1)))
   else
    some (.inr (.inl ()))) 0).bind (Sum.elim (fun (p4 : Unit) => some 0) some) = some (fst0 l) := by
 rw [for_find l _ (fun _ e => if e = 0 then none else some e) (fun i a hi => by
  have := len_lt hi;rw [idx_of hi];simp only [Option.bind_some];by_cases h : a = 0
  ·simp only [h, decide_true, Bool.not_true, cond_false, if_true, stp]; rw [wrap_id (by omega) (by omega)]
  ·simp [h, stp]), elim_toSum, findI_fst0]
 by_cases h : fst0 l = 0
 ·simp [h]
 ·simp [h]
end
end Go.Tx
end
section
namespace Go.Tx
open Go
end Go.Tx
end
section
namespace Go.Tx
open Go
section
variable {α : Type}
end
end Go.Tx
end
section
namespace Go.Tx
open Go
section
variable {α β : Type}
def mkL (n : Nat) (f : Nat -> α) : List α := (List.range n).map f
theorem mkL_len (n : Nat) (f : Nat -> α) : (mkL n f).length = n := by simp [mkL]
theorem mkL_get {n : Nat} (f : Nat -> α) {k : Nat} (h : k < n) : (mkL n f)[k]? = some (f k) := by simp [mkL, h]
theorem mkL_getD {n : Nat} (f : Nat -> α) {k : Nat} (d : α) (h : k < n) : (mkL n f).getD k d = f k := getD_at (mkL_get f h)
theorem mem_mkL {n : Nat} {f : Nat -> α} {k : Nat} (h : k < n) : f k ∈ mkL n f := List.mem_map.2 ⟨k, by simpa using h, rfl⟩
end
end Go.Tx
end
section
set_option maxRecDepth 100000
namespace Go.Proofs.Ytkcaaaiihhhnmaa
open Go Go.Ab Go.Tx
noncomputable section
@[reducible] def I : Ty := .int .i64
@[reducible] def w64 (n : Int) : Int := IntKind.wrap .i64 n
def lookJ : List (List Tmp × FuncId × Kind × Join) -> List Tmp -> FuncId -> Kind -> Option Join
 | [], _, _, _ => none
 | (c, f, k, j) :: l, c', f', k' => if f = f' then (if k = k' then (if c = c' then some j else lookJ l c' f' k') else lookJ l c' f' k') else lookJ l c' f' k'
def awakeId : Nat := 4
def mkTH (js : List (List Tmp × FuncId × Kind × Join)) (inl : List (List Tmp × FuncId × Tmp)) : TH where
 lib := fun g => decide (g = awakeId)
 join := lookJ js
 inl := fun c f d => inl.any fun (c', f', d') => decide (f = f') && decide (d = d') && decide (c = c')
def Lb : FuncId -> Option (List V -> Option V) := fun g => if g = awakeId then some (fun args => match args with
  | [] => some (.val (.bool true))
  | _ => none) else none
theorem hJ {js : List (List Tmp × FuncId × Kind × Join)} {inl : List (List Tmp × FuncId × Tmp)} : ∀ g, (mkTH js inl).lib g = false -> Lb g = none := fun g h => by
 simp only [mkTH, decide_eq_false_iff_not] at h;simp [Lb, h]
def KT (e : Entry) (j : TH) (l : List Entry) (n : Nat) : Prop := ∀ x : denP e.ps, fnT Try.prog Hn.hints j (tabT l) n e.g (ofPms e.ps x) e.rs = e.F x
abbrev OT (e : Entry) : Prop := EntryOk Try.prog Hn.hints Lb e
theorem entK {e : Entry} {j : TH} {l : List Entry} {n : Nat} (h : TOk Try.prog Hn.hints Lb (tabT l)) (hj : ∀ g, j.lib g = false -> Lb g = none) (k : KT e j l n) : OT e := entry_ok h hj n e.g e.ps e.rs e.F k
abbrev gT : Ty := .pair I (.pair I .unit)
def top_safetyShown : Option Bool := some true
def e_top_safetyShown : Entry := ⟨4, [], [(.bool, 0)], fun _ => top_safetyShown⟩
theorem o_top_safetyShown : EntryOk Try.prog Hn.hints Lb e_top_safetyShown := fun x y h vs hv => by
 obtain rfl : true = y := Option.some.inj h;simp only [e_top_safetyShown, ofPms, RVL] at hv;subst hv;refine ⟨.val (.bool true), ⟨1, fun m hm => ?_⟩, by simp [packT, e_top_safetyShown, ofL, packedT, ofTy, RV, RTy]⟩;obtain ⟨m', rfl⟩ : ∃ m', m = m' + 1 := ⟨m - 1, by omega⟩
 simp [orcN, Lb, awakeId, e_top_safetyShown]
def base_Within (a0 : Int) (a1 : Int) (a2 : Int) : Option Bool :=
 (bif decide (a1 <= a0) then
   some (decide (a0 <= a2))
  else
   some false).bind fun (p1 : Bool) =>
 some p1
def e_base_Within : Entry := ⟨12, [.ty I, .ty I, .ty I], [(.bool, 0)], fun x => base_Within x.1 x.2.1 x.2.2⟩
def j_base_Within : TH := mkTH [([], 12, .region 1, { lv := [⟨none, 6, 0⟩], ps := [(.bool, 0)], D := ⟨32704⟩ })] []
theorem k_base_Within : KT e_base_Within j_base_Within [] 40 := fun x => by kernel_rfl
theorem o_base_Within : OT e_base_Within := entK tab_nil hJ k_base_Within
def ref09_LimitsErr (a0 : (Int × Int × Int × Int × Int × Unit)) : Option Int :=
 ((base_Within a0.1 (-60 : Int) (60 : Int)).bind fun x1 =>
  bif !x1 then
   some true
  else
   (base_Within a0.2.1 (-60 : Int) (60 : Int)).bind fun x2 =>
   bif !x2 then
    some true
   else
    (base_Within a0.2.2.1 (1 : Int) (8 : Int)).bind fun x3 =>
    bif !x3 then
     some true
    else
     (base_Within a0.2.2.2.1 (1 : Int) (3 : Int)).bind fun x4 =>
     bif !x4 then
      some true
     else
      (base_Within a0.2.2.2.2.1 (1 : Int) (6 : Int)).bind fun x5 =>
      some (!x5)).bind fun (p6 : Bool) =>
 bif p6 then
  some 2
 else
  bif decide (a0.1 > a0.2.1) then
   some 9
  else
   some 0
def e_ref09_LimitsErr : Entry := ⟨5, [.ty (.pair I (.pair I (.pair I gT)))], [(I, 0)], fun x => ref09_LimitsErr x⟩
def j_ref09_LimitsErr : TH := mkTH [([], 5, .region 1, { lv := [⟨none, 32, 0⟩], ps := [(.bool, 0)], D := ⟨8589934584⟩, rs := [⟨0, 1⟩], Dn := ⟨8317237728⟩ })] []
theorem k_ref09_LimitsErr : KT e_ref09_LimitsErr j_ref09_LimitsErr [e_base_Within] 40 := fun x => by kernel_rfl
theorem o_ref09_LimitsErr : OT e_ref09_LimitsErr := entK (tab_cons o_base_Within tab_nil) hJ k_ref09_LimitsErr
def ref09_MotionErr (a0 : (Int × Int × Int × Int × Int × Unit)) (a1 : (Int × Int × Int × Unit)) : Option Int :=
 ((base_Within a1.1 a0.1 a0.2.1).bind fun x1 =>
  bif !x1 then
   some true
  else
   (base_Within a1.2.1 (w64 (0 - a0.2.2.1)) a0.2.2.1).bind fun x2 =>
   bif !x2 then
    some true
   else
    (base_Within a1.2.2.1 (w64 (0 - a0.2.2.2.1)) a0.2.2.2.1).bind fun x3 =>
    some (!x3)).bind fun (p4 : Bool) =>
 bif p4 then
  some 2
 else
  some 0
def e_ref09_MotionErr : Entry := ⟨6, [.ty (.pair I (.pair I (.pair I gT))), .ty (.pair I gT)], [(I, 0)], fun x => ref09_MotionErr x.1 x.2⟩
def j_ref09_MotionErr : TH := mkTH [([], 6, .region 1, { lv := [⟨none, 36, 0⟩], ps := [(.bool, 0)], D := ⟨137438953440⟩, rs := [⟨0, 2⟩, ⟨0, 3⟩], Dn := ⟨132470469184⟩ })] []
theorem k_ref09_MotionErr : KT e_ref09_MotionErr j_ref09_MotionErr [e_base_Within] 40 := fun x => by kernel_rfl
theorem o_ref09_MotionErr : OT e_ref09_MotionErr := entK (tab_cons o_base_Within tab_nil) hJ k_ref09_MotionErr
def safety_within (a0 : Int) (a1 : Int) (a2 : Int) : Option Bool :=
 (bif decide (a1 <= a0) then
   some (decide (a0 <= a2))
  else
   some false).bind fun (p1 : Bool) =>
 some p1
def e_safety_within : Entry := ⟨29, [.ty I, .ty I, .ty I], [(.bool, 0)], fun x => safety_within x.1 x.2.1 x.2.2⟩
def j_safety_within : TH := mkTH [([], 29, .region 1, { lv := [⟨none, 6, 0⟩], ps := [(.bool, 0)], D := ⟨32704⟩ })] []
theorem k_safety_within : KT e_safety_within j_safety_within [] 40 := fun x => by kernel_rfl
theorem o_safety_within : OT e_safety_within := entK tab_nil hJ k_safety_within
def safety_isSized (a0 : Int) (a1 : Int) : Option Bool :=
 (safety_within a0 (w64 (0 - a1)) a1).bind fun x1 =>
 some x1
def e_safety_isSized : Entry := ⟨30, [.ty I, .ty I], [(.bool, 0)], fun x => safety_isSized x.1 x.2⟩
def j_safety_isSized : TH := mkTH [] []
theorem k_safety_isSized : KT e_safety_isSized j_safety_isSized [e_safety_within] 40 := fun x => by kernel_rfl
theorem o_safety_isSized : OT e_safety_isSized := entK (tab_cons o_safety_within tab_nil) hJ k_safety_isSized
def safety_unless (a0 : Bool) (a1 : Int) : Option Int :=
 bif a0 then
  some 0
 else
  some a1
def e_safety_unless : Entry := ⟨23, [.ty .bool, .ty I], [(I, 0)], fun x => safety_unless x.1 x.2⟩
def j_safety_unless : TH := mkTH [] []
theorem k_safety_unless : KT e_safety_unless j_safety_unless [] 40 := fun x => by kernel_rfl
theorem o_safety_unless : OT e_safety_unless := entK tab_nil hJ k_safety_unless
def safety_first (a0 : (List Int)) : Option Int :=
 (loopO (fun (s2 : Int) =>
   bif decide (s2 < (a0.length : Int)) then
    (idx a0 s2).bind fun x3 =>
    bif !(decide (x3 = 0)) then
     some (.inr (.inr x3))
    else
     some (.inl (w64 (s2 + 1)))
   else
    some (.inr (.inl ()))) 0).bind (Sum.elim (fun (p4 : Unit) =>
 some 0) some)
def e_safety_first : Entry := ⟨24, [.ty (.sl I)], [(I, 0)], fun x => safety_first x⟩
def j_safety_first : TH := mkTH [([], 24, .block 0, { lv := [], ps := [], abn := true, D := ⟨32656⟩ }),
 ([], 24, .loop 0, { lv := [⟨none, 7, 0⟩], ps := [(I, 0)], D := ⟨32656⟩ })] []
theorem k_safety_first : KT e_safety_first j_safety_first [] 40 := fun x => by kernel_rfl
theorem o_safety_first : OT e_safety_first := entK tab_nil hJ k_safety_first
def safety_CheckLimits (a0 : (Int × Int × Int × Int × Int × Unit)) : Option Int :=
 ((safety_isSized a0.1 (60 : Int)).bind fun x1 =>
  bif x1 then
   (safety_isSized a0.2.1 (60 : Int)).bind fun x2 =>
   bif x2 then
    (safety_within a0.2.2.1 (1 : Int) (8 : Int)).bind fun x3 =>
    bif x3 then
     (safety_within a0.2.2.2.1 (1 : Int) (3 : Int)).bind fun x4 =>
     bif x4 then
      (safety_within a0.2.2.2.2.1 (1 : Int) (6 : Int)).bind fun x5 =>
      some x5
     else
      some false
    else
     some false
   else
    some false
  else
   some false).bind fun (p6 : Bool) =>
 (safety_unless p6 (2 : Int)).bind fun x7 =>
 (safety_unless (decide (a0.1 <= a0.2.1)) (9 : Int)).bind fun x8 =>
 (safety_first ([x7, x8])).bind fun x9 =>
 some x9
def e_safety_CheckLimits : Entry := ⟨31, [.ty (.pair I (.pair I (.pair I gT)))], [(I, 0)], fun x => safety_CheckLimits x⟩
def j_safety_CheckLimits : TH := mkTH [([], 31, .region 1, { lv := [⟨none, 3, 0⟩], ps := [(.bool, 0)], D := ⟨536870904⟩, rs := [⟨0, 1⟩], Dn := ⟨502233544⟩ })] []
theorem k_safety_CheckLimits : KT e_safety_CheckLimits j_safety_CheckLimits [e_safety_first, e_safety_isSized, e_safety_unless, e_safety_within] 40 := fun x => by kernel_rfl
theorem o_safety_CheckLimits : OT e_safety_CheckLimits := entK (tab_cons o_safety_first (tab_cons o_safety_isSized (tab_cons o_safety_unless (tab_cons o_safety_within tab_nil)))) hJ k_safety_CheckLimits
def safety_openMotion (a0 : (Int × Int × Int × Int × Int × Unit)) (a1 : (Int × Int × Int × Unit)) : Option Int :=
 ((safety_within a1.1 a0.1 a0.2.1).bind fun x1 =>
  bif x1 then
   (safety_isSized a1.2.1 a0.2.2.1).bind fun x2 =>
   bif x2 then
    (safety_isSized a1.2.2.1 a0.2.2.2.1).bind fun x3 =>
    some x3
   else
    some false
  else
   some false).bind fun (p4 : Bool) =>
 (safety_CheckLimits a0).bind fun x5 =>
 (safety_unless p4 (2 : Int)).bind fun x6 =>
 (safety_first ([x5, x6])).bind fun x7 =>
 some x7
def e_safety_openMotion : Entry := ⟨20, [.ty (.pair I (.pair I (.pair I gT))), .ty (.pair I gT)], [(I, 0)], fun x => safety_openMotion x.1 x.2⟩
def j_safety_openMotion : TH := mkTH [([], 20, .region 1, { lv := [⟨none, 5, 0⟩], ps := [(.bool, 0)], D := ⟨536870880⟩, rs := [⟨0, 2⟩, ⟨0, 3⟩], Dn := ⟨494593184⟩ })] []
theorem k_safety_openMotion : KT e_safety_openMotion j_safety_openMotion [e_safety_CheckLimits, e_safety_first, e_safety_isSized, e_safety_unless, e_safety_within] 40 := fun x => by kernel_rfl
theorem o_safety_openMotion : OT e_safety_openMotion := entK (tab_cons o_safety_CheckLimits (tab_cons o_safety_first (tab_cons o_safety_isSized (tab_cons o_safety_unless (tab_cons o_safety_within tab_nil))))) hJ k_safety_openMotion
def safety_atRest (a0 : (Int × Int × Int × Unit)) : Option Bool :=
 (bif decide (a0.2.1 = 0) then
   some (decide (a0.2.2.1 = 0))
  else
   some false).bind fun (p1 : Bool) =>
 some p1
def e_safety_atRest : Entry := ⟨25, [.ty (.pair I gT)], [(.bool, 0)], fun x => safety_atRest x⟩
def j_safety_atRest : TH := mkTH [([], 25, .region 1, { lv := [⟨none, 2, 0⟩], ps := [(.bool, 0)], D := ⟨2044⟩, rs := [⟨0, 1⟩], Dn := ⟨1908⟩ })] []
theorem k_safety_atRest : KT e_safety_atRest j_safety_atRest [] 40 := fun x => by kernel_rfl
theorem o_safety_atRest : OT e_safety_atRest := entK tab_nil hJ k_safety_atRest
def safety_pushed (a0 : (Int × Int × Int × Int × Int × Unit)) (a1 : (Int × Int × Int × Unit)) (a2 : Int) : Option ((Int × Int × Int × Unit) × Bool) :=
 ((safety_isSized a2 a0.2.2.2.1).bind fun x1 =>
  bif !x1 then
   some true
  else
   (safety_isSized (w64 (a2 - a1.2.2.1)) a0.2.2.2.2.1).bind fun x2 =>
   some (!x2)).bind fun (p3 : Bool) =>
 bif p3 then
  some (a1, false)
 else
  ((safety_isSized (w64 (a1.2.1 + a2)) a0.2.2.1).bind fun x4 =>
   bif x4 then
    (safety_within (w64 (a1.1 + (w64 (a1.2.1 + a2)))) a0.1 a0.2.1).bind fun x5 =>
    some (x5, w64 (a1.1 + (w64 (a1.2.1 + a2))), w64 (a1.2.1 + a2), a2)
   else
    some (false, w64 (a1.1 + (w64 (a1.2.1 + a2))), w64 (a1.2.1 + a2), a2)).bind fun (p6 : (Bool × Int × Int × Int)) =>
  some ((p6.2.1, p6.2.2.1, p6.2.2.2, ()), p6.1)
def e_safety_pushed : Entry := ⟨22, [.ty (.pair I (.pair I (.pair I gT))), .ty (.pair I gT), .ty I], [((.pair I gT), 0), (.bool, 0)], fun x => safety_pushed x.1 x.2.1 x.2.2⟩
def j_safety_pushed : TH := mkTH [([], 22, .region 1, { lv := [⟨none, 22, 0⟩], ps := [(.bool, 0)], D := ⟨8388352⟩, rs := [⟨0, 3⟩, ⟨0, 4⟩], Dn := ⟨8092928⟩ }),
 ([], 22, .region 5, { lv := [⟨none, 7, 0⟩, ⟨some 0, 6, 0⟩, ⟨some 0, 6, 1⟩, ⟨some 0, 6, 2⟩], ps := [(.bool, 0), (I, 0), (I, 0), (I, 0)], D := ⟨18014261070528640⟩, wr := [⟨0, 6⟩], rs := [⟨0, 3⟩, ⟨0, 4⟩], Dn := ⟨16095338402152576⟩ })] []
theorem k_safety_pushed : KT e_safety_pushed j_safety_pushed [e_safety_isSized, e_safety_within] 40 := fun x => by kernel_rfl
theorem o_safety_pushed : OT e_safety_pushed := entK (tab_cons o_safety_isSized (tab_cons o_safety_within tab_nil)) hJ k_safety_pushed
def safety_stop (a0 : (Int × Int × Int × Int × Int × Unit)) (a1 : (Int × Int × Int × Unit)) : Option ((List Int) × Bool) :=
 (loopO (fun (s2 : ((List (Int × Int × Int × Int × Unit)) × Int × (List (Int × Int × Int × Unit)))) =>
   bif decide (s2.2.1 < (s2.1.length : Int)) then
    (idx s2.1 s2.2.1).bind fun x3 =>
    (safety_atRest (x3.1, x3.2.1, x3.2.2.1, ())).bind fun x4 =>
    bif x4 then
     (loopO (fun (s7 : ((List Int) × Int)) =>
       (idx s2.1 s7.2).bind fun x8 =>
       bif decide (x8.2.2.2.1 >= 0) then
        (idx s2.1 s7.2).bind fun x9 =>
        (app s7.1 ([x9.2.2.1])).bind fun x10 =>
        (idx s2.1 s7.2).bind fun x11 =>
        some (.inl (x10, x11.2.2.2.1))
       else
        some (.inr s7.1)) ([], s2.2.1)).bind fun (p12 : (List Int)) =>
     (revO p12).bind fun x13 =>
     some (.inr (.inr (x13, true)))
    else
     (loopO (fun (s15 : ((List (Int × Int × Int × Int × Unit)) × Int × (List (Int × Int × Int × Unit)))) =>
       bif decide (s15.2.1 <= a0.2.2.2.1) then
        (idx s15.1 s2.2.1).bind fun x16 =>
        (safety_pushed a0 (x16.1, x16.2.1, x16.2.2.1, ()) s15.2.1).bind fun x17 =>
        (bif x17.2 then
          some (!(memK (.pair I gT) s15.2.2 x17.1))
         else
          some false).bind fun (p18 : Bool) =>
        (bif p18 then
          (app s15.1 ([(x17.1.1, x17.1.2.1, x17.1.2.2.1, s2.2.1, ())])).bind fun x19 =>
          some (x19, insK (.pair I gT) s15.2.2 x17.1)
         else
          some (s15.1, s15.2.2)).bind fun (p20 : ((List (Int × Int × Int × Int × Unit)) × (List (Int × Int × Int × Unit)))) =>
        some (.inl (p20.1, w64 (s15.2.1 + 1), p20.2))
       else
        some (.inr (s15.1, s15.2.2))) (s2.1, w64 (0 - a0.2.2.2.1), s2.2.2)).bind fun (p21 : ((List (Int × Int × Int × Int × Unit)) × (List (Int × Int × Int × Unit)))) =>
     some (.inl (p21.1, w64 (s2.2.1 + 1), p21.2))
   else
    some (.inr (.inl ()))) ([(a1.1, a1.2.1, a1.2.2.1, (-1), ())], 0, insK (.pair I gT) [] a1)).bind (Sum.elim (fun (p22 : Unit) =>
 some ([], false)) some)
def e_safety_stop : Entry := ⟨21, [.ty (.pair I (.pair I (.pair I gT))), .ty (.pair I gT)], [((.sl I), 1), (.bool, 0)], fun x => safety_stop x.1 x.2⟩
def j_safety_stop : TH := mkTH [([], 21, .block 0, { lv := [], ps := [], abn := true, D := ⟨2475880078570760549797216064⟩, wr := [⟨0, 12⟩, ⟨0, 16401⟩] }),
 ([], 21, .loop 0, { lv := [⟨none, 6, 0⟩, ⟨none, 8, 0⟩, ⟨some 0, 16401, 0⟩], ps := [((.sl (.pair I (.pair I gT))), 1), (I, 0), ((.mset (.pair I gT)), 0)], D := ⟨2475880078570760549797216064⟩, wr := [⟨0, 12⟩, ⟨0, 16401⟩], rs := [⟨0, 2⟩], Dn := ⟨2475880077345781451152441152⟩ }),
 ([], 21, .block 2, { lv := [⟨none, 9, 0⟩], ps := [((.sl I), 1)], D := ⟨9007190664807936⟩ }),
 ([], 21, .loop 2, { lv := [⟨none, 9, 0⟩, ⟨none, 10, 0⟩], ps := [((.sl I), 1), (I, 0)], D := ⟨9007190664807936⟩ }),
 ([], 21, .block 4, { lv := [⟨none, 6, 0⟩, ⟨some 0, 16401, 0⟩], ps := [((.sl (.pair I (.pair I gT))), 1), ((.mset (.pair I gT)), 0)], D := ⟨2475880077994299797494839872⟩, wr := [⟨0, 12⟩, ⟨0, 16401⟩], rs := [⟨0, 2⟩], Dn := ⟨2475880076841378292887992896⟩ }),
 ([], 21, .loop 4, { lv := [⟨none, 6, 0⟩, ⟨none, 11, 0⟩, ⟨some 0, 16401, 0⟩], ps := [((.sl (.pair I (.pair I gT))), 1), (I, 0), ((.mset (.pair I gT)), 0)], D := ⟨2475880077994299797494839872⟩, wr := [⟨0, 12⟩, ⟨0, 16401⟩], rs := [⟨0, 2⟩, ⟨0, 12⟩, ⟨0, 16401⟩], Dn := ⟨2465906438829557602196662848⟩ }),
 ([], 21, .region 18, { lv := [⟨none, 82, 0⟩], ps := [(.bool, 0)], D := ⟨9595848693191119074230272⟩, rs := [⟨0, 16401⟩], Dn := ⟨9293617238287461780553728⟩ }),
 ([], 21, .cond 82, { lv := [⟨none, 6, 0⟩, ⟨some 0, 16401, 0⟩], ps := [((.sl (.pair I (.pair I gT))), 1), ((.mset (.pair I gT)), 0)], D := ⟨2466208672013843516400599104⟩, wr := [⟨0, 16401⟩], rs := [⟨0, 16401⟩], Dn := ⟨2456537265456926483002949696⟩ })] []
theorem k_safety_stop : KT e_safety_stop j_safety_stop [e_safety_atRest, e_safety_pushed] 40 := fun x => by kernel_rfl
theorem o_safety_stop : OT e_safety_stop := entK (tab_cons o_safety_atRest (tab_cons o_safety_pushed tab_nil)) hJ k_safety_stop
def safety_CanStop (a0 : (Int × Int × Int × Int × Int × Unit)) (a1 : (Int × Int × Int × Unit)) : Option (Bool × Int) :=
 (safety_openMotion a0 a1).bind fun x1 =>
 bif !(decide (x1 = 0)) then
  some (false, x1)
 else
  (safety_stop a0 a1).bind fun x2 =>
  some (x2.2, 0)
def e_safety_CanStop : Entry := ⟨7, [.ty (.pair I (.pair I (.pair I gT))), .ty (.pair I gT)], [(.bool, 0), (I, 0)], fun x => safety_CanStop x.1 x.2⟩
def j_safety_CanStop : TH := mkTH [] []
theorem k_safety_CanStop : KT e_safety_CanStop j_safety_CanStop [e_safety_openMotion, e_safety_stop] 40 := fun x => by kernel_rfl
theorem o_safety_CanStop : OT e_safety_CanStop := entK (tab_cons o_safety_openMotion (tab_cons o_safety_stop tab_nil)) hJ k_safety_CanStop
def safety_PushesFrom (a0 : (Int × Int × Int × Int × Int × Unit)) (a1 : (Int × Int × Int × Unit)) : Option ((List Int) × Int) :=
 (safety_openMotion a0 a1).bind fun x1 =>
 bif !(decide (x1 = 0)) then
  some ([], x1)
 else
  (loopO (fun (s3 : ((List Int) × Int)) =>
    bif decide (s3.2 <= a0.2.2.2.1) then
     (safety_pushed a0 a1 s3.2).bind fun x4 =>
     (bif x4.2 then
       (safety_stop a0 x4.1).bind fun x5 =>
       some x5.2
      else
       some x4.2).bind fun (p6 : Bool) =>
     (bif p6 then
       (app s3.1 ([s3.2])).bind fun x7 =>
       some x7
      else
       some s3.1).bind fun (p8 : (List Int)) =>
     some (.inl (p8, w64 (s3.2 + 1)))
    else
     some (.inr s3.1)) ([], w64 (0 - a0.2.2.2.1))).bind fun (p9 : (List Int)) =>
  some (p9, 0)
def e_safety_PushesFrom : Entry := ⟨8, [.ty (.pair I (.pair I (.pair I gT))), .ty (.pair I gT)], [((.sl I), 1), (I, 0)], fun x => safety_PushesFrom x.1 x.2⟩
def j_safety_PushesFrom : TH := mkTH [([], 8, .block 0, { lv := [⟨none, 7, 0⟩], ps := [((.sl I), 1)], D := ⟨35184371042176⟩, wr := [⟨0, 9⟩], rs := [⟨0, 2⟩], Dn := ⟨35184368945024⟩ }),
 ([], 8, .loop 0, { lv := [⟨none, 7, 0⟩, ⟨none, 8, 0⟩], ps := [((.sl I), 1), (I, 0)], D := ⟨35184371042176⟩, wr := [⟨0, 9⟩], rs := [⟨0, 2⟩, ⟨0, 9⟩], Dn := ⟨35184368944512⟩ }),
 ([], 8, .cond 33, { lv := [⟨none, 10, 0⟩], ps := [(.bool, 0)], D := ⟨1082331759616⟩ }),
 ([], 8, .cond 40, { lv := [⟨none, 7, 0⟩], ps := [((.sl I), 1)], D := ⟨32985348833408⟩ })] []
theorem k_safety_PushesFrom : KT e_safety_PushesFrom j_safety_PushesFrom [e_safety_openMotion, e_safety_pushed, e_safety_stop] 40 := fun x => by kernel_rfl
theorem o_safety_PushesFrom : OT e_safety_PushesFrom := entK (tab_cons o_safety_openMotion (tab_cons o_safety_pushed (tab_cons o_safety_stop tab_nil))) hJ k_safety_PushesFrom
def safety_StopFrom (a0 : (Int × Int × Int × Int × Int × Unit)) (a1 : (Int × Int × Int × Unit)) : Option ((List Int) × Int) :=
 (safety_openMotion a0 a1).bind fun x1 =>
 bif !(decide (x1 = 0)) then
  some ([], x1)
 else
  (safety_stop a0 a1).bind fun x2 =>
  (safety_unless x2.2 (12 : Int)).bind fun x3 =>
  some (x2.1, x3)
def e_safety_StopFrom : Entry := ⟨9, [.ty (.pair I (.pair I (.pair I gT))), .ty (.pair I gT)], [((.sl I), 1), (I, 0)], fun x => safety_StopFrom x.1 x.2⟩
def j_safety_StopFrom : TH := mkTH [] []
theorem k_safety_StopFrom : KT e_safety_StopFrom j_safety_StopFrom [e_safety_openMotion, e_safety_stop, e_safety_unless] 40 := fun x => by kernel_rfl
theorem o_safety_StopFrom : OT e_safety_StopFrom := entK (tab_cons o_safety_openMotion (tab_cons o_safety_stop (tab_cons o_safety_unless tab_nil))) hJ k_safety_StopFrom
def base_CopyInts (a0 : (List Int)) : Option (List Int) :=
 (app [] a0).bind fun x1 =>
 some x1
def e_base_CopyInts : Entry := ⟨11, [.ty (.sl I)], [((.sl I), 1)], fun x => base_CopyInts x⟩
def j_base_CopyInts : TH := mkTH [] []
theorem k_base_CopyInts : KT e_base_CopyInts j_base_CopyInts [] 40 := fun x => by kernel_rfl
theorem o_base_CopyInts : OT e_base_CopyInts := entK tab_nil hJ k_base_CopyInts
def safety_CheckStop (a0 : (Int × Int × Int × Int × Int × Unit)) (a1 : (Int × Int × Int × Unit)) (a2 : (List Int)) : Option (Int × Int) :=
 (safety_openMotion a0 a1).bind fun x1 =>
 (safety_unless (decide ((a2.length : Int) <= 100)) (8 : Int)).bind fun x2 =>
 (safety_first ([x1, x2])).bind fun x3 =>
 bif !(decide (x3 = 0)) then
  some (0, x3)
 else
  (loopO (fun (s5 : (Int × Int × Int × Int)) =>
    bif decide (s5.1 < (a2.length : Int)) then
     (idx a2 s5.1).bind fun x6 =>
     (safety_pushed a0 (s5.2.1, s5.2.2.1, s5.2.2.2, ()) x6).bind fun x7 =>
     bif !x7.2 then
      some (.inr (.inr (0, 24)))
     else
      some (.inl (w64 (s5.1 + 1), x7.1.1, x7.1.2.1, x7.1.2.2.1))
    else
     some (.inr (.inl (s5.2.1, s5.2.2.1, s5.2.2.2)))) (0, a1.1, a1.2.1, a1.2.2.1)).bind (Sum.elim (fun (p8 : (Int × Int × Int)) =>
  (safety_atRest (p8.1, p8.2.1, p8.2.2, ())).bind fun x9 =>
  bif !x9 then
   some (0, 21)
  else
   some (p8.1, 0)) some)
def e_safety_CheckStop : Entry := ⟨10, [.ty (.pair I (.pair I (.pair I gT))), .ty (.pair I gT), .ty (.sl I)], [(I, 0), (I, 0)], fun x => safety_CheckStop x.1 x.2.1 x.2.2⟩
def j_safety_CheckStop : TH := mkTH [([], 10, .block 0, { lv := [⟨some 0, 4, 0⟩, ⟨some 0, 4, 1⟩, ⟨some 0, 4, 2⟩], ps := [(I, 0), (I, 0), (I, 0)], abn := true, D := ⟨4397912300544⟩, wr := [⟨0, 4⟩, ⟨0, 11⟩] }),
 ([], 10, .loop 0, { lv := [⟨none, 27, 0⟩, ⟨some 0, 4, 0⟩, ⟨some 0, 4, 1⟩, ⟨some 0, 4, 2⟩], ps := [(I, 0), (I, 0), (I, 0), (I, 0)], D := ⟨4397912300544⟩, wr := [⟨0, 4⟩, ⟨0, 11⟩], rs := [⟨0, 11⟩], Dn := ⟨4397912298496⟩ })] []
theorem k_safety_CheckStop : KT e_safety_CheckStop j_safety_CheckStop [e_safety_atRest, e_safety_first, e_safety_openMotion, e_safety_pushed, e_safety_unless] 40 := fun x => by kernel_rfl
theorem o_safety_CheckStop : OT e_safety_CheckStop := entK (tab_cons o_safety_atRest (tab_cons o_safety_first (tab_cons o_safety_openMotion (tab_cons o_safety_pushed (tab_cons o_safety_unless tab_nil))))) hJ k_safety_CheckStop
def ref09_Pushed (a0 : (Int × Int × Int × Int × Int × Unit)) (a1 : (Int × Int × Int × Unit)) (a2 : Int) : Option ((Int × Int × Int × Unit) × Bool) :=
 ((base_Within a2 (w64 (0 - a0.2.2.2.1)) a0.2.2.2.1).bind fun x1 =>
  bif !x1 then
   some true
  else
   (base_Within a2 (w64 (a1.2.2.1 - a0.2.2.2.2.1)) (w64 (a1.2.2.1 + a0.2.2.2.2.1))).bind fun x2 =>
   some (!x2)).bind fun (p3 : Bool) =>
 bif p3 then
  some ((0, 0, 0, ()), false)
 else
  (ref09_MotionErr a0 (w64 (a1.1 + (w64 (a1.2.1 + a2))), w64 (a1.2.1 + a2), a2, ())).bind fun x4 =>
  bif !(decide (x4 = 0)) then
   some ((0, 0, 0, ()), false)
  else
   some ((w64 (a1.1 + (w64 (a1.2.1 + a2))), w64 (a1.2.1 + a2), a2, ()), true)
def e_ref09_Pushed : Entry := ⟨13, [.ty (.pair I (.pair I (.pair I gT))), .ty (.pair I gT), .ty I], [((.pair I gT), 0), (.bool, 0)], fun x => ref09_Pushed x.1 x.2.1 x.2.2⟩
def j_ref09_Pushed : TH := mkTH [([], 13, .region 1, { lv := [⟨none, 31, 0⟩], ps := [(.bool, 0)], D := ⟨4294966784⟩, rs := [⟨0, 3⟩, ⟨0, 4⟩], Dn := ⟨4208450048⟩ })] []
theorem k_ref09_Pushed : KT e_ref09_Pushed j_ref09_Pushed [e_base_Within, e_ref09_MotionErr] 40 := fun x => by kernel_rfl
theorem o_ref09_Pushed : OT e_ref09_Pushed := entK (tab_cons o_base_Within (tab_cons o_ref09_MotionErr tab_nil)) hJ k_ref09_Pushed
def base_Has (a0 : (List Int)) (a1 : Int) : Option Bool :=
 (loopO (fun (s2 : Int) =>
   bif decide (s2 < (a0.length : Int)) then
    (idx a0 s2).bind fun x3 =>
    bif decide (x3 = a1) then
     some (.inr (.inr true))
    else
     some (.inl (w64 (s2 + 1)))
   else
    some (.inr (.inl ()))) 0).bind (Sum.elim (fun (p4 : Unit) =>
 some false) some)
def e_base_Has : Entry := ⟨14, [.ty (.sl I), .ty I], [(.bool, 0)], fun x => base_Has x.1 x.2⟩
def j_base_Has : TH := mkTH [([], 14, .block 0, { lv := [], ps := [], abn := true, D := ⟨262112⟩ }),
 ([], 14, .loop 0, { lv := [⟨none, 5, 0⟩], ps := [(I, 0)], D := ⟨262112⟩ })] []
theorem k_base_Has : KT e_base_Has j_base_Has [] 40 := fun x => by kernel_rfl
theorem o_base_Has : OT e_base_Has := entK tab_nil hJ k_base_Has
def base_Mod (a0 : Int) (a1 : Int) : Option Int :=
 bif decide (a1 = 0) then
  none
 else
  (bif decide (a0.tmod a1 < 0) then
    some (w64 ((a0.tmod a1) + a1))
   else
    some (a0.tmod a1)).bind fun (p1 : Int) =>
  some p1
def e_base_Mod : Entry := ⟨15, [.ty I, .ty I], [(I, 0)], fun x => base_Mod x.1 x.2⟩
def j_base_Mod : TH := mkTH [([], 15, .cond 9, { lv := [⟨none, 0, 0⟩], ps := [(I, 0)], D := ⟨7169⟩ })] []
theorem k_base_Mod : KT e_base_Mod j_base_Mod [] 40 := fun x => by kernel_rfl
theorem o_base_Mod : OT e_base_Mod := entK tab_nil hJ k_base_Mod
def top_TopSafetyRest (a0 : (Int × Int × Int × Int × Int × Unit)) (a1 : (Int × Int × Int × Unit)) (a2 : (List Int)) : Option Bool :=
 (top_safetyShown).bind fun x1 =>
 bif !x1 then
  some false
 else
  ((ref09_LimitsErr a0).bind fun x2 =>
   bif !(decide (x2 = 0)) then
    some true
   else
    (ref09_MotionErr a0 a1).bind fun x3 =>
    bif !(decide (x3 = 0)) then
     some true
    else
     bif decide (w64 (a0.2.1 - a0.1) > 24) then
      some true
     else
      some (decide ((a2.length : Int) > 12))).bind fun (p4 : Bool) =>
  bif p4 then
   some true
  else
   (safety_CanStop a0 a1).bind fun x5 =>
   bif !(decide (x5.2 = 0)) then
    some false
   else
    bif !x5.1 then
     (safety_PushesFrom a0 a1).bind fun x6 =>
     (bif decide (x6.2 = 0) then
       some (decide ((x6.1.length : Int) = 0))
      else
       some false).bind fun (p7 : Bool) =>
     some p7
    else
     (loopO (fun (s9 : (Int × Int × Int × Int)) =>
       bif decide (s9.1 < (a2.length : Int)) then
        (safety_StopFrom a0 (s9.2.1, s9.2.2.1, s9.2.2.2, ())).bind fun x10 =>
        bif !(decide (x10.2 = 0)) then
         some (.inr (.inr false))
        else
         (bif decide ((x10.1.length : Int) <= 100) then
           (base_CopyInts x10.1).bind fun x11 =>
           (safety_CheckStop a0 (s9.2.1, s9.2.2.1, s9.2.2.2, ()) x11).bind fun x12 =>
           (bif !(decide (x12.2 = 0)) then
             some true
            else
             (base_Within x12.1 a0.1 a0.2.1).bind fun x13 =>
             some (!x13)).bind fun (p14 : Bool) =>
           bif p14 then
            some (.inr (.inr (.inr false)))
           else
            some (.inl ())
          else
           some (.inl ())).bind (Sum.elim (fun (p15 : Unit) =>
         (safety_PushesFrom a0 (s9.2.1, s9.2.2.1, s9.2.2.2, ())).bind fun x16 =>
         (bif !(decide (x16.2 = 0)) then
           some true
          else
           some (decide ((x16.1.length : Int) > w64 ((w64 (2 * a0.2.2.2.1)) + 1)))).bind fun (p17 : Bool) =>
         bif p17 then
          some (.inr (.inr false))
         else
          bif decide ((x16.1.length : Int) = 0) then
           some (.inr (.inr false))
          else
           (loopO (fun (s19 : Int) =>
             bif decide (s19 <= a0.2.2.2.1) then
              (ref09_Pushed a0 (s9.2.1, s9.2.2.1, s9.2.2.2, ()) s19).bind fun x20 =>
              (bif x20.2 then
                (safety_CanStop a0 x20.1).bind fun x21 =>
                bif !(decide (x21.2 = 0)) then
                 some (.inr (.inr (.inr (.inr (.inr false)))))
                else
                 some (.inl x21.1)
               else
                some (.inl false)).bind (Sum.elim (fun (p22 : Bool) =>
              (base_Has x16.1 s19).bind fun x23 =>
              bif !(p22 == x23) then
               some (.inr (.inr (.inr (.inr false))))
              else
               some (.inl (w64 (s19 + 1)))) some)
             else
              some (.inr (.inl ()))) (w64 (0 - a0.2.2.2.1))).bind (Sum.elim (fun (p24 : Unit) =>
           (idx a2 s9.1).bind fun x25 =>
           (base_Mod x25 (x16.1.length : Int)).bind fun x26 =>
           (idx x16.1 x26).bind fun x27 =>
           (ref09_Pushed a0 (s9.2.1, s9.2.2.1, s9.2.2.2, ()) x27).bind fun x28 =>
           (bif !x28.2 then
             some true
            else
             (ref09_MotionErr a0 x28.1).bind fun x29 =>
             some (!(decide (x29 = 0)))).bind fun (p30 : Bool) =>
           bif p30 then
            some (.inr (.inr false))
           else
            some (.inl (w64 (s9.1 + 1), x28.1.1, x28.1.2.1, x28.1.2.2.1))) some)) some)
       else
        some (.inr (.inl ()))) (0, a1.1, a1.2.1, a1.2.2.1)).bind (Sum.elim (fun (p31 : Unit) =>
     some true) some)
def e_top_TopSafetyRest : Entry := ⟨3, [.ty (.pair I (.pair I (.pair I gT))), .ty (.pair I gT), .ty (.sl I)], [(.bool, 0)], fun x => top_TopSafetyRest x.1 x.2.1 x.2.2⟩
def j_top_TopSafetyRest : TH := mkTH [([], 3, .region 3, { lv := [⟨none, 51, 0⟩], ps := [(.bool, 0)], D := ⟨4503599358935040⟩, rs := [⟨0, 3⟩], Dn := ⟨4496177655447552⟩ }),
 ([], 3, .region 10, { lv := [⟨none, 6, 0⟩], ps := [(.bool, 0)], D := ⟨37483783957777808884288⟩ }),
 ([], 3, .block 0, { lv := [], ps := [], abn := true, D := ⟨784637716923335095479473677900958264233862567600909711872⟩, wr := [⟨0, 4⟩, ⟨0, 19⟩, ⟨0, 24⟩] }),
 ([], 3, .loop 0, { lv := [⟨none, 11, 0⟩, ⟨some 0, 4, 0⟩, ⟨some 0, 4, 1⟩, ⟨some 0, 4, 2⟩], ps := [(I, 0), (I, 0), (I, 0), (I, 0)], D := ⟨784637716923335095479473677900958264233862567600909711872⟩, wr := [⟨0, 4⟩, ⟨0, 19⟩, ⟨0, 24⟩], rs := [⟨0, 3⟩, ⟨0, 24⟩], Dn := ⟨784637716923334910344597877352816187596513765178715666944⟩ }),
 ([], 3, .cond 91, { lv := [], ps := [], abn := true, D := ⟨10384588765309498115539893061996544⟩, rs := [⟨0, 3⟩], Dn := ⟨9836963706010903014093317277274112⟩ }),
 ([], 3, .region 19, { lv := [⟨none, 112, 0⟩], ps := [(.bool, 0)], D := ⟨10383326066469427027659495955234816⟩, rs := [⟨0, 3⟩], Dn := ⟨9835701007170831926212920170512384⟩ }),
 ([], 3, .region 22, { lv := [⟨none, 129, 0⟩], ps := [(.bool, 0)], D := ⟨1360464853685861395917046526196932673536⟩, rs := [⟨0, 3⟩], Dn := ⟨1339197205753302741950585613232447160320⟩ }),
 ([], 3, .block 2, { lv := [], ps := [], abn := true, D := ⟨23384026110182160759498710676836628811962275074560⟩, wr := [⟨0, 19⟩], rs := [⟨0, 3⟩], Dn := ⟨23384025935957588895978217383588829806896950809088⟩ }),
 ([], 3, .loop 2, { lv := [⟨none, 18, 0⟩], ps := [(I, 0)], D := ⟨23384026110182160759498710676836628811962275074560⟩, wr := [⟨0, 19⟩], rs := [⟨0, 3⟩, ⟨0, 19⟩], Dn := ⟨23384025935957588895978217383588829806896950284800⟩ }),
 ([], 3, .cond 149, { lv := [⟨none, 21, 0⟩], ps := [(.bool, 0)], abn := true, D := ⟨729323570972745499220784130388692014691598204928⟩ }),
 ([], 3, .region 39, { lv := [⟨none, 187, 0⟩], ps := [(.bool, 0)], D := ⟨390786362920801658881378491923328841822778476156818554880⟩ })] []
theorem k_top_TopSafetyRest : KT e_top_TopSafetyRest j_top_TopSafetyRest [e_base_CopyInts, e_base_Has, e_base_Mod, e_base_Within, e_ref09_LimitsErr, e_ref09_MotionErr, e_ref09_Pushed, e_safety_CanStop, e_safety_CheckStop, e_safety_PushesFrom, e_safety_StopFrom, e_top_safetyShown] 40 := fun x => by kernel_rfl
theorem o_top_TopSafetyRest : OT e_top_TopSafetyRest := entK (tab_cons o_base_CopyInts (tab_cons o_base_Has (tab_cons o_base_Mod (tab_cons o_base_Within (tab_cons o_ref09_LimitsErr (tab_cons o_ref09_MotionErr (tab_cons o_ref09_Pushed (tab_cons o_safety_CanStop (tab_cons o_safety_CheckStop (tab_cons o_safety_PushesFrom (tab_cons o_safety_StopFrom (tab_cons o_top_safetyShown tab_nil)))))))))))) hJ k_top_TopSafetyRest
end
end Go.Proofs.Ytkcaaaiihhhnmaa
end
section
namespace Go.Proofs.Ytkcaaaiihhhnmaa
open Go Go.Ab Go.Tx
theorem wit (n lo hi : Int) : safety_within n lo hi = some (decide (lo <= n /\ n <= hi)) := by
 unfold safety_within;by_cases h : lo <= n <;> by_cases h' : n <= hi <;> simp [h, h']
theorem Wit (n lo hi : Int) : base_Within n lo hi = some (decide (lo <= n /\ n <= hi)) := by
 unfold base_Within;by_cases h : lo <= n <;> by_cases h' : n <= hi <;> simp [h, h']
theorem wq {n : Int} (h1 : -9223372036854775808 <= n) (h2 : n <= 9223372036854775807) : w64 n = n := wrap_id h1 h2
theorem siz {n m : Int} (h : 0 <= m /\ m <= 4611686018427387904) : safety_isSized n m = some (decide (-m <= n /\ n <= m)) := by
 unfold safety_isSized;rw [wq (n := 0 - m) (by omega) (by omega), wit];simp
theorem unl (b : Bool) (e : Int) : safety_unless b e = some (if b then 0 else e) := by cases b <;> rfl
theorem fst_ (l : List Int) (h : l.length <= 1000000000) : safety_first l = some (fst0 l) := by
 unfold safety_first; exact for_first l h
theorem Mod_eq {a b : Int} (hb : 1 <= b /\ b <= 4611686018427387904) : ∃ m, base_Mod a b = some m /\ 0 <= m /\ m < b := by
 unfold base_Mod;have h0 : ¬ b = 0 := by omega
 simp only [h0, decide_false, cond_false];have h1 : a.tmod b < b := Int.tmod_lt_of_pos a (by omega);have h2 : -b < a.tmod b := by
  have := Int.lt_tmod_of_pos a (show 0 < b by omega);omega
 by_cases h3 : a.tmod b < 0
 ·refine ⟨a.tmod b + b, ?_, by omega, by omega⟩;simp only [h3, decide_true, cond_true, Option.bind_some];rw [wq (by omega) (by omega)]
 ·exact ⟨a.tmod b, by simp [h3], by omega, h1⟩
abbrev Lm := Int × Int × Int × Int × Int × Unit
abbrev Mo := Int × Int × Int × Unit
abbrev En := Int × Int × Int × Int × Unit
structure LimOk (x : Lm) : Prop where
 lo : -60 <= x.1 /\ x.1 <= 60
 hi : -60 <= x.2.1 /\ x.2.1 <= 60
 sp : 1 <= x.2.2.1 /\ x.2.2.1 <= 8
 pu : 1 <= x.2.2.2.1 /\ x.2.2.2.1 <= 3
 je : 1 <= x.2.2.2.2.1 /\ x.2.2.2.2.1 <= 6
theorem limOk_iff (x : Lm) : LimOk x ↔ (-60 <= x.1 /\ x.1 <= 60) /\ (-60 <= x.2.1 /\ x.2.1 <= 60) /\ (1 <= x.2.2.1 /\ x.2.2.1 <= 8) /\ (1 <= x.2.2.2.1 /\ x.2.2.2.1 <= 3) /\ (1 <= x.2.2.2.2.1 /\ x.2.2.2.2.1 <= 6) :=
 ⟨fun h => ⟨h.1, h.2, h.3, h.4, h.5⟩, fun h => ⟨h.1, h.2.1, h.2.2.1, h.2.2.2.1, h.2.2.2.2⟩⟩
instance (x : Lm) : Decidable (LimOk x) := decidable_of_iff _ (limOk_iff x).symm
def limE (x : Lm) : Int := if LimOk x then (if x.1 <= x.2.1 then 0 else 9) else 2
def MotOk (x : Lm) (s : Mo) : Prop := (x.1 <= s.1 /\ s.1 <= x.2.1) /\ (-x.2.2.1 <= s.2.1 /\ s.2.1 <= x.2.2.1) /\ (-x.2.2.2.1 <= s.2.2.1 /\ s.2.2.1 <= x.2.2.2.1)
instance (x : Lm) (s : Mo) : Decidable (MotOk x s) := by unfold MotOk; infer_instance
def motE (x : Lm) (s : Mo) : Int := if limE x = 0 then (if MotOk x s then 0 else 2) else limE x
theorem limE_zero {x : Lm} (h : limE x = 0) : LimOk x /\ x.1 <= x.2.1 := by
 unfold limE at h;split at h
 ·rename_i h1;split at h
  ·exact ⟨h1, by assumption⟩
  ·omega
 ·omega
theorem motE_zero {x : Lm} {s : Mo} (h : motE x s = 0) : limE x = 0 /\ MotOk x s := by
 unfold motE at h;split at h
 ·split at h
  ·exact ⟨by assumption, by assumption⟩
  ·omega
 ·rename_i h1; exact absurd h h1
theorem CheckLimits_eq (x : Lm) : safety_CheckLimits x = some (limE x) := by
 unfold safety_CheckLimits;rw [siz (by omega), siz (by omega)];simp only [wit, unl, Option.bind_some];have c : (bif decide (-60 <= x.1 /\ x.1 <= 60) then bif decide (-60 <= x.2.1 /\ x.2.1 <= 60) then bif decide (1 <= x.2.2.1 /\ x.2.2.1 <= 8) then bif decide (1 <= x.2.2.2.1 /\ x.2.2.2.1 <= 3) then some (decide (1 <= x.2.2.2.2.1 /\ x.2.2.2.2.1 <= 6)) else some false else some false else some false else some false) = some (decide (LimOk x)) := by
  simp only [limOk_iff];by_cases h1 : -60 <= x.1 /\ x.1 <= 60 <;> by_cases h2 : -60 <= x.2.1 /\ x.2.1 <= 60 <;> by_cases h3 : 1 <= x.2.2.1 /\ x.2.2.1 <= 8 <;> by_cases h4 : 1 <= x.2.2.2.1 /\ x.2.2.2.1 <= 3 <;> by_cases h5 : 1 <= x.2.2.2.2.1 /\ x.2.2.2.2.1 <= 6 <;> simp [h1, h2, h3, h4, h5]
 rw [c];simp only [Option.bind_some];rw [fst_ _ (by simp)];unfold limE;by_cases h : LimOk x <;> by_cases h' : x.1 <= x.2.1 <;> simp [h, h', fst0]
theorem LimitsErr_eq (x : Lm) : ref09_LimitsErr x = some (limE x) := by
 unfold ref09_LimitsErr;simp only [Wit, Option.bind_some];have c : (bif !decide (-60 <= x.1 /\ x.1 <= 60) then some true else bif !decide (-60 <= x.2.1 /\ x.2.1 <= 60) then some true else bif !decide (1 <= x.2.2.1 /\ x.2.2.1 <= 8) then some true else bif !decide (1 <= x.2.2.2.1 /\ x.2.2.2.1 <= 3) then some true else some (!decide (1 <= x.2.2.2.2.1 /\ x.2.2.2.2.1 <= 6))) = some (!decide (LimOk x)) := by
  simp only [limOk_iff];by_cases h1 : -60 <= x.1 /\ x.1 <= 60 <;> by_cases h2 : -60 <= x.2.1 /\ x.2.1 <= 60 <;> by_cases h3 : 1 <= x.2.2.1 /\ x.2.2.1 <= 8 <;> by_cases h4 : 1 <= x.2.2.2.1 /\ x.2.2.2.1 <= 3 <;> by_cases h5 : 1 <= x.2.2.2.2.1 /\ x.2.2.2.2.1 <= 6 <;> simp [h1, h2, h3, h4, h5]
 rw [c];simp only [Option.bind_some];unfold limE;by_cases h : LimOk x <;> by_cases h' : x.1 <= x.2.1
 ·have : ¬ x.1 > x.2.1 := by omega
  simp [h, h', this]
 ·have : x.1 > x.2.1 := by omega
  simp [h, h', this]
 ·simp [h]
 ·simp [h]
theorem siz_some (n m : Int) : ∃ b, safety_isSized n m = some b := ⟨_, by unfold safety_isSized; rw [wit]; rfl⟩
theorem openMotion_eq (x : Lm) (s : Mo) : safety_openMotion x s = some (motE x s) := by
 unfold safety_openMotion;simp only [wit, unl, Option.bind_some, CheckLimits_eq];obtain ⟨b1, e1⟩ := siz_some s.2.1 x.2.2.1;obtain ⟨b2, e2⟩ := siz_some s.2.2.1 x.2.2.2.1;by_cases h0 : limE x = 0
 ·obtain ⟨h, _⟩ := limE_zero h0;have := h.sp; have := h.pu;rw [siz (by omega), siz (by omega)];simp only [Option.bind_some];have c : (bif decide (x.1 <= s.1 /\ s.1 <= x.2.1) then bif decide (-x.2.2.1 <= s.2.1 /\ s.2.1 <= x.2.2.1) then some (decide (-x.2.2.2.1 <= s.2.2.1 /\ s.2.2.1 <= x.2.2.2.1)) else some false else some false) = some (decide (MotOk x s)) := by
   unfold MotOk;by_cases h1 : x.1 <= s.1 /\ s.1 <= x.2.1 <;> by_cases h2 : -x.2.2.1 <= s.2.1 /\ s.2.1 <= x.2.2.1 <;> by_cases h3 : -x.2.2.2.1 <= s.2.2.1 /\ s.2.2.1 <= x.2.2.2.1 <;> simp [h1, h2, h3]
  rw [c];simp only [Option.bind_some];rw [fst_ _ (by simp)];unfold motE;by_cases h : MotOk x s <;> simp [h, h0, fst0]
 ·rw [e1, e2];simp only [Option.bind_some];have c : ∃ b : Bool, (bif decide (x.1 <= s.1 /\ s.1 <= x.2.1) then bif b1 then some b2 else some false else some false) = some b := by
   by_cases h1 : x.1 <= s.1 /\ s.1 <= x.2.1
   ·rw [decide_eq_true h1];cases b1
    ·exact ⟨false, rfl⟩
    ·exact ⟨b2, rfl⟩
   ·rw [decide_eq_false h1]; exact ⟨false, rfl⟩
  obtain ⟨b, c⟩ := c;rw [c];simp only [Option.bind_some];rw [fst_ _ (by simp)];unfold motE;simp [h0, fst0]
theorem MotionErr_eq {x : Lm} (hx : LimOk x) (s : Mo) : ref09_MotionErr x s = some (if MotOk x s then 0 else 2) := by
 unfold ref09_MotionErr;have := hx.sp; have := hx.pu;simp only [Wit, Option.bind_some];rw [wq (n := 0 - x.2.2.1) (by omega) (by omega), wq (n := 0 - x.2.2.2.1) (by omega) (by omega)];have c : (bif !decide (x.1 <= s.1 /\ s.1 <= x.2.1) then some true else bif !decide (0 - x.2.2.1 <= s.2.1 /\ s.2.1 <= x.2.2.1) then some true else some (!decide (0 - x.2.2.2.1 <= s.2.2.1 /\ s.2.2.1 <= x.2.2.2.1))) = some (!decide (MotOk x s)) := by
  unfold MotOk;simp only [Int.zero_sub];by_cases h1 : x.1 <= s.1 /\ s.1 <= x.2.1 <;> by_cases h2 : -x.2.2.1 <= s.2.1 /\ s.2.1 <= x.2.2.1 <;> by_cases h3 : -x.2.2.2.1 <= s.2.2.1 /\ s.2.2.1 <= x.2.2.2.1 <;> simp [h1, h2, h3]
 rw [c];by_cases h : MotOk x s <;> simp [h]
def nxt (s : Mo) (p : Int) : Mo := (s.1 + (s.2.1 + p), s.2.1 + p, p, ())
def pok (x : Lm) (s : Mo) (p : Int) : Prop := (-x.2.2.2.1 <= p /\ p <= x.2.2.2.1) /\ (-x.2.2.2.2.1 <= p - s.2.2.1 /\ p - s.2.2.1 <= x.2.2.2.2.1) /\ MotOk x (nxt s p)
instance (x : Lm) (s : Mo) (p : Int) : Decidable (pok x s p) := by unfold pok; infer_instance
theorem pushed_eq {x : Lm} (hx : LimOk x) {s : Mo} (hs : MotOk x s) (p : Int) : ∃ m, safety_pushed x s p = some (m, decide (pok x s p)) /\ (pok x s p -> m = nxt s p) := by
 unfold safety_pushed;have h1 := hx.sp; have h2 := hx.pu; have h3 := hx.je; have h4 := hx.lo; have h5 := hx.hi;obtain ⟨⟨s1, s2⟩, ⟨s3, s4⟩, s5, s6⟩ := hs;rw [siz (by omega)];simp only [Option.bind_some];by_cases hp : -x.2.2.2.1 <= p /\ p <= x.2.2.2.1
 ·simp only [hp, and_self, decide_true, Bool.not_true, cond_false];rw [wq (n := p - s.2.2.1) (by omega) (by omega), siz (by omega)];simp only [Option.bind_some];by_cases hj : -x.2.2.2.2.1 <= p - s.2.2.1 /\ p - s.2.2.1 <= x.2.2.2.2.1
  ·simp only [hj, and_self, decide_true, Bool.not_true, cond_false];rw [wq (n := s.2.1 + p) (by omega) (by omega), wq (n := s.1 + (s.2.1 + p)) (by omega) (by omega), siz (by omega)];simp only [Option.bind_some, wit];by_cases ha : -x.2.2.1 <= s.2.1 + p /\ s.2.1 + p <= x.2.2.1
   ·simp only [ha, and_self, decide_true, cond_true, Option.bind_some];refine ⟨_, ?_, fun _ => rfl⟩;congr 2
    apply decide_eq_decide.2;unfold pok MotOk nxt;simp only
    exact ⟨fun h => ⟨hp, hj, h, ha, hp⟩, fun h => h.2.2.1⟩
   ·simp only [ha, decide_false, cond_false, Option.bind_some];have hn : ¬ pok x s p := fun h => ha h.2.2.2.1;rw [decide_eq_false hn]; exact ⟨_, rfl, fun h => absurd h hn⟩
  ·simp only [hj, decide_false, Bool.not_false, cond_true, Option.bind_some];have hn : ¬ pok x s p := fun h => hj h.2.1;rw [decide_eq_false hn]; exact ⟨_, rfl, fun h => absurd h hn⟩
 ·simp only [hp, decide_false, Bool.not_false, cond_true, Option.bind_some];have hn : ¬ pok x s p := fun h => hp h.1;rw [decide_eq_false hn]; exact ⟨_, rfl, fun h => absurd h hn⟩
theorem Pushed_eq {x : Lm} (hx : LimOk x) {s : Mo} (hs : MotOk x s) (p : Int) : ref09_Pushed x s p = some (if pok x s p then (nxt s p, true) else ((0, 0, 0, ()), false)) := by
 unfold ref09_Pushed;have h1 := hx.sp; have h2 := hx.pu; have h3 := hx.je; have h4 := hx.lo; have h5 := hx.hi;obtain ⟨⟨s1, s2⟩, ⟨s3, s4⟩, s5, s6⟩ := hs;rw [wq (n := 0 - x.2.2.2.1) (by omega) (by omega)];simp only [Wit, Option.bind_some];by_cases hp : -x.2.2.2.1 <= p /\ p <= x.2.2.2.1
 ·have hp0 : 0 - x.2.2.2.1 <= p /\ p <= x.2.2.2.1 := by omega
  simp only [hp0, and_self, decide_true, Bool.not_true, cond_false];rw [wq (n := s.2.2.1 - x.2.2.2.2.1) (by omega) (by omega), wq (n := s.2.2.1 + x.2.2.2.2.1) (by omega) (by omega)];by_cases hj : -x.2.2.2.2.1 <= p - s.2.2.1 /\ p - s.2.2.1 <= x.2.2.2.2.1
  ·have hj0 : s.2.2.1 - x.2.2.2.2.1 <= p /\ p <= s.2.2.1 + x.2.2.2.2.1 := by omega
   simp only [hj0, and_self, decide_true, Bool.not_true, Option.bind_some, cond_false];rw [wq (n := s.2.1 + p) (by omega) (by omega), wq (n := s.1 + (s.2.1 + p)) (by omega) (by omega), MotionErr_eq hx];simp only [Option.bind_some];by_cases hm : MotOk x (nxt s p)
   ·have hn : pok x s p := ⟨hp, hj, hm⟩
    rw [if_pos hn, show (s.1 + (s.2.1 + p), s.2.1 + p, p, ()) = nxt s p from rfl, if_pos hm];simp
   ·have hn : ¬ pok x s p := fun h => hm h.2.2;rw [if_neg hn, show (s.1 + (s.2.1 + p), s.2.1 + p, p, ()) = nxt s p from rfl, if_neg hm];simp
  ·have hj0 : ¬ (s.2.2.1 - x.2.2.2.2.1 <= p /\ p <= s.2.2.1 + x.2.2.2.2.1) := by omega
   have hn : ¬ pok x s p := fun h => hj h.2.1;simp [hj0, hn]
 ·have hp0 : ¬ (0 - x.2.2.2.1 <= p /\ p <= x.2.2.2.1) := by omega
  have hn : ¬ pok x s p := fun h => hp h.1;simp only [decide_eq_false hp0, Bool.not_false, cond_true, Option.bind_some, if_neg hn]
def mot (e : En) : Mo := (e.1, e.2.1, e.2.2.1, ())
def isRest (m : Mo) : Prop := m.2.1 = 0 /\ m.2.2.1 = 0
instance (m : Mo) : Decidable (isRest m) := by unfold isRest; infer_instance
theorem atRest_eq (m : Mo) : safety_atRest m = some (decide (isRest m)) := by
 unfold safety_atRest isRest;by_cases h : m.2.1 = 0 <;> by_cases h' : m.2.2.1 = 0 <;> simp [h, h']
def enOf (m : Mo) (k : Int) : En := (m.1, m.2.1, m.2.2.1, k, ())
theorem mot_enOf (m : Mo) (k : Int) : mot (enOf m k) = m := rfl
def addP (x : Lm) (m : Mo) (k : Int) (all : List En) (p : Int) : List En := if pok x m p /\ nxt m p ∉ all.map mot then all ++ [enOf (nxt m p) k] else all
def pushL (P : Int) : List Int := mkL (2 * P + 1).toNat fun j => (j : Int) - P
def expand (x : Lm) (m : Mo) (k : Int) (all : List En) : List En := (pushL x.2.2.2.1).foldl (addP x m k) all
def RR (x : Lm) (s : Mo) : Nat -> Option (List En)
 | 0 => some [enOf s (-1)]
 | i + 1 => (RR x s i).bind fun all => match all[i]? with
  | some e => if isRest (mot e) then none else some (expand x (mot e) i all)
  | none => none
inductive Pth (all : List En) : Nat -> List Int -> Prop
 | nil {k : Nat} {e : En} : all[k]? = some e -> e.2.2.2.1 < 0 -> Pth all k []
 | snoc {k : Nat} {e : En} {l : List Int} : all[k]? = some e -> 0 <= e.2.2.2.1 -> Pth all e.2.2.2.1.toNat l -> Pth all k (l ++ [e.2.2.1])
def Res (x : Lm) (s : Mo) (r : List Int × Bool) : Prop :=
 (∃ i all e l, RR x s i = some all /\ all[i]? = some e /\ isRest (mot e) /\ Pth all i l /\ r = (l, true)) \/ (∃ i all, RR x s i = some all /\ all[i]? = none /\ r = ([], false))
structure Good (x : Lm) (all : List En) : Prop where
 nd : (all.map mot).Nodup
 ok : ∀ e ∈ all, MotOk x (mot e)
 bef : ∀ (k : Nat) e, all[k]? = some e -> e.2.2.2.1 < k /\ -1 <= e.2.2.2.1
 pos : 0 < all.length
theorem addP_good {x : Lm} {m : Mo} {k : Nat} {all : List En} (h : Good x all) (hk : k < all.length) (p : Int) : Good x (addP x m k all p) /\ all.length <= (addP x m k all p).length /\ ∀ i, i < all.length -> (addP x m k all p)[i]? = all[i]? := by
 unfold addP;split
 ·rename_i hc;refine ⟨⟨?_, fun e he => ?_, fun j e he => ?_, by simp⟩, by simp, fun i hi => List.getElem?_append_left hi⟩
  ·rw [List.map_append, List.nodup_append];refine ⟨h.nd, by simp, fun a ha b hb => ?_⟩;simp only [List.map_cons, List.map_nil, mot_enOf, List.mem_singleton] at hb;rintro rfl;exact hc.2 (hb ▸ ha)
  ·rcases List.mem_append.1 he with he | he
   ·exact h.ok e he
   ·rw [List.mem_singleton] at he; subst he;exact hc.1.2.2
  ·by_cases hj : j < all.length
   ·rw [List.getElem?_append_left hj] at he; exact h.bef j e he
   ·rw [List.getElem?_append_right (by omega)] at he;have h0 : j - all.length = 0 := by
     have := (List.getElem?_eq_some_iff.1 he).1;simp at this; omega
    rw [h0] at he;simp at he; subst he;simp only [enOf] <;> omega
 ·exact ⟨h, Nat.le_refl _, fun _ _ => rfl⟩
theorem addPs_good {x : Lm} {m : Mo} {k : Nat} : ∀ (ps : List Int) {all : List En}, Good x all -> k < all.length -> Good x (ps.foldl (addP x m k) all) /\ all.length <= (ps.foldl (addP x m k) all).length /\ ∀ i, i < all.length -> (ps.foldl (addP x m k) all)[i]? = all[i]?
 | [], all, h, hk => ⟨h, Nat.le_refl _, fun _ _ => rfl⟩
 | p :: ps, all, h, hk => by
  obtain ⟨h1, h2, h3⟩ := addP_good (m := m) h hk p;obtain ⟨h4, h5, h6⟩ := addPs_good (m := m) (k := k) ps h1 (by omega);exact ⟨h4, by simp only [List.foldl_cons]; omega, fun i hi => by simp only [List.foldl_cons]; rw [h6 i (by omega), h3 i hi]⟩
theorem RR_good {x : Lm} {s : Mo} (hs : MotOk x s) : ∀ {i : Nat} {all : List En}, RR x s i = some all -> Good x all /\ i <= all.length
 | 0, all, h => by
  simp only [RR, Option.some.injEq] at h; subst h;refine ⟨⟨by simp, fun e he => ?_, fun k e he => ?_, by simp⟩, by simp⟩
  ·simp only [List.mem_singleton] at he; subst he; exact hs
  ·have h0 : k = 0 := by
    have := (List.getElem?_eq_some_iff.1 he).1;simp at this; omega
   subst h0;simp at he; subst he;simp [enOf]
 | i + 1, all, h => by
  simp only [RR] at h;obtain ⟨a0, h1, h2⟩ := Option.bind_eq_some_iff.1 h;obtain ⟨hg, hi⟩ := RR_good hs h1;split at h2
  ·rename_i e he;split at h2
   ·cases h2
   ·simp only [Option.some.injEq] at h2; subst h2;have hlt := len_lt he;obtain ⟨g1, g2, _⟩ := addPs_good (m := mot e) (pushL x.2.2.2.1) hg hlt;exact ⟨g1, by unfold expand; omega⟩
  ·cases h2
theorem dm_uniq {a b a' b' B : Int} (h1 : 0 <= b /\ b < B) (h2 : 0 <= b' /\ b' < B) (h : a * B + b = a' * B + b') : a = a' /\ b = b' := by
 have e1 : (a * B + b) / B = a := by rw [Int.add_comm, Int.add_mul_ediv_right _ _ (by omega), Int.ediv_eq_zero_of_lt h1.1 h1.2]; omega
 have e2 : (a' * B + b') / B = a' := by rw [Int.add_comm, Int.add_mul_ediv_right _ _ (by omega), Int.ediv_eq_zero_of_lt h2.1 h2.2]; omega
 have : a = a' := by rw [<- e1, h, e2]
 subst this;exact ⟨rfl, by omega⟩
theorem dm_lt {a b A B : Int} (h1 : 0 <= a /\ a < A) (h2 : 0 <= b /\ b < B) : 0 <= a * B + b /\ a * B + b < A * B := by
 have h3 : 0 <= a * B := Int.mul_nonneg h1.1 (by omega);have h4 : (a + 1) * B <= A * B := Int.mul_le_mul_of_nonneg_right (by omega) (by omega);have h5 : (a + 1) * B = a * B + B := by rw [Int.add_mul]; omega
 omega
def cellZ (x : Lm) (m : Mo) : Int := ((m.1 - x.1) * (2 * x.2.2.1 + 1) + (m.2.1 + x.2.2.1)) * (2 * x.2.2.2.1 + 1) + (m.2.2.1 + x.2.2.2.1)
def NN (x : Lm) : Int := (x.2.1 - x.1 + 1) * (2 * x.2.2.1 + 1) * (2 * x.2.2.2.1 + 1)
theorem cellZ_lt {x : Lm} {m : Mo} (h : MotOk x m) : 0 <= cellZ x m /\ cellZ x m < NN x := by
 obtain ⟨h1, h2, h3⟩ := h;exact dm_lt (dm_lt (by omega) (by omega)) (by omega)
theorem cellZ_inj {x : Lm} {m m' : Mo} (h : MotOk x m) (h' : MotOk x m') (e : cellZ x m = cellZ x m') : m = m' := by
 obtain ⟨h1, h2, h3⟩ := h;obtain ⟨h1', h2', h3'⟩ := h';obtain ⟨e1, e2⟩ := dm_uniq (by omega) (by omega) e;obtain ⟨e3, e4⟩ := dm_uniq (by omega) (by omega) e1;obtain ⟨a, b, c, ⟨⟩⟩ := m;obtain ⟨a', b', c', ⟨⟩⟩ := m';simp only at e2 e3 e4;have : a = a' := by omega
 have : b = b' := by omega
 have : c = c' := by omega
 subst_vars; rfl
theorem NN_le {x : Lm} (h : LimOk x) (h2 : x.1 <= x.2.1) : 0 < NN x /\ NN x <= 14399 := by
 have := h.lo; have := h.hi; have := h.sp; have := h.pu;unfold NN;have a1 : (x.2.1 - x.1 + 1) * (2 * x.2.2.1 + 1) <= 121 * (2 * x.2.2.1 + 1) := Int.mul_le_mul_of_nonneg_right (by omega) (by omega);have a2 : (x.2.1 - x.1 + 1) * (2 * x.2.2.1 + 1) <= 2057 := by omega
 have a3 : 0 < (x.2.1 - x.1 + 1) * (2 * x.2.2.1 + 1) := Int.mul_pos (by omega) (by omega);have a4 : (x.2.1 - x.1 + 1) * (2 * x.2.2.1 + 1) * (2 * x.2.2.2.1 + 1) <= 2057 * (2 * x.2.2.2.1 + 1) := Int.mul_le_mul_of_nonneg_right a2 (by omega);exact ⟨Int.mul_pos a3 (by omega), by omega⟩
theorem nodup_lt : ∀ (N : Nat) (l : List Nat), l.Nodup -> (∀ a ∈ l, a < N) -> l.length <= N
 | 0, l, _, h => by
  cases l with
  | nil => simp
  | cons a l => exact absurd (h a (by simp)) (by omega)
 | N + 1, l, hd, h => by
  have h1 := nodup_lt N (l.filter fun a => decide (a ≠ N)) (hd.filter _) (fun a ha => by
   simp only [List.mem_filter, decide_eq_true_eq] at ha;have := h a ha.1; omega)
  have h2 : (l.filter fun a => !decide (a ≠ N)).length <= 1 := by
   have hn : (l.filter fun a => !decide (a ≠ N)).Nodup := hd.filter _
   match hl : l.filter fun a => !decide (a ≠ N) with
   | [] => simp
   | [a] => simp
   | a :: b :: t =>
    exfalso
    have ha : a ∈ l.filter fun a => !decide (a ≠ N) := by rw [hl]; simp
    have hb : b ∈ l.filter fun a => !decide (a ≠ N) := by rw [hl]; simp
    simp only [List.mem_filter, Bool.not_eq_true', decide_eq_false_iff_not, Decidable.not_not] at ha hb;rw [hl] at hn;have : a ≠ b := by
     have := (List.nodup_cons.1 hn).1;simp only [List.mem_cons, not_or] at this; exact this.1
    exact this (by rw [ha.2, hb.2])
  have h3 : l.length = (l.filter fun a => decide (a ≠ N)).length + (l.filter fun a => !decide (a ≠ N)).length := by
   clear h h1 h2 hd;induction l with
   | nil => rfl
   | cons a l ih =>
    by_cases e : a = N
    ·simp [e, List.filter_cons] at ih ⊢; omega
    ·simp [e, List.filter_cons] at ih ⊢; omega
  omega
theorem good_len {x : Lm} {all : List En} (hx : LimOk x) (h2 : x.1 <= x.2.1) (h : Good x all) : all.length <= 14399 := by
 have hN := NN_le hx h2;have := nodup_lt (NN x).toNat ((all.map mot).map fun m => (cellZ x m).toNat) (by
   have hnd : List.Pairwise (fun a b => a ≠ b) (all.map mot) := h.nd;show List.Pairwise (fun a b => a ≠ b) _;rw [List.pairwise_map];refine List.Pairwise.imp_of_mem ?_ hnd;intro a b ha hb hne e;obtain ⟨ea, ka, rfl⟩ := List.mem_map.1 ha;obtain ⟨eb, kb, rfl⟩ := List.mem_map.1 hb;have q1 := cellZ_lt (h.ok ea ka);have q2 := cellZ_lt (h.ok eb kb);exact hne (cellZ_inj (h.ok ea ka) (h.ok eb kb) (by omega)))
  (fun a ha => by
   obtain ⟨m, hm, rfl⟩ := List.mem_map.1 ha;obtain ⟨e, he, rfl⟩ := List.mem_map.1 hm;have := cellZ_lt (h.ok e he); omega)
 simp only [List.length_map] at this;omega
theorem memM (l : List Mo) (m : Mo) : memK (.pair I (.pair I (.pair I .unit))) l m = decide (m ∈ l) := by
 have := memK_iff (τ := .pair I (.pair I (.pair I .unit))) rfl (l := l) (k := m);by_cases h : m ∈ l
 ·rw [decide_eq_true h]; exact this.2 h
 ·rw [decide_eq_false h];cases hm : memK (.pair I (.pair I (.pair I .unit))) l m with
  | false => rfl
  | true => exact absurd (this.1 hm) h
theorem insM (l : List Mo) (m k : Mo) : m ∈ insK (.pair I (.pair I (.pair I .unit))) l k ↔ m ∈ l \/ m = k := by
 unfold insK;rw [memM];by_cases h : k ∈ l
 ·rw [decide_eq_true h];exact ⟨fun h => .inl h, fun h' => h'.elim id fun e => e ▸ h⟩
 ·rw [decide_eq_false h];show m ∈ l ++ [k] ↔ _;simp
theorem back_ok {all : List En} (hb : ∀ (k : Nat) e, all[k]? = some e -> e.2.2.2.1 < k /\ -1 <= e.2.2.2.1) (hl : all.length <= 14399) {i : Nat} (hi : i < all.length) :
  Ok (loopO (fun (s7 : ((List Int) × Int)) =>
       (idx all s7.2).bind fun x8 =>
       bif decide (x8.2.2.2.1 >= 0) then
        (idx all s7.2).bind fun x9 =>
        (app s7.1 ([x9.2.2.1])).bind fun x10 =>
        (idx all s7.2).bind fun x11 =>
        some (.inl (x10, x11.2.2.2.1))
       else
        some (.inr s7.1)) ([], (i : Int))) fun l => Pth all i l.reverse /\ l.length <= i := by
 refine loop_wf (fun st => st.2.toNat) (fun (st : List Int × Int) => ∃ k : Nat, st.2 = (k : Int) /\ st.1.length + k <= i /\ ∀ l', Pth all k l' -> Pth all i (l' ++ st.1.reverse)) _ ⟨i, rfl, by simp, by simp⟩ ?_;rintro ⟨l, k0⟩ ⟨k, e1, e2, e3⟩;simp only at e1 e2 e3;subst e1;obtain ⟨e, he⟩ : ∃ e, all[k]? = some e := ⟨_, List.getElem?_eq_getElem (by omega)⟩
 have hbe := hb k e he;rw [idx_of he];simp only [Option.bind_some];by_cases h : e.2.2.2.1 >= 0
 ·simp only [h, decide_true, cond_true];rw [app_one (by omega)];simp only [Option.bind_some];rw [rnd_inl];refine ⟨⟨e.2.2.2.1.toNat, by simp only; omega, by simp only [List.length_append, List.length_singleton]; omega, fun l' hl' => ?_⟩, by simp only; omega⟩;have := e3 _ (Pth.snoc he h hl');simp only [List.reverse_append, List.reverse_cons, List.reverse_nil, List.nil_append];rw [<- List.append_assoc]; exact this
 ·simp only [h, decide_false, cond_false];rw [rnd_inr];have := e3 _ (Pth.nil he (by omega));exact ⟨this, by omega⟩
theorem pushL_len (P : Int) : (pushL P).length = (2 * P + 1).toNat := mkL_len _ _
theorem pushL_next {P : Int} {j : Nat} (h : j < (2 * P + 1).toNat) : (pushL P).take (j + 1) = (pushL P).take j ++ [(j : Int) - P] := by
 rw [take_next 0 (by rw [pushL_len]; exact h)];unfold pushL;rw [mkL_getD _ _ h]
theorem grow_ok {x : Lm} (hx : LimOk x) (h2 : x.1 <= x.2.1) {all : List En} (hg : Good x all) {i : Nat} {e : En} (he : all[i]? = some e) {kn : List Mo} (hk : ∀ m, m ∈ kn ↔ m ∈ all.map mot) :
  Ok (loopO (fun (s15 : ((List (Int × Int × Int × Int × Unit)) × Int × (List (Int × Int × Int × Unit)))) =>
       bif decide (s15.2.1 <= x.2.2.2.1) then
        (idx s15.1 (i : Int)).bind fun x16 =>
        (safety_pushed x (x16.1, x16.2.1, x16.2.2.1, ()) s15.2.1).bind fun x17 =>
        (bif x17.2 then
          some (!(memK (.pair I (.pair I (.pair I .unit))) s15.2.2 x17.1))
         else
          some false).bind fun (p18 : Bool) =>
        (bif p18 then
          (app s15.1 ([(x17.1.1, x17.1.2.1, x17.1.2.2.1, (i : Int), ())])).bind fun x19 =>
          some (x19, insK (.pair I (.pair I (.pair I .unit))) s15.2.2 x17.1)
         else
          some (s15.1, s15.2.2)).bind fun (p20 : ((List (Int × Int × Int × Int × Unit)) × (List (Int × Int × Int × Unit)))) =>
        some (.inl (p20.1, w64 (s15.2.1 + 1), p20.2))
       else
        some (.inr (s15.1, s15.2.2))) (all, w64 (0 - x.2.2.2.1), kn)) fun r => r.1 = expand x (mot e) i all /\ ∀ m, m ∈ r.2 ↔ m ∈ r.1.map mot := by
 have hp := hx.pu;have hlt := len_lt he;rw [wq (by omega) (by omega)];refine loop_up (2 * x.2.2.2.1 + 1).toNat (fun j (st : List En × Int × List Mo) => st.2.1 = (j : Int) - x.2.2.2.1 /\ st.1 = ((pushL x.2.2.2.1).take j).foldl (addP x (mot e) i) all /\ ∀ m, m ∈ st.2.2 ↔ m ∈ st.1.map mot) _ ⟨by simp, rfl, hk⟩ ?_;rintro j ⟨a, p, kn'⟩ hj ⟨e1, e2, e3⟩;simp only at e1 e2 e3;obtain ⟨g1, g2, g3⟩ := addPs_good (m := mot e) (k := i) ((pushL x.2.2.2.1).take j) hg hlt;rw [<- e2] at g1 g2 g3;have hal := good_len hx h2 g1;have hm : MotOk x (mot e) := hg.ok e (List.mem_of_getElem? he);by_cases hlt2 : j < (2 * x.2.2.2.1 + 1).toNat
 ·have h0 : decide (p <= x.2.2.2.1) = true := by simp <;> omega
  simp only [h0, cond_true];rw [idx_of (by rw [g3 i hlt]; exact he)];simp only [Option.bind_some];obtain ⟨mm, q1, q2⟩ := pushed_eq hx hm p;have q1' : safety_pushed x (e.1, e.2.1, e.2.2.1, ()) p = some (mm, decide (pok x (mot e) p)) := q1;rw [q1'];simp only [Option.bind_some];have hnext : ((pushL x.2.2.2.1).take (j + 1)).foldl (addP x (mot e) i) all = addP x (mot e) i a p := by
   rw [pushL_next hlt2, List.foldl_append, <- e2, <- e1]; rfl
  by_cases hpk : pok x (mot e) p
  ·have := q2 hpk;subst this;rw [decide_eq_true hpk];simp only [cond_true, Option.bind_some, memM];by_cases hin : nxt (mot e) p ∈ kn'
   ·rw [decide_eq_true hin];simp only [Bool.not_true, cond_false, Option.bind_some];rw [rnd_inl];refine ⟨hlt2, ?_, ?_, e3⟩
    ·simp only; rw [wq (by omega) (by omega)]; omega
    ·simp only; rw [hnext]; unfold addP
     rw [if_neg (fun h => h.2 ((e3 _).1 hin))]
   ·rw [decide_eq_false hin];simp only [Bool.not_false, cond_true];rw [app_one (by omega)];simp only [Option.bind_some];rw [rnd_inl];have hq : addP x (mot e) i a p = a ++ [enOf (nxt (mot e) p) i] := by
     unfold addP;rw [if_pos ⟨hpk, fun h => hin ((e3 _).2 h)⟩]
    refine ⟨hlt2, ?_, ?_, fun m => ?_⟩
    ·simp only; rw [wq (by omega) (by omega)]; omega
    ·simp only; rw [hnext, hq]; rfl
    ·simp only
     rw [insM, e3];show _ ↔ m ∈ (a ++ [enOf (nxt (mot e) p) i]).map mot;rw [List.map_append, List.mem_append];simp only [List.map_cons, List.map_nil, mot_enOf, List.mem_singleton]
  ·rw [decide_eq_false hpk];simp only [cond_false, Option.bind_some];rw [rnd_inl];refine ⟨hlt2, ?_, ?_, e3⟩
   ·simp only; rw [wq (by omega) (by omega)]; omega
   ·simp only; rw [hnext]; unfold addP
    rw [if_neg (fun h => hpk h.1)]
 ·have hjn : j = (2 * x.2.2.2.1 + 1).toNat := by omega
  have h0 : decide (p <= x.2.2.2.1) = false := by simp <;> omega
  simp only [h0, cond_false];rw [rnd_inr];refine ⟨?_, e3⟩;simp only
  rw [e2, List.take_of_length_le (by rw [pushL_len]; omega)]; rfl
theorem stop_ok {x : Lm} (hx : LimOk x) (h2 : x.1 <= x.2.1) {s : Mo} (hs : MotOk x s) : Ok (safety_stop x s) (Res x s) := by
 unfold safety_stop;rw [ok_elim];refine (loop_wf (fun st => 14400 - st.2.1.toNat) (fun (st : List En × Int × List Mo) => ∃ i : Nat, st.2.1 = i /\ RR x s i = some st.1 /\ ∀ m, m ∈ st.2.2 ↔ m ∈ st.1.map mot)
  (fun r : Unit ⊕ (List Int × Bool) => match r with
   | .inl _ => Res x s ([], false)
   | .inr q => Res x s q) ⟨0, rfl, rfl, fun m => ?_⟩ ?_).mono ?_
 ·simp only
  rw [insM];show m ∈ [] \/ m = s ↔ m ∈ [s];simp
 ·rintro ⟨all, i0, kn⟩ ⟨i, e1, e2, e3⟩;simp only at e1 e2 e3;subst e1;obtain ⟨hg, hi⟩ := RR_good hs e2;have hlen := good_len hx h2 hg;by_cases hlt : i < all.length
  ·have h0 : decide ((i : Int) < (all.length : Int)) = true := by simp <;> omega
   obtain ⟨e, he⟩ : ∃ e, all[i]? = some e := ⟨_, List.getElem?_eq_getElem hlt⟩
   simp only [h0, cond_true];rw [idx_of he];simp only [Option.bind_some, atRest_eq];by_cases hr : isRest (mot e)
   ·have hr' : decide (isRest (e.1, e.2.1, e.2.2.1, ())) = true := decide_eq_true hr;simp only [hr', cond_true];rw [rnd_bind];refine (back_ok hg.bef hlen hlt).mono ?_;rintro l ⟨hl, hll⟩;unfold revO;rw [if_pos (by omega)];simp only [Option.bind_some];rw [rnd_inr];exact .inl ⟨i, all, e, _, e2, he, hr, hl, rfl⟩
   ·have hr' : decide (isRest (e.1, e.2.1, e.2.2.1, ())) = false := decide_eq_false hr;simp only [hr', cond_false];rw [rnd_bind];refine (grow_ok hx h2 hg he e3).mono ?_;rintro ⟨a, kn'⟩ ⟨ha, hkn⟩;simp only at ha hkn;rw [rnd_inl];refine ⟨⟨i + 1, ?_, ?_, hkn⟩, ?_⟩
    ·simp only; rw [wq (by omega) (by omega)]; omega
    ·simp only [RR, e2, Option.bind_some, he, hr, if_false]; rw [ha]
    ·simp only; rw [wq (by omega) (by omega)]; omega
  ·have h0 : decide ((i : Int) < (all.length : Int)) = false := by simp <;> omega
   simp only [h0, cond_false];rw [rnd_inr];exact .inr ⟨i, all, e2, List.getElem?_eq_none (by omega), rfl⟩
 ·intro r hr;cases r with
  | inl _ => simp only [ok_some]; exact hr
  | inr q => exact hr
theorem stop_same {x : Lm} {s : Mo} (h : motE x s = 0) : ∃ r, safety_stop x s = some r /\ True /\ Res x s r := by
 obtain ⟨h1, h2⟩ := motE_zero h;obtain ⟨h3, h4⟩ := limE_zero h1;obtain ⟨r, a1, a2⟩ := stop_ok h3 h4 h2;exact ⟨r, a1, trivial, a2⟩
def walkM (x : Lm) : Mo -> List Int -> Option Mo
 | m, [] => some m
 | m, p :: ps => if pok x m p then walkM x (nxt m p) ps else none
def endM (o : Option Mo) : Int × Int := match o with
 | some m => if isRest m then (m.1, 0) else (0, 21)
 | none => (0, 24)
theorem drop_at {l : List Int} {i : Nat} (h : i < l.length) : ∃ p, l[i]? = some p /\ l.drop i = p :: l.drop (i + 1) := ⟨l[i], List.getElem?_eq_getElem h, List.drop_eq_getElem_cons h⟩
theorem walk_ok {x : Lm} {F : Lm -> Mo -> Int -> Option (Mo × Bool)} (hF : ∀ m, MotOk x m -> ∀ p, ∃ m', F x m p = some (m', decide (pok x m p)) /\ (pok x m p -> m' = nxt m p)) {s : Mo} (hs : MotOk x s) {l : List Int} (hl : l.length <= 1000) :
  Ok (loopO (fun (s5 : (Int × Int × Int × Int)) =>
    bif decide (s5.1 < (l.length : Int)) then
     (idx l s5.1).bind fun x6 =>
     (F x (s5.2.1, s5.2.2.1, s5.2.2.2, ()) x6).bind fun x7 =>
     bif !x7.2 then
      some (.inr (.inr ((0 : Int), (24 : Int))))
     else
      some (.inl (w64 (s5.1 + 1), x7.1.1, x7.1.2.1, x7.1.2.2.1))
    else
     some (.inr (.inl (s5.2.1, s5.2.2.1, s5.2.2.2)))) (0, s.1, s.2.1, s.2.2.1)) fun r : (Int × Int × Int) ⊕ (Int × Int) => match r with
   | .inl p => walkM x s l = some (p.1, p.2.1, p.2.2, ())
   | .inr q => q = (0, 24) /\ walkM x s l = none := by
 refine loop_up l.length (fun i (st : Int × Int × Int × Int) => st.1 = (i : Int) /\ MotOk x (st.2.1, st.2.2.1, st.2.2.2, ()) /\ walkM x s l = walkM x (st.2.1, st.2.2.1, st.2.2.2, ()) (l.drop i)) _ ⟨rfl, hs, rfl⟩ ?_;rintro i ⟨i0, a, b, c⟩ hi ⟨e1, e2, e3⟩;simp only at e1 e2 e3;subst e1;by_cases hlt : i < l.length
 ·have h0 : decide ((i : Int) < (l.length : Int)) = true := by simp <;> omega
  obtain ⟨p, hp, hd⟩ := drop_at hlt;rw [hd] at e3;simp only [h0, cond_true];rw [idx_of hp];obtain ⟨m', q1, q2⟩ := hF _ e2 p;simp only [Option.bind_some];rw [q1];simp only [Option.bind_some];by_cases hk : pok x (a, b, c, ()) p
  ·have := q2 hk;subst this;rw [decide_eq_true hk];simp only [Bool.not_true, cond_false];rw [rnd_inl];refine ⟨hlt, ?_, hk.2.2, ?_⟩
   ·simp only; rw [wq (by omega) (by omega)]; omega
   ·rw [e3, walkM, if_pos hk]
  ·rw [decide_eq_false hk];simp only [Bool.not_false, cond_true];rw [rnd_inr];exact ⟨rfl, by rw [e3, walkM, if_neg hk]⟩
 ·have : i = l.length := by omega
  subst this;have h0 : decide ((l.length : Int) < (l.length : Int)) = false := by simp
  simp only [h0, cond_false];rw [rnd_inr];simp only
  rw [e3]; simp [walkM]
theorem CheckStop_eq {x : Lm} {s : Mo} (h : motE x s = 0) {l : List Int} (hl : l.length <= 1000) : safety_CheckStop x s l = some (if (l.length : Int) <= 100 then endM (walkM x s l) else (0, 8)) := by
 obtain ⟨h1, h2⟩ := motE_zero h;obtain ⟨h3, h4⟩ := limE_zero h1;unfold safety_CheckStop;simp only [openMotion_eq, unl, Option.bind_some];rw [fst_ _ (by simp)];by_cases h8 : (l.length : Int) <= 100
 ·simp only [h, h8, decide_true, if_true, fst0, Option.bind_some, Bool.not_true, cond_false];refine Ok.eq ?_;rw [ok_elim];refine (walk_ok (F := safety_pushed) (fun m hm p => pushed_eq h3 hm p) h2 hl).mono ?_;intro r hr;cases r with
  | inl p =>
   simp only at hr ⊢;rw [hr, atRest_eq];simp only [Option.bind_some, endM];by_cases g : isRest (p.1, p.2.1, p.2.2, ()) <;> simp [g, ok_some]
  | inr q =>
   simp only at hr ⊢;rw [hr.2, hr.1]; rfl
 ·simp [h, h8, fst0]
theorem CopyInts_eq (l : List Int) (h : l.length <= 1000) : base_CopyInts l = some l := by
 unfold base_CopyInts;rw [app_nil (by omega)]; rfl
noncomputable def stB (x : Lm) (m : Mo) : Bool := match safety_stop x m with
 | some r => r.2
 | none => false
noncomputable def waysL (x : Lm) (s : Mo) : List Int := (pushL x.2.2.2.1).filter fun p => decide (pok x s p) && stB x (nxt s p)
theorem take_filter {q : Int -> Bool} {P : Int} {j : Nat} (h : j < (2 * P + 1).toNat) : ((pushL P).take (j + 1)).filter q = ((pushL P).take j).filter q ++ if q ((j : Int) - P) then [(j : Int) - P] else [] := by
 rw [pushL_next h, List.filter_append];by_cases c : q ((j : Int) - P) <;> simp [c]
theorem nxt_motE {x : Lm} {s : Mo} {p : Int} (h : motE x s = 0) (hk : pok x s p) : motE x (nxt s p) = 0 := by
 unfold motE;rw [if_pos (motE_zero h).1, if_pos hk.2.2]
theorem stB_eq {x : Lm} {m : Mo} (h : motE x m = 0) : ∃ l, safety_stop x m = some (l, stB x m) /\ True := by
 obtain ⟨⟨l, f⟩, a1, a2, a3⟩ := stop_same h;have : stB x m = f := by unfold stB; rw [a1]
 rw [this]; exact ⟨l, a1, a2⟩
theorem ways_len {x : Lm} (hx : LimOk x) (s : Mo) (j : Nat) : (((pushL x.2.2.2.1).take j).filter fun p => decide (pok x s p) && stB x (nxt s p)).length <= 1000 := by
 have := hx.pu;have h1 := List.length_filter_le (fun p => decide (pok x s p) && stB x (nxt s p)) ((pushL x.2.2.2.1).take j);have h2 := List.length_take_le j (pushL x.2.2.2.1);rw [List.length_take, pushL_len] at h1;omega
theorem PushesFrom_eq {x : Lm} {s : Mo} (h : motE x s = 0) : safety_PushesFrom x s = some (waysL x s, 0) := by
 obtain ⟨h1, h2⟩ := motE_zero h;obtain ⟨h3, h4⟩ := limE_zero h1;have hp := h3.pu;unfold safety_PushesFrom;simp only [openMotion_eq, h, Option.bind_some, decide_true, Bool.not_true, cond_false];rw [wq (n := 0 - x.2.2.2.1) (by omega) (by omega)];refine Ok.eq ?_;rw [ok_bind];refine (loop_up (2 * x.2.2.2.1 + 1).toNat (fun j (st : List Int × Int) => st.2 = (j : Int) - x.2.2.2.1 /\ st.1 = ((pushL x.2.2.2.1).take j).filter fun p => decide (pok x s p) && stB x (nxt s p)) (fun r => r = waysL x s) ⟨by simp, by simp⟩ ?_).mono (fun r hr => by rw [hr, ok_some]);rintro j ⟨a, p⟩ hj ⟨e1, e2⟩;simp only at e1 e2;have hal : a.length <= 1000 := by rw [e2]; exact ways_len h3 s j
 by_cases hlt : j < (2 * x.2.2.2.1 + 1).toNat
 ·have h0 : decide (p <= x.2.2.2.1) = true := by simp <;> omega
  obtain ⟨mm, q1, q2⟩ := pushed_eq h3 h2 p;simp only [h0, cond_true, q1, Option.bind_some];have hn := take_filter (q := fun p => decide (pok x s p) && stB x (nxt s p)) hlt;rw [<- e1, <- e2] at hn;by_cases hk : pok x s p
  ·have := q2 hk;subst this;obtain ⟨l, s1, s2⟩ := stB_eq (nxt_motE h hk);rw [decide_eq_true hk];simp only [cond_true, s1, Option.bind_some];cases hb : stB x (nxt s p) with
   | true =>
    simp only [cond_true];rw [app_one (by omega)];simp only [Option.bind_some];rw [rnd_inl];refine ⟨hlt, ?_, ?_⟩
    ·simp only; rw [wq (by omega) (by omega)]; omega
    ·simp only; rw [hn]; simp [hk, hb]
   | false =>
    simp only [cond_false, Option.bind_some];rw [rnd_inl];refine ⟨hlt, ?_, ?_⟩
    ·simp only; rw [wq (by omega) (by omega)]; omega
    ·simp only; rw [hn]; simp [hk, hb]
  ·rw [decide_eq_false hk];simp only [cond_false, Option.bind_some];rw [rnd_inl];refine ⟨hlt, ?_, ?_⟩
   ·simp only; rw [wq (by omega) (by omega)]; omega
   ·simp only; rw [hn]; simp [hk]
 ·have h0 : decide (p <= x.2.2.2.1) = false := by simp <;> omega
  simp only [h0, cond_false];rw [rnd_inr, e2, List.take_of_length_le (by rw [pushL_len]; omega)]; rfl
theorem walk_snoc (x : Lm) : ∀ (l : List Int) (m : Mo) (p : Int), walkM x m (l ++ [p]) = (walkM x m l).bind fun m' => if pok x m' p then some (nxt m' p) else none
 | [], m, p => by simp [walkM]
 | q :: l, m, p => by
  simp only [List.cons_append, walkM];split
  ·exact walk_snoc x l _ p
  ·rfl
structure Bf (x : Lm) (s : Mo) (i : Nat) (all : List En) (d : Nat -> Nat) : Prop where
 le : i <= all.length
 root : all[0]? = some (enOf s (-1)) /\ d 0 = 0
 par : ∀ (k : Nat) e, all[k]? = some e -> 0 < k -> ∃ (j : Nat) (e' : En), e.2.2.2.1 = (j : Int) /\ j < k /\ d k = d j + 1 /\ all[j]? = some e' /\ pok x (mot e') e.2.2.1 /\ mot e = nxt (mot e') e.2.2.1
 mono : ∀ k k', k <= k' -> k' < all.length -> d k <= d k'
 done : ∀ (k : Nat) e, k < i -> all[k]? = some e -> ¬ isRest (mot e) /\ ∀ p, pok x (mot e) p -> ∃ (k2 : Nat) (e2 : En), all[k2]? = some e2 /\ mot e2 = nxt (mot e) p /\ d k2 <= d k + 1
 top : ∀ k, k < all.length -> i < all.length -> d k <= d i + 1
theorem adds {x : Lm} {m : Mo} {i : Nat} : ∀ (ps : List Int) {all : List En},
  (∀ (k : Nat) e, (ps.foldl (addP x m i) all)[k]? = some e -> (k < all.length /\ all[k]? = some e) \/ (all.length <= k /\ ∃ p, pok x m p /\ e = enOf (nxt m p) i)) /\
  (∀ p ∈ ps, pok x m p -> nxt m p ∈ (ps.foldl (addP x m i) all).map mot) /\ (∀ q, q ∈ all.map mot -> q ∈ (ps.foldl (addP x m i) all).map mot) /\
  (∀ k, k < all.length -> (ps.foldl (addP x m i) all)[k]? = all[k]?) /\ all.length <= (ps.foldl (addP x m i) all).length
 | [], all => ⟨fun k e h => .inl ⟨len_lt h, h⟩, by simp, fun q h => h, fun _ _ => rfl, Nat.le_refl _⟩
 | p :: ps, all => by
  obtain ⟨h1, h2, h3, h4, h5⟩ := adds (x := x) (m := m) (i := i) ps (all := addP x m i all p);have a1 : (∀ (k : Nat) e, (addP x m i all p)[k]? = some e -> (k < all.length /\ all[k]? = some e) \/ (all.length <= k /\ ∃ p, pok x m p /\ e = enOf (nxt m p) i)) /\ (∀ q, q ∈ all.map mot -> q ∈ (addP x m i all p).map mot) /\ (∀ k, k < all.length -> (addP x m i all p)[k]? = all[k]?) /\ all.length <= (addP x m i all p).length /\ (pok x m p -> nxt m p ∈ (addP x m i all p).map mot) := by
   unfold addP;by_cases hc : pok x m p /\ nxt m p ∉ all.map mot
   ·rw [if_pos hc];refine ⟨fun k e h => ?_, fun q h => by rw [List.map_append]; exact List.mem_append_left _ h, fun k hk => List.getElem?_append_left hk, by simp, fun _ => by
     rw [List.map_append]; exact List.mem_append_right _ (by simp [mot_enOf])⟩
    by_cases hk : k < all.length
    ·rw [List.getElem?_append_left hk] at h;exact .inl ⟨hk, h⟩
    ·rw [List.getElem?_append_right (by omega)] at h;have h0 : k - all.length = 0 := by
      have := (List.getElem?_eq_some_iff.1 h).1;simp at this; omega
     rw [h0] at h;simp at h;exact .inr ⟨by omega, p, hc.1, h.symm⟩
   ·rw [if_neg hc];exact ⟨fun k e h => .inl ⟨len_lt h, h⟩, fun q h => h, fun _ _ => rfl, Nat.le_refl _, fun hp => Decidable.byContradiction fun hn => hc ⟨hp, hn⟩⟩
  obtain ⟨b1, b2, b3, b4, b5⟩ := a1;simp only [List.foldl_cons];refine ⟨fun k e h => ?_, fun q hq hpk => ?_, fun q h => h3 q (b2 q h), fun k hk => by rw [h4 k (by omega), b3 k hk], by omega⟩
  ·rcases h1 k e h with ⟨c1, c2⟩ | ⟨c1, c2⟩
   ·exact b1 k e c2
   ·exact .inr ⟨by omega, c2⟩
  ·rcases List.mem_cons.1 hq with rfl | hq
   ·exact h3 _ (b5 hpk)
   ·exact h2 q hq hpk
theorem pushL_mem {P p : Int} (h : -P <= p /\ p <= P) : p ∈ pushL P := by
 have : p = ((p + P).toNat : Int) - P := by omega
 rw [this];exact mem_mkL (f := fun j : Nat => (j : Int) - P) (by omega)
theorem RR_Bf {x : Lm} {s : Mo} : ∀ {i : Nat} {all : List En}, RR x s i = some all -> ∃ d, Bf x s i all d
 | 0, all, h => by
  simp only [RR, Option.some.injEq] at h; subst h;refine ⟨fun _ => 0, ⟨by simp, ⟨rfl, rfl⟩, fun k e he hk => ?_, fun _ _ _ _ => Nat.le_refl _, fun k e hk => by omega, fun _ _ _ => by omega⟩⟩;have := (List.getElem?_eq_some_iff.1 he).1;simp at this; omega
 | i + 1, all, h => by
  simp only [RR] at h;obtain ⟨a0, h1, h2⟩ := Option.bind_eq_some_iff.1 h;obtain ⟨d, hb⟩ := RR_Bf h1;split at h2
  ·rename_i e he;split at h2
   ·cases h2
   ·rename_i hnr;simp only [Option.some.injEq] at h2;have hlt := len_lt he;obtain ⟨c1, c2, c3, c4, c5⟩ := adds (x := x) (m := mot e) (i := i) (pushL x.2.2.2.1) (all := a0);have hall : (pushL x.2.2.2.1).foldl (addP x (mot e) i) a0 = all := h2;rw [hall] at c1 c2 c3 c4 c5;have old : ∀ {k : Nat}, k < a0.length -> (if k < a0.length then d k else d i + 1) = d k := fun h => if_pos h;have new : ∀ {k : Nat}, ¬ k < a0.length -> (if k < a0.length then d k else d i + 1) = d i + 1 := fun h => if_neg h;refine ⟨fun k => if k < a0.length then d k else d i + 1, ⟨by omega, ⟨by rw [c4 0 (by omega)]; exact hb.root.1, by rw [old (by omega)]; exact hb.root.2⟩, fun k e' he' hk => ?_, fun k k' hkk hk' => ?_, fun k e' hk he' => ?_, fun k hk hi => ?_⟩⟩
    ·rcases c1 k e' he' with ⟨d1, d2⟩ | ⟨d1, p, d2, d3⟩
     ·obtain ⟨j, e'', q1, q2, q3, q4, q5, q6⟩ := hb.par k e' d2 hk;exact ⟨j, e'', q1, q2, by rw [old d1, old (by omega)]; exact q3, by rw [c4 j (by omega)]; exact q4, q5, q6⟩
     ·subst d3;refine ⟨i, e, rfl, by omega, ?_, by rw [c4 i hlt]; exact he, d2, rfl⟩;rw [new (by omega), old hlt]
    ·skip
     by_cases g2 : k' < a0.length
     ·rw [old g2, old (by omega)]; exact hb.mono k k' hkk g2
     ·rw [new g2];by_cases g1 : k < a0.length
      ·rw [old g1]; exact hb.top k g1 hlt
      ·rw [new g1]; exact Nat.le_refl _
    ·by_cases hki : k < i
     ·rw [c4 k (by omega)] at he';obtain ⟨q1, q2⟩ := hb.done k e' hki he';refine ⟨q1, fun p hp => ?_⟩;obtain ⟨k2, e2, r1, r2, r3⟩ := q2 p hp;refine ⟨k2, e2, by rw [c4 k2 (len_lt r1)]; exact r1, r2, ?_⟩;rw [old (len_lt r1), old (by omega)]; exact r3
     ·have : k = i := by omega
      subst this;rw [c4 k hlt, he] at he';cases he'
      refine ⟨hnr, fun p hp => ?_⟩;have hm := c2 p (pushL_mem hp.1) hp;obtain ⟨e2, m1, m2⟩ := List.mem_map.1 hm;obtain ⟨k2, hk2⟩ := List.mem_iff_getElem?.1 m1;refine ⟨k2, e2, hk2, m2, ?_⟩
      skip
      rw [old hlt];by_cases g : k2 < a0.length
      ·rw [old g]; exact hb.top k2 g hlt
      ·rw [new g]; exact Nat.le_refl _
    ·skip
     have ub : (if k < a0.length then d k else d i + 1) <= d i + 1 := by
      by_cases g : k < a0.length
      ·rw [old g]; exact hb.top k g hlt
      ·rw [new g]; exact Nat.le_refl _
     have lb : d i <= (if i + 1 < a0.length then d (i + 1) else d i + 1) := by
      by_cases g : i + 1 < a0.length
      ·rw [if_pos g]; exact hb.mono i (i + 1) (by omega) g
      ·rw [if_neg g]; omega
     omega
  ·cases h2
theorem Bf.path {x : Lm} {s : Mo} {i : Nat} {all : List En} {d : Nat -> Nat} (hb : Bf x s i all d) {k : Nat} {l : List Int} (h : Pth all k l) : ∀ {e : En}, all[k]? = some e -> walkM x s l = some (mot e) /\ l.length = d k := by
 induction h with
 | @nil k e h1 h2 =>
  intro e' he';have hk : k = 0 := by
   by_cases h : k = 0
   ·exact h
   ·obtain ⟨j, _, q, _⟩ := hb.par k e h1 (by omega);omega
  subst hk;rw [hb.root.1] at he'; cases he';exact ⟨rfl, hb.root.2.symm⟩
 | @snoc k e l h1 h2 h3 ih =>
  intro e' he';rw [h1] at he'; cases he';have hk : 0 < k := by
   by_cases h : k = 0
   ·subst h; rw [hb.root.1] at h1; cases h1;simp only [enOf] at h2; omega
   ·omega
  obtain ⟨j, e'', q1, q2, q3, q4, q5, q6⟩ := hb.par k e h1 hk;have hj : e.2.2.2.1.toNat = j := by omega
  rw [hj] at ih;obtain ⟨w1, w2⟩ := ih q4;refine ⟨?_, ?_⟩
  ·rw [walk_snoc, w1];simp only [Option.bind_some];rw [if_pos q5, q6]
  ·simp only [List.length_append, List.length_singleton] <;> omega
theorem Bf.reach {x : Lm} {s : Mo} {i : Nat} {all : List En} {d : Nat -> Nat} (hb : Bf x s i all d) : ∀ (ps : List Int) {k0 : Nat} {e0 : En} {m : Mo}, all[k0]? = some e0 -> walkM x (mot e0) ps = some m ->
  (∃ (k : Nat) (e : En), all[k]? = some e /\ mot e = m /\ d k <= d k0 + ps.length) \/ ∃ k, i <= k /\ k < all.length /\ d k <= d k0 + ps.length
 | [], k0, e0, m, h0, hw => by
  simp only [walkM, Option.some.injEq] at hw;exact .inl ⟨k0, e0, h0, hw, by simp⟩
 | p :: ps, k0, e0, m, h0, hw => by
  simp only [walkM] at hw;split at hw
  ·rename_i hp;by_cases hk : k0 < i
   ·obtain ⟨k2, e2, r1, r2, r3⟩ := (hb.done k0 e0 hk h0).2 p hp;rw [<- r2] at hw;rcases hb.reach ps r1 hw with ⟨k, e, q1, q2, q3⟩ | ⟨k, q1, q2, q3⟩
    ·exact .inl ⟨k, e, q1, q2, by simp only [List.length_cons]; omega⟩
    ·exact .inr ⟨k, q1, q2, by simp only [List.length_cons]; omega⟩
   ·exact .inr ⟨k0, by omega, len_lt h0, by omega⟩
  ·cases hw
theorem Res_short {x : Lm} {s : Mo} {r : List Int × Bool} (hr : Res x s r) :
  (r.2 = true /\ (∃ m, walkM x s r.1 = some m /\ isRest m) /\ ∀ ps m, walkM x s ps = some m -> isRest m -> r.1.length <= ps.length) \/ (r = ([], false) /\ ∀ ps m, walkM x s ps = some m -> ¬ isRest m) := by
 rcases hr with ⟨i, all, e, l, a1, a2, a3, a4, rfl⟩ | ⟨i, all, a1, a2, rfl⟩
 ·left
  obtain ⟨d, hb⟩ := RR_Bf a1;obtain ⟨w1, w2⟩ := hb.path a4 a2;refine ⟨rfl, ⟨_, w1, a3⟩, fun ps m hw hm => ?_⟩;have hroot : walkM x (mot (enOf s (-1))) ps = some m := by rw [mot_enOf]; exact hw
  have h0 := hb.root.2;rcases hb.reach ps hb.root.1 hroot with ⟨k, e', q1, q2, q3⟩ | ⟨k, q1, q2, q3⟩
  ·by_cases hk : k < i
   ·have := (hb.done k e' hk q1).1;rw [q2] at this; exact absurd hm this
   ·have := hb.mono i k (by omega) (len_lt q1);simp only <;> omega
  ·have := hb.mono i k q1 q2;simp only <;> omega
 ·right
  obtain ⟨d, hb⟩ := RR_Bf a1;refine ⟨rfl, fun ps m hw hm => ?_⟩;have hlen : all.length <= i := by
   by_cases h : i < all.length
   ·rw [List.getElem?_eq_getElem h] at a2; cases a2
   ·omega
  have hroot : walkM x (mot (enOf s (-1))) ps = some m := by rw [mot_enOf]; exact hw
  rcases hb.reach ps hb.root.1 hroot with ⟨k, e', q1, q2, q3⟩ | ⟨k, q1, q2, q3⟩
  ·have := (hb.done k e' (by have := len_lt q1; omega) q1).1;rw [q2] at this; exact absurd hm this
  ·omega
def Stops (x : Lm) (m : Mo) (ps : List Int) : Prop := ∃ m', walkM x m ps = some m' /\ isRest m'
theorem stop_best {x : Lm} {s : Mo} (h : motE x s = 0) : (∃ l, safety_stop x s = some (l, true) /\ True /\ stB x s = true /\ Stops x s l /\ (∀ ps, Stops x s ps -> l.length <= ps.length) /\ l.length <= 14399) \/
  (safety_stop x s = some ([], false) /\ True /\ stB x s = false /\ ∀ ps, ¬ Stops x s ps) := by
 obtain ⟨r, a1, a2, a3⟩ := stop_same h;obtain ⟨h1, h2⟩ := motE_zero h;obtain ⟨h3, h4⟩ := limE_zero h1;rcases Res_short a3 with ⟨c1, ⟨m, c2, c3⟩, c4⟩ | ⟨rfl, c2⟩
 ·left
  obtain ⟨l, f⟩ := r;simp only at c1 c2 c4; subst c1;have hlen : l.length <= 14399 := by
   rcases a3 with ⟨i, all, e, l', b1, b2, b3, b4, b5⟩ | ⟨i, all, b1, b2, b5⟩
   ·cases b5;obtain ⟨d, hb⟩ := RR_Bf b1;have hg := good_len h3 h4 (RR_good h2 b1).1;have key : ∀ {k : Nat} {l : List Int}, Pth all k l -> l.length <= k := by
     intro k l hp;induction hp with
     | nil _ _ => simp
     | snoc q1 q2 q3 ih =>
      have := (RR_good h2 b1).1.bef _ _ q1;simp only [List.length_append, List.length_singleton] <;> omega
    have := key b4;have := len_lt b2;omega
   ·cases b5
  exact ⟨l, a1, a2, by unfold stB; rw [a1], ⟨m, c2, c3⟩, fun ps ⟨m', w1, w2⟩ => c4 ps m' w1 w2, hlen⟩
 ·exact .inr ⟨a1, a2, by unfold stB; rw [a1], fun ps ⟨m', w1, w2⟩ => c2 ps m' w1 w2⟩
theorem Has_eq (l : List Int) (t : Int) (hl : l.length <= 1000000000) : base_Has l t = some (decide (t ∈ l)) := by
 unfold base_Has;have key := for_find l (fun s2 => (idx l s2).bind fun x3 =>
    bif decide (x3 = t) then
     some (.inr (.inr true))
    else
     some (.inl (w64 (s2 + 1)))) (fun _ a => if a = t then some true else none) (fun i a hi => by
  have := len_lt hi;rw [idx_of hi];simp only [Option.bind_some];by_cases h : a = t
  ·simp [h, stp]
  ·simp only [h, decide_false, cond_false, if_false, stp]; rw [wq (by omega) (by omega)])
 rw [key, elim_toSum];cases hf : findI (fun (_ : Nat) a => if a = t then some true else none) 0 l with
 | none =>
  rw [findI_none] at hf;have : t ∉ l := fun h => by
   obtain ⟨i, hi⟩ := List.mem_iff_getElem?.1 h;have := hf i t hi;simp at this
  simp [this]
 | some r =>
  obtain ⟨i, a, h1, h2, _⟩ := findI_some hf;split at h2
  ·rename_i h; subst h;simp only [Option.some.injEq] at h2; subst h2;simp [List.mem_of_getElem? h1]
  ·cases h2
theorem StopFrom_eq {x : Lm} {s : Mo} (h : motE x s = 0) : ∃ l, safety_StopFrom x s = some (l, if stB x s then 0 else 12) /\ l.length <= 14399 /\ ((stB x s = true /\ Stops x s l /\ ∀ ps, Stops x s ps -> l.length <= ps.length) \/ (stB x s = false /\ l = [] /\ ∀ ps, ¬ Stops x s ps)) := by
 unfold safety_StopFrom;simp only [openMotion_eq, h, Option.bind_some, decide_true, Bool.not_true, cond_false];rcases stop_best h with ⟨l, a1, _, a3, a4, a5, a6⟩ | ⟨a1, _, a3, a4⟩
 ·rw [a1];simp only [Option.bind_some, unl];exact ⟨l, by simp [a3], a6, .inl ⟨a3, a4, a5⟩⟩
 ·rw [a1];simp only [Option.bind_some, unl];exact ⟨[], by simp [a3], by simp, .inr ⟨a3, rfl, a4⟩⟩
theorem CanStop_eq {x : Lm} {s : Mo} (h : motE x s = 0) : safety_CanStop x s = some (stB x s, 0) := by
 unfold safety_CanStop;simp only [openMotion_eq, h, Option.bind_some, decide_true, Bool.not_true, cond_false];obtain ⟨l, s1, s2⟩ := stB_eq h;rw [s1]; rfl
theorem stB_iff {x : Lm} {s : Mo} (h : motE x s = 0) : stB x s = true ↔ ∃ ps, Stops x s ps := by
 rcases stop_best h with ⟨l, a1, _, a3, a4, a5, a6⟩ | ⟨a1, _, a3, a4⟩
 ·exact ⟨fun _ => ⟨l, a4⟩, fun _ => a3⟩
 ·rw [a3]; exact ⟨fun h => (by cases h), fun ⟨ps, h⟩ => absurd h (a4 ps)⟩
theorem stops_cons {x : Lm} {m : Mo} {p : Int} {ps : List Int} : Stops x m (p :: ps) ↔ pok x m p /\ Stops x (nxt m p) ps := by
 unfold Stops;simp only [walkM];by_cases h : pok x m p
 ·simp [h]
 ·simp [h]
theorem stops_nil {x : Lm} {m : Mo} : Stops x m [] ↔ isRest m := by
 unfold Stops; simp [walkM]
theorem ways_mem {x : Lm} {s : Mo} {p : Int} : p ∈ waysL x s ↔ pok x s p /\ stB x (nxt s p) = true := by
 unfold waysL;rw [List.mem_filter, Bool.and_eq_true, decide_eq_true_iff];exact ⟨fun h => h.2, fun h => ⟨pushL_mem h.1.1, h⟩⟩
theorem motE_nxt {x : Lm} {s : Mo} {p : Int} (h : limE x = 0) (hk : pok x s p) : motE x (nxt s p) = 0 := by
 unfold motE; rw [if_pos h, if_pos hk.2.2]
end Go.Proofs.Ytkcaaaiihhhnmaa
end
section
namespace Go.Proofs.Ytkcaaaiihhhnmaa
open Go Go.Ab Go.Tx
theorem walk_mot {x : Lm} : ∀ {ps : List Int} {m m' : Mo}, MotOk x m -> walkM x m ps = some m' -> MotOk x m'
 | [], m, m', hm, h => by simp only [walkM, Option.some.injEq] at h; exact h ▸ hm
 | p :: ps, m, m', hm, h => by
  simp only [walkM] at h;split at h
  ·rename_i hp; exact walk_mot hp.2.2 h
  ·cases h
theorem ways_some {x : Lm} {m : Mo} (hx : LimOk x) (hl : limE x = 0) (hm : MotOk x m) (h : stB x m = true) : ∃ p, p ∈ waysL x m := by
 have hme : motE x m = 0 := by unfold motE; rw [if_pos hl, if_pos hm]
 obtain ⟨ps, hps⟩ := (stB_iff hme).1 h;have := hx.sp; have := hx.pu; have := hx.je;cases ps with
 | nil =>
  have hr := stops_nil.1 hps;obtain ⟨r1, r2⟩ := hr;obtain ⟨m1, m2, m3⟩ := hm;have hpk : pok x m 0 := by
   refine ⟨by omega, by omega, ?_⟩;unfold MotOk nxt;simp only
   omega
  refine ⟨0, ways_mem.2 ⟨hpk, (stB_iff (motE_nxt hl hpk)).2 ⟨[], stops_nil.2 ⟨?_, rfl⟩⟩⟩⟩;show m.2.1 + 0 = 0;rw [r1]; rfl
 | cons p ps =>
  obtain ⟨hpk, h2⟩ := stops_cons.1 hps;exact ⟨p, ways_mem.2 ⟨hpk, (stB_iff (motE_nxt hl hpk)).2 ⟨ps, h2⟩⟩⟩
theorem ways_none {x : Lm} {m : Mo} (hl : limE x = 0) (hm : MotOk x m) (h : stB x m = false) : waysL x m = [] := by
 have hme : motE x m = 0 := by unfold motE; rw [if_pos hl, if_pos hm]
 rw [List.eq_nil_iff_forall_not_mem];intro p hp;obtain ⟨hpk, h2⟩ := ways_mem.1 hp;obtain ⟨ps, hps⟩ := (stB_iff (motE_nxt hl hpk)).1 h2;have := (stB_iff hme).2 ⟨p :: ps, stops_cons.2 ⟨hpk, hps⟩⟩;rw [h] at this; cases this
theorem TopSafetyRest_all (x : Int × Int × Int × Int × Int × Unit) (s : Int × Int × Int × Unit) (cs : List Int) : top_TopSafetyRest x s cs = some true := by
 unfold top_TopSafetyRest top_safetyShown;simp only [Option.bind_some, Bool.not_true, cond_false, LimitsErr_eq];by_cases hl : limE x = 0
 ·obtain ⟨hx, h4⟩ := limE_zero hl;have := hx.lo; have := hx.hi; have := hx.sp; have := hx.pu; have := hx.je;simp only [hl, decide_true, Bool.not_true, cond_false];rw [MotionErr_eq hx];by_cases hm : MotOk x s
  ·simp only [hm, if_true, Option.bind_some, decide_true, Bool.not_true, cond_false];rw [wq (n := x.2.1 - x.1) (by omega) (by omega)];by_cases h24 : x.2.1 - x.1 > 24
   ·simp [h24]
   ·by_cases h12 : (cs.length : Int) > 12
    ·simp [h24, h12]
    ·have hme : motE x s = 0 := by unfold motE; rw [if_pos hl, if_pos hm]
     simp only [h24, h12, decide_false, cond_false, Option.bind_some, CanStop_eq hme, decide_true, Bool.not_true];cases hst : stB x s with
     | false =>
      rw [PushesFrom_eq hme, ways_none hl hm hst];simp
     | true =>
      simp only [Bool.not_true, cond_false];refine Ok.eq (ok_elim.2 ?_);refine (loop_up cs.length (fun i (st : Int × Int × Int × Int) => st.1 = (i : Int) /\ MotOk x (st.2.1, st.2.2.1, st.2.2.2, ()) /\ stB x (st.2.1, st.2.2.1, st.2.2.2, ()) = true) (fun r : Unit ⊕ Bool => match r with
       | .inl _ => True
       | .inr _ => False) ⟨rfl, hm, hst⟩ ?_).mono ?_
      ·rintro i ⟨i0, a, b, c⟩ hi ⟨e1, e2, e3⟩;simp only at e1 e2 e3;subst e1;by_cases hlt : i < cs.length
       ·have h0 : decide ((i : Int) < (cs.length : Int)) = true := by simp <;> omega
        have hme' : motE x (a, b, c, ()) = 0 := by unfold motE; rw [if_pos hl, if_pos e2]
        obtain ⟨w, q1, q2, q3⟩ := StopFrom_eq hme';simp only [h0, cond_true];rw [q1];simp only [e3, if_true, Option.bind_some, decide_true, Bool.not_true, cond_false];rcases q3 with ⟨_, q4, q5⟩ | ⟨q4, _⟩
        ·obtain ⟨mE, w1, w2⟩ := q4;have hmE := walk_mot e2 w1;have c2 : (bif decide ((w.length : Int) <= 100) then
           (base_CopyInts w).bind fun x11 =>
           (safety_CheckStop x (a, b, c, ()) x11).bind fun x12 =>
           (bif !(decide (x12.2 = 0)) then
             some true
            else
             (base_Within x12.1 x.1 x.2.1).bind fun x13 =>
             some (!x13)).bind fun (p14 : Bool) =>
           bif p14 then
            some (.inr (.inr (.inr false)))
           else
            some (.inl ())
          else
           some (.inl ())) = (some (.inl ()) : Option (Unit ⊕ ((Int × Int × Int × Int) ⊕ (Unit ⊕ Bool)))) := by
          by_cases hw100 : (w.length : Int) <= 100
          ·rw [decide_eq_true hw100, CopyInts_eq w (by omega)];simp only [cond_true, Option.bind_some];rw [CheckStop_eq hme' (by omega), if_pos hw100, w1];simp only [Option.bind_some, endM, if_pos w2, Wit];rw [decide_eq_true hmE.1]; rfl
          ·rw [decide_eq_false hw100]; rfl
         rw [c2];simp only [Option.bind_some, Sum.elim_inl];rw [PushesFrom_eq hme'];simp only [Option.bind_some, decide_true, Bool.not_true, cond_false];have hwl := List.length_filter_le (fun p => decide (pok x (a, b, c, ()) p) && stB x (nxt (a, b, c, ()) p)) (pushL x.2.2.2.1);rw [pushL_len] at hwl;have hwl' : (waysL x (a, b, c, ())).length <= (2 * x.2.2.2.1 + 1).toNat := hwl;rw [wq (n := 2 * x.2.2.2.1) (by omega) (by omega), wq (n := 2 * x.2.2.2.1 + 1) (by omega) (by omega)];have n1 : ¬ ((waysL x (a, b, c, ())).length : Int) > 2 * x.2.2.2.1 + 1 := by omega
         obtain ⟨p0, hp0⟩ := ways_some hx hl e2 e3;have hpos := List.length_pos_of_mem hp0;have n2 : ¬ ((waysL x (a, b, c, ())).length : Int) = 0 := by omega
         simp only [n1, n2, decide_false, cond_false];have inner : loopO (fun (s19 : Int) =>
             bif decide (s19 <= x.2.2.2.1) then
              (ref09_Pushed x (a, b, c, ()) s19).bind fun x20 =>
              (bif x20.2 then
                (safety_CanStop x x20.1).bind fun x21 =>
                bif !(decide (x21.2 = 0)) then
                 some (.inr (.inr (.inr (.inr (.inr false)))))
                else
                 some (.inl x21.1)
               else
                some (.inl false)).bind (Sum.elim (fun (p22 : Bool) =>
              (base_Has (waysL x (a, b, c, ())) s19).bind fun x23 =>
              bif !(p22 == x23) then
               some (.inr (.inr (.inr (.inr false))))
              else
               some (.inl (w64 (s19 + 1)))) some)
             else
              some (.inr (.inl ()))) (w64 (0 - x.2.2.2.1)) = (some (.inl ()) : Option (Unit ⊕ ((Int × Int × Int × Int) ⊕ (Unit ⊕ Bool)))) := by
          rw [wq (n := 0 - x.2.2.2.1) (by omega) (by omega)];refine Ok.eq (loop_up (2 * x.2.2.2.1 + 1).toNat (fun j (s : Int) => s = (j : Int) - x.2.2.2.1) _ (by simp) ?_);rintro j s hj rfl;by_cases hlt2 : j < (2 * x.2.2.2.1 + 1).toNat
          ·have h0 : decide ((j : Int) - x.2.2.2.1 <= x.2.2.2.1) = true := by simp <;> omega
           simp only [h0, cond_true];rw [Pushed_eq hx e2];by_cases hpk : pok x (a, b, c, ()) ((j : Int) - x.2.2.2.1)
           ·rw [if_pos hpk];simp only [Option.bind_some, cond_true];rw [CanStop_eq (motE_nxt hl hpk)];simp only [Option.bind_some, decide_true, Bool.not_true, cond_false, Sum.elim_inl];rw [Has_eq _ _ (by omega)];simp only [Option.bind_some];have : decide ((j : Int) - x.2.2.2.1 ∈ waysL x (a, b, c, ())) = stB x (nxt (a, b, c, ()) ((j : Int) - x.2.2.2.1)) := by
             cases hb : stB x (nxt (a, b, c, ()) ((j : Int) - x.2.2.2.1)) with
             | true => rw [decide_eq_true (ways_mem.2 ⟨hpk, hb⟩)]
             | false =>
              rw [decide_eq_false];intro h;have := (ways_mem.1 h).2;rw [hb] at this; cases this
            rw [this];simp only [beq_self_eq_true, Bool.not_true, cond_false];rw [wq (by omega) (by omega), rnd_inl];exact ⟨hlt2, by omega⟩
           ·rw [if_neg hpk];simp only [Option.bind_some, cond_false, Sum.elim_inl];rw [Has_eq _ _ (by omega)];simp only [Option.bind_some];rw [decide_eq_false (fun h => hpk (ways_mem.1 h).1)];simp only [beq_self_eq_true, Bool.not_true, cond_false];rw [wq (by omega) (by omega), rnd_inl];exact ⟨hlt2, by omega⟩
          ·have h0 : decide ((j : Int) - x.2.2.2.1 <= x.2.2.2.1) = false := by simp <;> omega
           simp only [h0, cond_false];rw [rnd_inr]
         rw [inner];simp only [Option.bind_some, Sum.elim_inl];obtain ⟨q, hq⟩ : ∃ q, cs[i]? = some q := ⟨_, List.getElem?_eq_getElem hlt⟩
         rw [idx_of hq];obtain ⟨r, m1, m2, m3⟩ := Mod_eq (a := q) (b := ((waysL x (a, b, c, ())).length : Int)) (by omega);obtain ⟨j, rfl⟩ : ∃ j : Nat, r = j := ⟨r.toNat, by omega⟩
         simp only [Option.bind_some];rw [m1];obtain ⟨p, hp⟩ : ∃ p, (waysL x (a, b, c, ()))[j]? = some p := ⟨_, List.getElem?_eq_getElem (by omega)⟩
         simp only [Option.bind_some];rw [idx_of hp];obtain ⟨hpk, hb⟩ := ways_mem.1 (List.mem_of_getElem? hp);simp only [Option.bind_some];rw [Pushed_eq hx e2, if_pos hpk];simp only [Option.bind_some, Bool.not_true, cond_false];rw [MotionErr_eq hx, if_pos hpk.2.2];simp only [Option.bind_some, decide_true, Bool.not_true, cond_false];rw [wq (by omega) (by omega), rnd_inl];exact ⟨hlt, by simp, hpk.2.2, hb⟩
        ·rw [e3] at q4; cases q4
       ·have : i = cs.length := by omega
        subst this;have h0 : decide ((cs.length : Int) < (cs.length : Int)) = false := by simp
        simp only [h0, cond_false];rw [rnd_inr]; trivial
      ·intro r hr;cases r with
       | inl _ => rw [ok_some]
       | inr _ => exact hr.elim
  ·simp [hm]
 ·simp [hl]
theorem top_TopSafetyRest_true (x : denP ([(.pair I (.pair I (.pair I (.pair I (.pair I .unit))))), (.pair I (.pair I (.pair I .unit))), (.sl I)].map Pm.ty)) (hx : RngP maxLen [(.pair I (.pair I (.pair I (.pair I (.pair I .unit))))), (.pair I (.pair I (.pair I .unit))), (.sl I)] x) : e_top_TopSafetyRest.F x = some true :=
 TopSafetyRest_all x.1 x.2.1 x.2.2
end Go.Proofs.Ytkcaaaiihhhnmaa
end
section
namespace Go.Proofs.Ytkcaaaiihhhnmaa.topSafetyRest
open Go Go.Ab Go.Tx Go.ChangeShapes Go.WideShapes Go.ChangeAt Go.RowKit
theorem hlib : ∀ g h args r, Lb g = some h -> h args = some r -> CallOk Try.prog g args [] r [] := fun g h args r hg hr => by
 unfold Lb at hg;split at hg
 ·rename_i e;subst e;cases hg;cases args with
  | nil => cases hr; exact awake_ok
  | cons a l => cases hr
 ·cases hg
set_option maxRecDepth 100000 in
theorem contract (H : Type) (enc : TypeId × Value -> H) (W : World) (base : Nat) (args : Array Value) (ds gs : List (DataW H)) (before : List MemPlace)
  (hval : ∀ (j : Nat) t v, Try.f3.params[j]? = some t -> args[j]? = some v -> Value.okWide Try.prog W .any base t v)
  (hW : DataW.Whole enc Try.prog Try.f3.params.toList Rows.topSafetyRestSpec.vars false W args.toList ds gs before) :
  Calls Try.prog 3 args W fun e W' => ∃ v, e = .returned v /\ Rows.topSafetyRestSpec.post enc Try.prog Try.f3 false true false false W args v W' :=
 law_contract (τs := [(.pair I (.pair I (.pair I (.pair I (.pair I .unit))))), (.pair I (.pair I (.pair I .unit))), (.sl I)]) (ts := [25, 27, 28]) (tb := 4) (F := e_top_TopSafetyRest.F) follows hname hlib laid_out Try.func3 (by kernel_rfl) (by kernel_rfl) (by kernel_rfl) (by kernel_rfl) (by kernel_rfl) (by kernel_rfl) Try.underlying4 o_top_TopSafetyRest top_TopSafetyRest_true rfl
  (fun H ds h => by
   match ds, h with
   | [d1, d2, d3], _ => rfl) H enc W base args ds gs before hval hW
set_option maxRecDepth 100000 in
theorem lifted (os : Os) (started : os.Started) (H : Type) (enc : TypeId × Value -> H) :
  ReturnsInHanded {} Try.checked os 3 .any (Rows.topSafetyRestSpec.pre6 enc Try.prog Try.f3 Rows.topSafetyRestRow.domain false) (Rows.topSafetyRestSpec.post enc Try.prog Try.f3 false true false false) := by
 refine returnsInHanded_of_change (C := Try.checked) own started (by kernel_rfl) Try.func3
  (ChangeSpec.witness6 (enc := enc) (C := Try.checked) false ⟨#[], #[.agg #[.int .i64 0, .int .i64 0, .int .i64 0, .int .i64 0, .int .i64 0], .agg #[.int .i64 0, .int .i64 0, .int .i64 0], .slice none 0 0], []⟩ 8 (by kernel_rfl) (by kernel_rfl) (by kernel_rfl) (by kernel_rfl)) ?_
 intro W base args ds gs before hval hW _ _;exact contract H enc W base args ds gs before hval hW
theorem proved : Rows.TopSafetyRestSaid :=
 OpenClaim.holds_of_wide 3 Try.f3 rfl rfl rfl rfl rfl rfl rfl ⟨rfl, rfl, rfl, rfl, rfl⟩ rfl rfl rfl rfl rfl (by kernel_rfl) Try.func3 (by kernel_rfl)
  (of_decide_eq_true (by kernel_rfl)) (by unfold Func.isWrapper; first | (rw [if_pos (by decide +kernel)]; kernel_rfl) | (rw [if_neg (by decide +kernel)]; exact ⟨rfl, rfl⟩))
  (fun os started H enc _ => lifted os started H enc)
end Go.Proofs.Ytkcaaaiihhhnmaa.topSafetyRest
end
