/-
  ONE LAW OF A CHAPTER: its program side is run by an interpreter that is proved sound; what it computes is shown to be what the law says. No conditions. Part 6 of 6.
-/
import Derived.Test.YtkcaaaiihhhnmaaGreatMFTe
import Derived.Test.YtkcaaaiihhhnmaaGreatProg
import Derived.Shelf.Slices.Reverse
import Derived.Shelf.Sort.Plain
import Derived.Shelf.Slices.In.SortNone
import Derived.KernelRfl
import Derived.Test.YtkcaaaiihhhnmaaGreatRows
import Derived.WalkKit
set_option linter.unusedSimpArgs false
set_option linter.unusedVariables false
set_option linter.unnecessarySimpa false
section
namespace Go.Tx
open Go Go.Ab Go.RowKit Go.ChangeShapes Go.WideShapes Go.Deep
variable {H : Type} {enc : TypeId × Value -> H} {P : Program} {w : World} {base : Nat} {held : Bool}
theorem slices_elTy {d : Nat} {e : TypeId} {cs1 cs : List Ty} (hc : cellsTy P d e = some cs1) (h : (match cellsTy P d e, P.underlying e with
   | some cs, some (.struct _) => some [Ty.sl (cs.foldr .pair .unit)]
   | some cs, some (.array ..) => some [.sl (cs.foldr .pair .unit)]
   | some [τ], _ => some [.sl τ]
   | _, _ => none) = some cs) : ∃ τ, cs = [.sl τ] /\ elTy P e cs1 = some τ := by
 rw [hc] at h;unfold elTy;cases hu : P.underlying e with
 | none => rw [hu] at h; simp only at h ⊢; split at h <;> simp_all
 | some dd =>
  rw [hu] at h;cases dd <;> simp only at h ⊢ <;> first | (simp only [Option.some.injEq] at h; exact ⟨_, h.symm, rfl⟩) | (split at h <;> simp_all)
theorem rep_empty {X : Cx} : Rep w X (.sl .shared false []) (.slice none 0 0) [] := by simp [Rep, ptrsL]
theorem rep_weird {X : Cx} (a : Addr) : Rep w X (.sl .shared false []) (.slice (some a) 0 0) [] := by simp [Rep, ptrsL]
theorem open_cells (hl : laidOutB P = true) {N : Nat} {S : DataW H -> Prop} (hS : Sm N S) : ∀ (d : Nat) (t : TypeId) (cs : List Ty), cellsTy P d t = some cs -> okT P d t = true -> ∀ (fuel : Nat) (vals : List Value) (x : DataW H × List MemPlace), S x.1 ->
  DataW.trod enc P w base (fun _ => true) held fuel t vals = some x -> All2 (CellOk N w) cs vals
 | 0, t, cs, hc, _, fuel, vals, x, hx, h => by simp [cellsTy] at hc
 | d + 1, t, cs, hc, hok, fuel, vals, x, hx, h => by
  simp only [cellsTy] at hc;simp only [okT, Bool.and_eq_true, decide_eq_true_eq] at hok;split at hc
  ·rename_i k hu;cases hc;obtain ⟨n, rfl, rfl, hwf⟩ := DataW.trod_int hu h;refine .cons ⟨n, .val (.int k n), ?_, by simp [RTy], by simp [Rep]⟩ .nil;simp only [Rng];simp only [Lit.wf, Bool.and_eq_true, decide_eq_true_eq] at hwf;exact hwf
  ·rename_i hu;cases hc;obtain ⟨b, rfl, rfl⟩ := DataW.trod_bool hu h;exact .cons ⟨b, .val (.bool b), trivial, by simp [RTy], by simp [Rep]⟩ .nil
  ·rename_i hu;cases hc;obtain ⟨s, rfl, rfl, hs⟩ := DataW.trod_string hu h;have hsl : s.data.toList.length <= maxLen := by
    have e : s.data.toList.length = s.size := Array.length_toList;rw [e]; exact hs
   exact .cons ⟨s.data.toList, .val (.string s), hS.str _ hx hsl, by simp [RTy], by simp [Rep]⟩ .nil
  ·rename_i hu; rw [hu] at hok; simp at hok
  ·rename_i hu; rw [hu] at hok; simp at hok
  ·rename_i e hu;obtain ⟨ht, hoe⟩ := hok;rw [hu] at hoe;simp only [Bool.and_eq_true, decide_eq_true_eq, beq_iff_eq] at hoe;cases hce : cellsTy P d e with
   | none => rw [hce] at hc; simp at hc
   | some cs1 =>
    obtain ⟨τ, rfl, hτ⟩ := slices_elTy hce (by rw [hce]; rw [hce] at hc; exact hc);obtain ⟨hel, hnc⟩ := elTy_props hce hτ (cellsTy_ones d e cs1 hce);rcases open_slice hu h with ⟨rfl, rfl⟩ | ⟨a, len, cap, m, n, D, Pl, rfl, hb, hlc, hcm, hm, rfl, hx'⟩
    ·exact .cons ⟨[], .sl .shared false [], ⟨Nat.zero_le _, by simp⟩, by simp only [RTy]; exact ⟨_, _, [], rfl, flr_of rfl (by simp) (fun _ => rfl), .nil⟩, rep_empty⟩ .nil
    ·simp only [if_true] at hm;subst hm;obtain ⟨hN, hSe⟩ := hS.slice _ _ hx (by simp; omega);by_cases hcap : m = 0
     ·subst hcap;have hlen : len = 0 := by omega
      subst hlen;exact .cons ⟨[], .sl .shared false [], ⟨Nat.zero_le _, by simp⟩, by simp only [RTy]; exact ⟨_, _, [], rfl, flr_of rfl (by simp) (fun _ => rfl), .nil⟩, rep_weird a⟩ .nil
     ·have hspot : a.spot = none := by
       obtain ⟨cs', hcs', _⟩ := hx' 0 (by omega);obtain ⟨_, hl1, hc1⟩ := World.cells?_some hcs';have h0 := hc1 0 (by omega);simp only [Nat.zero_mul] at h0;have : ∃ v0, cs'[0]? = some v0 := ⟨cs'[0]'(by omega), List.getElem?_eq_getElem (by omega)⟩
       obtain ⟨v0, hv0⟩ := this;rw [hv0] at h0;have := (cell_block h0).1;simpa [Addr.add] using this
      obtain ⟨b, off, spot⟩ := a;simp only at hspot;subst hspot;have hsz : ∀ i, i < m -> ∃ vals : List Value, vals.length = P.cellsOf e /\ (∀ j, j < P.cellsOf e -> w.cell? ⟨b, off + i * P.cellsOf e + j, none⟩ = vals[j]?) /\
        (i < len -> ∃ (y : τ.den) (u : V) (v : Value), Rng N τ y /\ RTy τ 1000 y u /\ Rep w (cx0 w) u v [] /\ v.cells.toList = vals) := fun i hi => by
       obtain ⟨cs', hcs', htr⟩ := hx' i hi;obtain ⟨_, hl1, hc1⟩ := World.cells?_some hcs';refine ⟨cs', hl1, fun j hj => ?_, fun hil => ?_⟩
       ·rw [<- hc1 j hj, Addr.add_lit, Addr.add_lit]
       ·have hSi : S (D i) := hSe _ (List.mem_map.2 ⟨i, List.mem_range.2 hil, rfl⟩);exact elem_ok hce hτ (open_cells hl hS d e cs1 hce hoe.2 n cs' _ hSi htr)
      have hn : τ.ncells = P.cellsOf e := by
       have := hoe.1.2;rw [hce] at this;simp only [Option.map_some, Option.some.injEq] at this;rw [hnc, this]
      obtain ⟨l, us, h1, h2, h3, h4⟩ := slice_rep (Nat.pos_of_ne_zero hoe.1.1) hlc hcap hel hn hsz;exact .cons ⟨l, .sl .shared false us, ⟨by rw [h1]; simpa using hN, h2⟩, by simp only [RTy]; exact ⟨_, _, us, rfl, flr_of rfl (by simp) (fun _ => rfl), h3⟩, h4⟩ .nil
  ·rename_i fields hu;obtain ⟨ht, hoe⟩ := hok;rw [hu] at hoe;simp only [List.all_eq_true] at hoe;obtain ⟨css, hcss, rfl⟩ := Option.map_eq_some_iff.1 hc;obtain ⟨hl1, hget⟩ := mapM_get hcss;obtain ⟨xs, n, _, rfl, hvl, hxl, hxs⟩ := DataW.trod_struct hu h;obtain ⟨_, hsum, hoff⟩ := kid_struct hl ht hu;refine glue css (fields.toList.map fun f => P.cellsOf f.type) vals (by simp [hl1]) (by rw [hvl, hsum]) fun j c s hcj hsj => ?_;rw [List.getElem?_map] at hsj;obtain ⟨fd, hfd, rfl⟩ := Option.map_eq_some_iff.1 hsj;obtain ⟨c', hc', hg⟩ := hget j fd hfd;rw [hcj] at hc'; cases hc';have hx1 := hxs j fd (by simpa using hfd);rw [hoff j fd hfd, List.map_take] at hx1;have hj : j < xs.length := by rw [hxl]; have := (List.getElem?_eq_some_iff.1 hfd).1; simpa using this
   rw [List.getElem?_eq_getElem hj] at hx1;exact open_cells hl hS d fd.type c hg (hoe fd (List.mem_of_getElem? hfd)) n _ _ (hS.agg _ hx _ (List.mem_map.2 ⟨xs[j], List.getElem_mem hj, rfl⟩)) hx1
  ·rename_i n' e hu;obtain ⟨ht, hoe⟩ := hok;rw [hu] at hoe;simp only at hoe;obtain ⟨cs1, hce, rfl⟩ := Option.map_eq_some_iff.1 hc;obtain ⟨_, hsum⟩ := kid_array hl ht hu;cases fuel with
   | zero => simp [DataW.trod] at h
   | succ fuel =>
    unfold DataW.trod at h;rw [hu] at h;simp only at h;split at h
    ·rename_i hvl;obtain ⟨xs, hxs, rfl⟩ := Option.map_eq_some_iff.1 h;obtain ⟨hxl, hget⟩ := mapM_get hxs;refine glue _ (List.replicate n' (P.cellsOf e)) vals (by simp) (by rw [hvl, hsum]; simp) fun j c s hcj hsj => ?_;have hjn : j < n' := by have := (List.getElem?_eq_some_iff.1 hcj).1; simpa using this
     rw [List.getElem?_replicate, if_pos hjn] at hcj hsj;cases hcj; cases hsj
     obtain ⟨b, hb, hg⟩ := hget j j (by simp [hjn]);have htk : ((List.replicate n' (P.cellsOf e)).take j).sum = j * P.cellsOf e := by
      rw [List.take_replicate]; simp [Nat.min_eq_left (Nat.le_of_lt hjn)]
     rw [htk];exact open_cells hl hS d e cs1 hce hoe fuel _ _ (hS.agg _ hx _ (List.mem_map.2 ⟨b, List.mem_of_getElem? hb, rfl⟩)) hg
    ·cases h
  ·cases hc
theorem open_arg (hl : laidOutB P = true) {N : Nat} {S : DataW H -> Prop} (hS : Sm N S) {t : TypeId} {τ : Ty} (hτ : tyOf P t = some τ) (hok : okT P 10 t = true) {v : Value} {d : DataW H} {ps : List MemPlace} {b0 : Nat} (hval : Value.okWide P w .any b0 t v)
  (h : DataW.Trod enc P w base (fun _ => true) held t v d ps) (hd : S d) : CellOk N w τ v := by
 obtain ⟨fuel, hf⟩ := h;unfold tyOf at hτ;split at hτ
 ·rename_i cs hc;have hall := open_cells hl hS 10 t cs hc hok fuel _ _ hd hf;split at hτ
  ·rename_i ha;cases hτ;obtain ⟨y, us, hy, hu, hr⟩ := pack_ok cs _ hall;have hv : ∃ c, v = .agg c := by
    unfold isAggT at ha;unfold Value.okWide at hval;split at ha
    ·rename_i fs hfs; rw [hfs] at hval; obtain ⟨c, hc, _⟩ := hval; exact ⟨c, hc⟩
    ·rename_i n e hfs; rw [hfs] at hval; obtain ⟨c, hc, _⟩ := hval; exact ⟨c, hc⟩
    ·cases ha
   obtain ⟨c, rfl⟩ := hv;refine ⟨y, .agg us, hy, hu, ?_⟩;simp only [Rep];exact ⟨c.toList, by simp, by simpa [Value.cells] using hr⟩
  ·rename_i ha
   match cs, hτ, hall with
   | τ' :: cs', hτ, hall =>
    simp only [List.head?_cons, Option.some.injEq] at hτ;subst hτ;have hone := cellsTy_ones 10 t _ hc τ' (by simp);have hv : v.cells.toList = [v] := by
     cases v with
     | agg c =>
      exfalso
      unfold isAggT at ha;unfold Value.okWide at hval;split at hval
      ·rename_i fs hfs; rw [hfs] at ha; simp at ha
      ·rename_i n e hfs; rw [hfs] at ha; simp at ha
      ·unfold Cell.okWide Cell.ok at hval;split at hval;all_goals first | (rename_i h1 h2; cases h2; done) | skip
       all_goals (split at hval <;> first | (exact hval.elim) | (rename_i h1 h2; cases h2))
     | _ => rfl
    rw [hv] at hall;cases hall with
    | cons h1 h2 => exact h1
 ·cases hτ
theorem open_args (hl : laidOutB P = true) {N : Nat} {S : DataW H -> Prop} (hS : Sm N S) {b0 : Nat} : ∀ (ts : List TypeId) (τs : List Ty) (vs : List Value) (ds : List (DataW H)) (ps : List MemPlace), ts.mapM (tyOf P) = some τs -> ts.all (okT P 10) = true ->
  (∀ (j : Nat) t v, ts[j]? = some t -> vs[j]? = some v -> Value.okWide P w .any b0 t v) -> DataW.TrodAll enc P w base (fun _ => true) held ts vs ds ps -> (∀ d ∈ ds, S d) ->
  ∃ x us, RngP N τs x /\ RVL (ofPms (τs.map .ty) x) us /\ RepL w (cx0 w) us vs []
 | [], τs, vs, ds, ps, hm, _, _, h, _ => by
  simp at hm; subst hm;obtain ⟨rfl, _, _⟩ := trodAll_nil h;exact ⟨(), [], trivial, rvl_nil, by simp [RepL]⟩
 | t :: ts, τs, vs, ds, ps, hm, hok, hval, h, hd => by
  simp only [List.mapM_cons, Option.bind_eq_bind, Option.bind_eq_some_iff] at hm;obtain ⟨τ, hτ, τs', hm', he⟩ := hm;cases he;simp only [List.all_cons, Bool.and_eq_true] at hok;obtain ⟨v, vs', d, ds', p, q, rfl, rfl, rfl, h1, h2⟩ := trodAll_cons h;obtain ⟨y, u, hy, hu, hr⟩ := open_arg hl hS hτ hok.1 (hval 0 t v rfl rfl) h1 (hd d (by simp));obtain ⟨x, us, hx, hus, hrs⟩ := open_args hl hS ts τs' vs' ds' q hm' hok.2 (fun j t' v' a b => hval (j + 1) t' v' (by simpa using a) (by simpa using b)) h2 fun d' hd' => hd d' (by simp [hd']);have hR : RepL w (cx0 w) (u :: us) (v :: vs') [] := by simp only [RepL]; exact ⟨v, vs', [], [], rfl, rfl, hr, hrs⟩
  cases τs' with
  | nil => exact ⟨y, u :: us, hy, (rvl_cons.2 ⟨rv_ofTy _ _ _ _ hu, hus⟩ : RVL (ofTy τ 1000 y :: []) (u :: us)), hR⟩
  | cons τ2 τs2 => exact ⟨(y, x), u :: us, ⟨hy, hx⟩, (rvl_cons.2 ⟨rv_ofTy _ _ _ _ hu, hus⟩ : RVL (ofTy τ 1000 y :: ofPms ((τ2 :: τs2).map .ty) x) (u :: us)), hR⟩
theorem trodAll_below (hl : laidOutB P = true) {W W' : World} (hb : Below W.heap.size W W') : ∀ {ts : List TypeId} {vs : List Value} {ds : List (DataW H)} {ps : List MemPlace}, ts.all (fun t => P.readableRec t && decide (t < P.types.size)) = true ->
  DataW.TrodAll enc P W 0 (fun _ => true) true ts vs ds ps -> (∀ x ∈ ps, x.block < W.heap.size) -> ∀ sp : Nat -> Bool, (∀ p ∈ ps, sp p.block = true) -> DataW.TrodAll enc P W' 0 sp true ts vs ds ps
 | [], [], [], ps, _, h, _, sp, _ => h
 | t :: ts, v :: vs, d :: ds, ps, hr, ⟨p, q, h1, h2, e⟩, hlt, sp, hsp => by
  simp only [List.all_cons, Bool.and_eq_true, decide_eq_true_eq] at hr;subst e;refine ⟨p, q, ?_, trodAll_below hl hb hr.2 h2 (fun x hx => hlt x (List.mem_append_right _ hx)) sp (fun x hx => hsp x (List.mem_append_right _ hx)), rfl⟩;exact WideElems.Trod_stays hl hr.1.1 hr.1.2 h1 (fun x hx => hb.same (hlt x (List.mem_append_left _ hx))) (fun x hx => hsp x (List.mem_append_left _ hx))
theorem lrel0 {w : World} : LRel [] w (cx0 w) (fun _ => []) where
 box := fun r c h => by simp [boxL] at h
 boxD := fun _ _ => rfl
 inj := fun r r' b h => by simp [boxL] at h
 lin := fun _ => Lin.nil
 dis := fun _ _ _ b hb => by cases hb
 ptrB := fun r c h => by simp [boxL] at h
 up := fun r c h => by simp [boxL] at h
 dom := fun b e fz h => (frozen0 h).2.1
theorem law_calls {H0 : Hints} {lib : FuncId -> Option (List V -> Option V)} (hm : P.follows .mixedOrders = true) (hname : NameOk P H0)
  (hlib : ∀ g h args r, lib g = some h -> h args = some r -> CallOk P g args [] r []) (hl : laidOutB P = true) {N : Nat} {S : DataW H -> Prop} (hS : Sm N S) {k : FuncId} {fn : Func} (hfn : P.funcs[k]? = some fn) (hbody : fn.body.isSome = true)
  {ts : List TypeId} {τs : List Ty} (hts : ts.mapM (tyOf P) = some τs) (hok : ts.all (okT P 10) = true) {F : denP (τs.map .ty) -> Option Bool}
  (he : EntryOk P H0 lib ⟨k, τs.map .ty, [(.bool, 0)], F⟩) (hF : ∀ x, RngP N τs x -> F x = some true)
  {W : World} {args : Array Value} {ds : List (DataW H)} {ps : List MemPlace} {b0 : Nat} (hval : ∀ (j : Nat) t v, ts[j]? = some t -> args.toList[j]? = some v -> Value.okWide P W .any b0 t v)
  (h : DataW.TrodAll enc P W 0 (fun _ => true) true ts args.toList ds ps) (hd : ∀ d ∈ ds, S d) :
  Calls P k args W fun e W' => e = .returned (.bool true) /\ Below W.heap.size W W' := by
 obtain ⟨x, us, hx, hus, hrs⟩ := open_args hl hS ts τs args.toList ds ps hts hok hval h hd;obtain ⟨v, hcall, hr⟩ := entry_call hm hname hlib he (x := x) (y := true) (hF x hx) hus;simp only [packT, ofL, packedT, ofTy, RV, RTy] at hr;subst hr;have hp : ptrsL us = [] := by
  apply List.eq_nil_iff_forall_not_mem.2;intro q hq;have hk : ∀ (τs : List Ty) (x : denP (τs.map .ty)), ptrsTL (ofPms (τs.map .ty) x) = [] := by
   have h1 : ∀ (τ : Ty) (y : τ.den), (ofTy τ 1000 y).ptrs = [] /\ ptrsTL (ofTyC τ 1000 y) = [] := by
    intro τ;induction τ with
    | pair a b iha ihb => intro y; simp [ofTy, ofTyC, TV.ptrs, ptrsTL, (iha y.1).1, (ihb y.2).2]
    | _ => intro y; simp [ofTy, ofTyC, TV.ptrs, ptrsTL]
   intro τs;induction τs with
   | nil => intro x; rfl
   | cons τ τs ih =>
    intro x;cases τs with
    | nil => show ptrsTL [ofTy τ 1000 x] = []; simp [ptrsTL, (h1 τ x).1]
    | cons τ2 τs2 => show ptrsTL (ofTy τ 1000 x.1 :: ofPms ((τ2 :: τs2).map .ty) x.2) = []; simp only [ptrsTL, (h1 τ x.1).1, List.nil_append]; exact ih x.2
  have := RVL.ptrs _ _ hus q hq;rw [hk] at this; cases this
 rcases hcall W (cx0 W) args.toList (fun _ => []) hrs lrel0 (fun q hq => by rw [hp] at hq; cases hq) (fun _ b e fz h => (frozen0 h).1) with ⟨_, hc⟩ | ⟨_, v, w', hv, _⟩
 ·refine (by simpa using hc : Calls P k args W _).mono ?_;rintro e W' ⟨v, rfl, X', O', Or, hrep, _, _, _, _, _, _, haft⟩;simp only [Rep] at hrep;obtain ⟨rfl, _⟩ := hrep;refine ⟨rfl, ⟨haft.os, haft.tape, haft.out, haft.size, fun b hb => ?_⟩⟩;exact (haft.kept b hb (by rintro (⟨r, h1, _⟩ | ⟨r, h1⟩) <;> simp [boxL] at h1)).1
 ·exfalso
  have hbs : fn.body.isNone = false := by cases hb : fn.body <;> simp_all
  simp only [callFunc, Sem.run_bind, run_program, Result.andThen_ok, hfn, hname.1 k fn hfn hbody, hbs, Bool.false_eq_true, if_false, Sem.run_pure] at hv;cases hv
end Go.Tx
end
section
namespace Go.Proofs.YtkcaaaiihhhnmaaGreat.Hn
open Go
def takeT : List (List Nat) := [[], [], [], [31, 44, 45, 48, 75, 82, 85, 89, 93, 94, 97, 129, 161, 176, 188, 191], [26, 32, 39, 41, 49, 54, 58, 59, 116, 117, 120, 123, 126], [48, 56, 69, 76, 78, 81, 101, 108, 110, 113, 140, 154, 161, 164, 168, 171, 175, 178, 183, 230, 233, 237, 240, 241], [25, 29, 33, 34, 37, 41, 44], [27, 31, 33, 39, 49, 50, 57, 61, 66, 71, 75, 80, 83, 87, 89, 92, 116, 122, 129, 130, 133, 134], [23, 33, 38, 40, 48, 53, 54, 57, 58, 66, 70, 75, 80, 85, 88, 91, 95, 109, 112, 115, 122, 124, 127, 130, 133, 134], [20, 32, 33, 36, 39, 57, 64, 67], [52, 56, 58, 64, 72, 75, 82, 85, 88, 117, 127, 132, 136, 138, 141, 156, 164, 167, 196, 200, 202, 206, 208, 211, 218, 240, 250, 268, 274, 277], [22, 36, 37, 40, 43, 50, 51, 54, 55], [12, 15, 23, 26, 28, 32, 34, 42, 53, 56, 61, 65, 70, 74, 79, 83, 87], [16, 30, 31, 38, 47], [], [], [], [], [], [13], [], [], [18], [11, 31], [12, 32, 33, 38, 40], [], [12, 26, 34, 39, 41, 45, 50], [26, 43, 51, 72, 89, 97], [], [], [53, 55, 59], [29], [5, 10], [30, 38], [10], [16, 26, 34, 38, 40, 41, 45], [20, 27, 28, 32, 34, 35, 39], [8, 29], [14, 15, 19, 21, 22], [14, 15, 19, 21], [24, 31, 34, 38, 46], [], [], [35, 37, 57, 77, 87, 98, 113], [20, 30, 37], [], [32, 38, 40, 49, 50, 52, 61, 62], [18, 51], [8, 15], [20, 26, 30], [11, 30, 44], [46, 57, 74, 89, 98, 99, 108, 109, 128, 129], [10], [22, 26], [65], [21, 22, 31], [], [], [34, 38], [], [], [], [15, 24, 25, 33, 34], [26, 41, 58, 66, 76, 79, 83], [12, 21, 23, 30, 38], [], [13, 22, 24, 32, 43, 51], [], [], [22, 23], [], [13], [6], [], [22, 23], [], [], [], [21, 81, 83], [], [118, 122, 125], [], [22, 23], [31, 36], [], [], [10, 16], [46, 49, 50, 54, 55], [37], [], [], [15, 31], [43], [32, 44, 55, 65, 76, 85], [], [], [], [], [18, 22, 23], [], [22, 23], [], [18], [22, 23], [], [], [9, 16], [], [], [], [14, 21], [5, 10], [], [], [6], [22, 23], [25], [], [18, 22, 23], [21], [6, 12], [28, 30, 33, 48], [], [], [], [], [47, 55], [], [17], [], [], [], [], [17], [], [], [], [19], [17, 21, 24], [22, 23], [16], [], [], [], [8, 14], [11, 19, 33, 40, 57], [], [], [7], [], [], [], [42, 66, 91, 93, 94, 98, 102, 109, 114, 115, 122, 124, 125, 133], [], [17], [17], [17], [20], [], [], [17], [], [27], [], [33, 45, 47, 50, 53, 56], [], [], [83], [80, 167], [], [], [13, 17], [75], [], [32], [], [11, 19, 27, 35], [24, 25, 26, 27], [], [], [], [], [], [], [], [], [], [], [], [], [], [], [], [], []]
def clearT : List (List (Nat × List Nat)) := [[],
 [],
 [],
 [(0, [71, 72, 73, 74, 75, 76, 77, 78, 79, 80, 81]), (2, [10, 15, 99, 100, 101, 102, 103, 104, 105, 106, 107, 108, 109, 110, 111, 112, 113, 114, 115, 116, 117, 118, 119, 120, 121, 122, 123, 124, 125, 126, 127, 128, 129, 130, 131, 132, 133, 134, 135, 136, 137, 138, 139, 140, 141, 142, 143, 144, 145, 146, 147, 148]), (4, [10, 105, 106, 107, 108, 109, 110, 111, 112, 113, 114, 115, 116, 117, 118, 119, 120, 121, 122, 123, 124, 125, 126, 127, 128, 129, 130, 131, 132, 133, 134, 135, 136, 137, 138, 139, 140, 141, 142, 143, 144, 145, 146, 147, 148])],
 [],
 [(0, [9, 12, 13, 14, 15, 23, 96, 97, 98, 99, 100, 101, 102, 103, 104, 105, 106, 107, 108, 109, 110, 111, 112, 113, 114, 115, 116, 117, 118, 119, 120, 121, 122, 123, 124, 125, 126, 127]), (2, [9, 12, 23, 136, 137, 138, 139, 140, 141, 142, 143, 144, 145, 146, 147, 148, 149, 150, 151, 152, 153, 154, 155, 156, 157, 158, 159, 160])],
 [],
 [],
 [],
 [(0, [74, 75, 76, 77, 78, 79, 80, 81, 82, 83, 84, 85, 86, 87, 88, 89, 90, 91, 92, 93, 94, 95, 96, 97, 98, 99, 100, 101, 102, 103, 104, 105, 106, 107, 108, 109, 110])],
 [(0, [15, 16, 17, 18, 22, 111, 112, 113, 114, 115, 116, 117, 118, 119, 120, 121, 122, 123, 124, 125, 126, 127, 128, 129, 130, 131, 132, 133, 134, 135, 136, 137, 138, 139, 140, 141, 142, 143, 144, 145, 146, 147, 148, 149]), (2, [17, 22, 27, 28, 29, 30, 234, 235, 236, 237, 238, 239, 240, 241, 242, 243, 244, 245, 246, 247, 248, 249, 250, 251, 252, 253, 254, 255, 256, 257, 258, 259, 260, 261, 262, 263, 264, 265, 266, 267, 268, 269, 270, 271, 272, 273, 274, 275, 276, 277, 278, 279])],
 [],
 [],
 [(0, [10, 11, 12, 42, 43, 44, 45, 46, 47, 48, 49, 50, 51, 52, 53, 54, 55])],
 [],
 [],
 [(0, [6, 11, 12, 13, 14, 15, 16, 17, 18, 19, 20, 21, 22, 23, 24, 25, 26, 27, 28, 29, 30, 31, 32, 33, 34, 35, 36, 37, 38, 39, 40, 41, 42, 43, 44, 45, 46, 47, 48, 49, 50, 51, 52, 53, 54, 55, 56, 57, 58, 59, 60, 61, 62]), (2, [66, 67, 68, 69, 70, 71, 72, 73, 74, 75, 76, 77, 78, 79, 80, 81, 82, 83, 84, 85, 86, 87])],
 [(0, [6, 7, 8, 9, 10, 11, 12, 13, 14, 15, 16, 17, 18, 19, 20, 21, 22, 23, 24, 25, 26, 27, 28, 29, 30, 31, 32, 33]), (2, [13, 14, 15, 16, 17, 18, 19, 20, 21, 22, 23, 24, 25, 26, 27, 28, 29, 30, 31, 32, 33])],
 [],
 [],
 [(0, [4, 8, 9, 10, 11, 12, 13, 14, 15, 16, 17, 18, 19, 20, 21, 22, 23, 24, 25, 26, 27, 28, 29, 30, 31, 32, 33, 34, 35, 36, 37, 38, 39, 40, 41, 42, 43, 44, 45, 46, 47, 48, 49]), (2, [30, 31, 32, 33, 34, 35, 36, 37, 38, 39, 40, 41, 42, 43, 44, 45, 46, 47, 48, 49])],
 [(0, [7, 8, 9, 10, 11, 12, 13, 14, 15, 16, 17, 18, 19, 20, 21, 22, 23, 24, 25, 26, 27, 28])],
 [],
 [(0, [5, 6, 7, 8, 9, 10, 11, 12, 13, 14, 15, 16, 17, 18, 19, 20, 21, 22, 23, 24, 25, 26, 27, 28, 29, 30])],
 [],
 [],
 [(0, [8, 9, 10, 11, 30, 31, 32, 33, 34, 35, 36, 37, 38, 39, 40, 41, 42, 43, 44, 45, 46, 47, 48, 49, 50, 51])],
 [(0, [5, 6, 13, 14, 15, 16, 17, 18, 19, 20, 21, 22, 23, 24, 25, 26, 27, 28, 29, 30, 31, 32, 33, 34, 35, 36, 37, 38, 39, 40, 41, 42, 43, 44, 45, 46, 47, 48, 49, 50, 51, 52, 53, 54, 55, 56, 57, 58, 59, 60, 61, 62, 63, 64, 65, 66, 67, 68, 69, 70, 71, 72, 73, 74, 75, 76, 77, 78, 79, 80, 81, 82, 83, 84, 85, 86, 87, 88, 89, 90, 91, 92, 93, 94, 95, 96, 97]), (2, [27, 28, 29, 30, 31, 32, 33, 34, 35, 36, 37, 38, 39, 40, 41, 42, 43]), (4, [52, 53, 54, 55, 56, 57, 58, 59, 60, 61, 62, 63, 64, 65, 66, 67, 68, 69, 70, 71, 72, 73, 74, 75, 76, 77, 78, 79, 80, 81, 82, 83, 84, 85, 86, 87, 88, 89])],
 [(0, [6, 10, 11, 12, 13, 14, 15, 16, 17, 18, 19, 20, 21, 22, 23, 24, 25, 26, 27, 28, 29, 30, 31, 32, 33, 34, 35, 36, 37, 38, 39, 40, 41, 42, 43, 44, 45, 46, 47, 48, 49, 50, 51, 52, 53, 54]), (2, [41, 42, 43, 44, 45, 46, 47, 48, 49, 50, 51, 52, 53, 54])],
 [(0, [11, 12, 13, 14, 15, 16, 17, 18, 19, 20, 21, 22, 23, 24, 25])],
 [(0, [9, 10, 11, 12, 13, 14, 15, 16, 17, 18, 19, 20, 21, 22, 23, 24, 25, 26, 27, 28, 29, 30, 31, 32, 33, 34, 35, 36, 37, 38, 39, 40, 41, 42, 43, 44, 45, 46, 47, 48, 49, 50, 51, 52, 53, 54, 55, 56, 57, 58]), (2, [21, 22, 23, 24, 25, 26, 27, 28, 29, 30, 31, 32, 33, 34, 35, 36, 37, 38, 39, 40, 41, 42, 43, 44, 45, 46, 47, 48, 49, 50, 51, 52])],
 [(0, [6, 7, 8, 9, 10, 11, 12, 13, 14, 15, 16, 17, 18, 19, 20, 21, 22, 23, 24, 25, 26, 27, 28, 29])],
 [],
 [(0, [7, 8, 9, 10, 11, 12, 13, 14, 15, 16, 17, 18, 19, 20, 21, 22, 23, 24, 25, 26, 27, 28, 29, 30, 31, 32, 33, 34, 35, 36, 37])],
 [],
 [(0, [9, 10, 20, 21, 22, 23, 24, 25, 26, 27, 28, 29, 30, 31, 32, 33, 34, 35, 36, 37, 38, 39, 40, 41, 42, 43, 44])],
 [(0, [7, 8, 9, 10, 14, 15, 16, 17, 18, 19, 20, 21, 22, 23, 24, 25, 26, 27, 28, 29, 30, 31, 32, 33, 34, 35, 36, 37, 38])],
 [],
 [],
 [],
 [(0, [10, 11, 12, 28, 29, 30, 31, 32, 33, 34, 35, 36, 37, 38, 39, 40, 41])],
 [],
 [],
 [(0, [11, 12, 13, 14, 15, 45, 46, 47, 48, 49, 50, 51, 52, 53, 54, 55, 56, 57, 58, 59, 60, 61, 62, 63, 64, 65, 66, 67, 68, 69, 70, 71, 72, 73, 74, 75, 76, 77, 78, 79, 80, 81, 82, 83, 84, 85, 86, 87, 88, 89, 90, 91, 92, 93, 94, 95, 96, 97, 98, 99, 100, 101, 102, 103, 104, 105, 106, 107, 108, 109, 110, 111, 112, 113, 114, 115, 116, 117, 118, 119]), (2, [58, 59, 60, 61, 62, 63, 64, 65, 66, 67, 68, 69, 70, 71, 72, 73, 74, 75, 76]), (4, [11, 14, 15, 81, 82, 83, 84, 85, 86, 87, 88, 89, 90, 91, 92, 93, 94, 95, 96, 97, 98, 99, 100, 101, 102, 103, 104, 105, 106, 107, 108, 109, 110, 111, 112, 113, 114, 115, 116, 117, 118, 119])],
 [(0, [9, 10, 14, 15, 16, 17, 18, 19, 20, 21, 22, 23, 24, 25, 26, 27, 28, 29, 30, 31, 32])],
 [(0, [22, 23, 24, 25, 26, 27, 28, 29, 30, 31, 32, 33, 34, 35]), (2, [36, 37, 38, 39, 40, 41, 42, 43, 44, 45, 46, 47, 48, 49, 50, 51, 52, 53, 54, 55, 56, 57, 58, 59, 60, 61, 62, 63, 64, 65, 66, 67, 68, 69, 70]), (4, [71, 72, 73, 74, 75, 76, 77, 78, 79, 80, 81, 82, 83, 84])],
 [],
 [(0, [10, 11, 12, 13, 14, 15, 16, 17, 18, 19, 20, 21, 22, 23, 24, 25, 26, 27, 28, 29, 30, 31, 32, 33, 34, 35, 36, 37, 38, 39, 40, 41, 42]), (2, [43, 44, 45, 46, 47, 48, 49, 50, 51, 52, 53, 54, 55, 56, 57, 58, 59, 60])],
 [],
 [],
 [],
 [(0, [32, 33, 34, 35, 36, 37, 38, 39, 40, 41, 42, 43, 44, 45, 46, 47, 48, 49, 50, 51, 52, 53, 54, 55, 56, 57]), (2, [6, 7, 8, 9, 58, 59, 60, 61, 62, 63, 64, 65, 66, 67, 68, 69, 70, 71, 72, 73, 74, 75, 76, 77, 78, 79, 80, 81, 82, 83, 84, 85, 86, 87, 88, 89, 90, 91, 92, 93, 94, 95, 96, 97, 98, 99, 100, 101, 102, 103, 104, 105, 106, 107, 108, 109]), (4, [75, 76, 77, 78, 79, 80, 81, 82, 83, 84, 85, 86, 87, 88, 89]), (6, [11, 110, 111, 112, 113, 114, 115, 116, 117, 118, 119, 120, 121, 122, 123, 124, 125, 126, 127, 128, 129])],
 [],
 [(0, [7, 8, 9, 10, 11, 12, 13, 14, 15, 16, 17, 18, 19, 20, 21, 22, 23, 24, 25])],
 [(0, [21, 22, 23, 24, 25, 26, 27, 28, 29, 30, 31, 32, 33, 34, 35, 36, 37]), (2, [38, 39, 40, 41, 42, 43, 44, 45, 46, 47, 48, 49, 50, 51, 52, 53, 54, 55, 56, 57, 58, 59, 60, 61, 62, 63, 64])],
 [],
 [],
 [(0, [19, 20, 21, 22, 23, 24, 25, 26, 27, 28, 29, 30, 31, 32, 33, 34, 35, 36, 37, 38, 39, 40, 41, 42, 43, 44, 45, 46, 47, 48, 49, 50, 51])],
 [(0, [8, 9, 10, 11, 12, 13, 14, 15, 16, 17, 18, 19, 20, 21, 22, 23, 24, 25, 26, 27, 28, 29, 30, 31, 32, 33])],
 [],
 [],
 [(0, [6, 7, 8, 9, 10, 11, 12, 13, 14, 15, 16, 17])],
 [],
 [(0, [13, 14, 15, 16, 17, 18, 19, 20, 21, 22, 23, 24, 25, 26, 27, 28, 29, 30, 31, 32, 33, 34, 35, 36, 37, 38, 39, 40, 41]), (2, [10, 11, 12, 46, 47, 48, 49, 50, 51, 52, 53, 54, 55, 56, 57, 58, 59, 60, 61, 62, 63, 64, 65, 66, 67, 68, 69, 70, 71, 72, 73, 74, 75, 76, 77, 78, 79, 80, 81, 82, 83]), (4, [11, 12, 59, 60, 61, 62, 63, 64, 65, 66, 67, 68, 69, 70, 71, 72, 73, 74, 75, 76, 77, 78, 79, 80, 81, 82, 83])],
 [(0, [11, 27, 28, 29, 30, 31, 32, 33, 34, 35])],
 [],
 [(0, [35, 36, 37, 38, 39, 40, 41, 42, 43, 44, 45, 46, 47, 48])],
 [],
 [],
 [(0, [6, 7, 8, 12, 13, 14, 15, 16, 17, 18, 19, 20, 21, 22, 23, 24])],
 [],
 [(0, [4, 8, 9, 10, 11, 12, 13, 14])],
 [],
 [],
 [(0, [6, 7, 8, 12, 13, 14, 15, 16, 17, 18, 19, 20, 21, 22, 23, 24])],
 [],
 [],
 [],
 [(0, [11, 12, 61, 62, 63, 64, 65, 66, 67, 68, 69, 70, 71, 72, 73, 74, 75, 76, 77, 78, 79, 80])],
 [],
 [(0, [11, 83, 84, 85, 86, 87, 88, 89, 90, 91, 92, 93, 94, 95, 96, 97, 98, 99, 100, 101, 102, 103, 104, 105, 106, 107, 108, 109, 110, 111, 112, 113, 114, 115, 116, 117, 118, 119, 120, 121])],
 [],
 [(0, [6, 7, 8, 12, 13, 14, 15, 16, 17, 18, 19, 20, 21, 22, 23, 24])],
 [(0, [9, 26, 27, 28, 29, 30, 31, 32, 33, 34, 35])],
 [],
 [],
 [],
 [(0, [11, 12, 20, 21, 22, 23, 24, 25, 26, 27, 28, 29, 30, 31, 32, 33]), (2, [13, 14, 41, 42, 43, 44, 45, 46, 47, 48, 49, 50, 51, 52, 53])],
 [(0, [4, 5, 14, 15, 16, 17, 18, 19, 20, 21, 22, 23, 24, 25, 26, 27, 28, 29, 30, 31, 32, 33, 34, 35, 36, 37, 38, 39, 40, 41, 42, 43, 44, 45, 46, 47, 48, 49, 50, 51, 52, 53, 54])],
 [(0, [6, 7, 8, 9, 10, 11, 12, 13, 14, 15, 16, 17])],
 [],
 [],
 [],
 [(0, [9, 10, 11, 12, 13, 20, 21, 22, 23, 24, 25, 26, 27, 28, 29, 30, 31, 32, 33, 34, 35, 36, 37, 38, 39, 40, 41, 42, 43, 44, 45, 46, 47, 48, 49, 50, 51, 52, 53, 54, 55, 56, 57, 58, 59, 60, 61, 62, 63, 64, 65, 66, 67, 68, 69, 70, 71, 72, 73, 74, 75, 76, 77, 78, 79, 80, 81, 82, 83, 84, 85, 86, 87, 88, 89, 90]), (2, [33, 34, 35, 36, 37, 38, 39, 40, 41, 42, 43, 44, 45, 46, 47, 48, 49, 50, 51, 52]), (4, [9, 12, 13, 59, 60, 61, 62, 63, 64, 65, 66, 67, 68, 69, 70, 71, 72, 73, 74, 75, 76, 77, 78, 79, 80, 81, 82, 83, 84, 85, 86, 87, 88, 89, 90])],
 [],
 [],
 [],
 [],
 [(0, [6, 7, 8, 12, 13, 14, 15, 16, 17, 18, 19, 20, 21, 22, 23, 24])],
 [],
 [(0, [6, 7, 8, 12, 13, 14, 15, 16, 17, 18, 19, 20, 21, 22, 23, 24])],
 [],
 [],
 [(0, [6, 7, 8, 12, 13, 14, 15, 16, 17, 18, 19, 20, 21, 22, 23, 24])],
 [],
 [],
 [],
 [],
 [],
 [],
 [(0, [22, 23, 24, 25, 26, 27, 28, 29, 30, 31, 32, 33, 34, 35, 36])],
 [],
 [],
 [(0, [7, 8, 9, 10, 11, 12, 13, 14, 15, 16, 17, 18, 19, 20, 21, 22]), (2, [23, 24, 25, 26, 27, 28, 29, 30, 31, 32, 33, 34, 35, 36, 37, 38])],
 [],
 [(0, [6, 7, 8, 12, 13, 14, 15, 16, 17, 18, 19, 20, 21, 22, 23, 24])],
 [],
 [],
 [(0, [6, 7, 8, 12, 13, 14, 15, 16, 17, 18, 19, 20, 21, 22, 23, 24])],
 [],
 [],
 [(0, [9, 13, 14, 15, 16, 17, 18, 19, 20, 21, 22, 23, 24, 25, 26, 27, 28, 29, 30])],
 [],
 [],
 [],
 [(0, [6, 7, 8, 9, 10, 11, 12, 13, 14, 15, 16, 17, 18, 19])],
 [(0, [10, 11, 18, 19, 20, 21, 22, 23, 24, 25, 26, 27, 28, 29, 30, 31, 32, 33, 34, 35, 36, 37, 38, 39, 40, 41, 42, 43, 44, 45, 46, 47, 48, 49, 50, 51, 52, 53, 54])],
 [],
 [(0, [5, 9, 10, 11, 12, 13, 14, 15, 16, 17, 18])],
 [],
 [(0, [7, 8, 9, 10, 11, 12, 13, 14, 15, 16, 17, 18, 19, 20, 21, 22, 23, 24, 25, 26, 27])],
 [],
 [],
 [(0, [5, 9, 10, 11, 12, 13, 14, 15, 16, 17, 18])],
 [],
 [],
 [],
 [],
 [(0, [3, 4, 5, 9, 10, 11, 12, 13, 14, 15, 16, 17, 18, 19, 20, 21, 22, 23, 24, 25, 26, 27, 28, 29, 30, 31, 32, 33, 34, 35, 36])],
 [(0, [6, 7, 8, 12, 13, 14, 15, 16, 17, 18, 19, 20, 21, 22, 23, 24])],
 [],
 [],
 [],
 [],
 [],
 [(0, [8, 29, 30, 31, 32, 33, 34, 35, 36, 37, 38, 39, 40, 41, 42, 43, 44, 45, 46, 47, 48]), (2, [10, 53, 54, 55, 56, 57, 58, 59, 60, 61, 62, 63])],
 [(0, [5, 6, 11, 12, 13, 14, 15, 16, 17, 18, 19, 20, 21, 22, 23, 24, 25, 26, 27, 28, 29, 30, 31, 32, 33, 34, 35, 36, 37, 38])],
 [(0, [6, 7, 8, 9, 10, 11, 12, 13, 14, 15, 16, 17, 18, 19, 20, 21, 22, 23, 24, 25, 26, 27, 28, 29, 30, 31, 32, 33])],
 [],
 [],
 [],
 [],
 [(0, [10, 11, 12, 13, 14, 15, 16, 17, 18, 19, 20, 21, 22, 23, 24, 25, 26, 27, 28, 29, 30, 31, 32, 33, 34, 35, 36, 37, 38, 39, 40, 41, 42, 43, 44, 45, 46, 47, 48, 49, 50, 51, 52, 53, 54, 55, 56, 57, 58, 59, 60, 61, 62, 63, 64, 65, 66, 67, 68, 69, 70, 71, 72, 73, 74, 75, 76, 77, 78, 79, 80, 81, 82, 83, 84, 85, 86, 87, 88, 89, 90, 91, 92, 93, 94, 95, 96, 97, 98, 99, 100, 101, 102, 103, 104, 105, 106, 107, 108, 109, 110, 111, 112, 113, 114, 115, 116, 117, 118, 119, 120, 121, 122, 123, 124, 125, 126, 127, 128, 129, 130, 131, 132, 133])],
 [],
 [(0, [5, 9, 10, 11, 12, 13, 14, 15, 16, 17, 18])],
 [(0, [5, 9, 10, 11, 12, 13, 14, 15, 16, 17, 18])],
 [(0, [5, 9, 10, 11, 12, 13, 14, 15, 16, 17, 18])],
 [],
 [],
 [],
 [(0, [5, 9, 10, 11, 12, 13, 14, 15, 16, 17, 18])],
 [(0, [7, 10, 11, 12, 13, 14, 15, 16, 17, 18, 19, 20, 21, 22, 23, 24, 25, 26, 27, 28, 29, 30, 31, 32, 33, 34, 35, 36, 37, 38, 39, 40, 41, 42, 43, 44, 45, 46, 47, 48]), (2, [16, 17, 18, 19, 20, 21, 22, 23, 24, 25, 26, 27, 28, 29, 30, 31, 32, 33, 34, 35, 36, 37, 38, 39, 40, 41, 42, 43, 44, 45, 46, 47, 48])],
 [(0, [18, 19, 20, 21, 22, 23, 24, 25, 26]), (2, [29, 30, 31, 32, 33, 34, 35, 36, 37, 38, 39, 40, 41, 42, 43, 44, 45, 46, 47, 48, 49, 50, 51, 52, 53, 54, 55])],
 [(0, [10, 26, 27, 28, 29, 30, 31, 32, 33, 34, 35, 36, 37, 38, 39, 40, 41, 42, 43, 44, 45, 46, 47, 48, 49, 50, 51, 52, 53, 54, 55, 56, 57, 58, 59, 60, 61, 62, 63, 64])],
 [],
 [(0, [11, 12, 13, 14, 15, 16, 17, 18, 19, 20, 21, 22, 23, 24, 25, 26, 27, 28, 29, 30, 31])],
 [(0, [9, 10, 13, 14, 15, 16, 17, 18, 19, 20, 21, 22, 23, 24, 25, 26, 27, 28, 29, 30, 31, 32, 33, 34, 35, 36, 37, 38, 39, 40, 41, 42, 43, 44, 45, 46, 47, 48, 49, 50, 51, 52, 53, 54, 55, 56, 57, 58, 59, 60, 61, 62, 63, 64, 65, 66, 67, 68, 69, 70, 71, 72, 73, 74, 75, 76, 77, 78, 79, 80, 81, 82, 83, 84, 85, 86, 87, 88, 89, 90, 91, 92, 93, 94, 95, 96, 97, 98, 99, 100, 101, 102, 103, 104, 105, 106, 107, 108, 109, 110, 111, 112, 113, 114, 115, 116, 117, 118, 119, 120, 121, 122, 123, 124, 125, 126, 127, 128, 129, 130, 131, 132]), (2, [17, 18, 19, 20, 21, 22, 23, 24, 25, 26, 27, 28, 29, 30, 31, 32, 33, 34]), (4, [64, 65, 66, 67, 68, 69, 70, 71, 72, 73, 74, 75, 76, 77, 78, 79, 80, 81, 82, 83, 84, 85, 86, 87, 88, 89, 90, 91, 92, 93, 94]), (6, [101, 102, 103, 104, 105, 106, 107, 108, 109, 110, 111, 112, 113, 114, 115, 116, 117, 118, 119, 120, 121, 122, 123, 124, 125, 126, 127, 128, 129, 130, 131, 132])],
 [(0, [29, 30, 31, 32, 33, 34, 35, 36, 37, 38, 39, 40, 41, 42, 43, 44, 45, 46, 47, 48, 49, 50, 51, 52, 53, 54, 55, 56, 57, 58, 59, 60, 61, 62, 63, 64, 65, 66, 67, 68, 69, 70, 71, 72, 73, 74, 75, 76, 77, 78, 79, 80, 81, 82]), (2, [29, 30, 31, 32, 33, 34, 35, 36, 37, 38, 39, 40, 41, 42, 43, 44, 45]), (4, [46, 47, 48, 49, 50, 51, 52, 53, 54, 55, 56, 57, 58, 59, 60, 61])],
 [(0, [30, 31, 32, 33, 34, 35, 36, 37, 38, 39, 40, 41, 42, 43, 44, 45]), (2, [46, 47, 48, 49, 50, 51, 52, 53, 54, 55, 56, 57, 58, 59, 60, 61, 62]), (4, [99, 100, 101, 102, 103, 104, 105, 106, 107, 108, 109, 110, 111, 112, 113, 114, 115, 116, 117, 118, 119, 120, 121, 122, 123, 124, 125, 126, 127, 128, 129, 130, 131, 132, 133, 134, 135, 136, 137, 138, 139, 140, 141, 142, 143, 144, 145, 146, 147, 148, 149, 150, 151, 152]), (6, [99, 100, 101, 102, 103, 104, 105, 106, 107, 108, 109, 110, 111, 112, 113, 114]), (8, [115, 116, 117, 118, 119, 120, 121, 122, 123, 124, 125, 126, 127, 128, 129, 130, 131])],
 [],
 [],
 [(0, [5, 9, 10, 11, 12, 13, 14, 15, 16])],
 [(0, [9, 11, 12, 13, 14, 15, 16, 17, 18, 19, 20, 21, 22, 23, 24, 25, 26, 27, 28, 29, 30, 31, 32, 33, 34, 35, 36, 37, 38, 39, 40, 41, 42, 43, 44, 45, 46, 47, 48, 49, 50, 51, 52, 53, 54, 55, 56, 57, 58, 59, 60, 61, 62, 63, 64, 65, 66, 67, 68, 69, 70, 71, 72, 73, 74, 75])],
 [],
 [],
 [],
 [],
 [],
 [],
 [],
 [],
 [],
 [],
 [],
 [],
 [],
 [],
 [],
 [],
 [],
 [],
 [],
 [],
 [],
 []]
def linkT : List (List Nat) := [[], [], [], [], [], [], [], [], [], [], [], [], [19, 21, 22], [], [], [], [], [], [], [], [], [], [], [], [], [], [], [], [], [], [], [], [], [], [], [], [], [], [], [], [], [], [], [40, 44, 108, 112], [], [], [], [], [], [], [], [], [], [], [], [], [], [], [], [], [], [], [], [], [], [], [], [], [], [], [], [], [], [], [], [], [], [], [], [], [], [], [], [], [], [], [], [], [], [], [], [], [], [], [], [], [], [], [], [], [], [], [], [], [], [], [], [], [], [], [], [], [], [], [], [], [], [], [], [], [], [], [], [], [], [], [], [], [], [], [14, 16, 26, 27], [], [], [], [], [], [], [], [], [], [], [], [], [], [], [], [], [], [], [], [], [], [], [], [], [], [], [], [], [], [], [33, 35, 47, 48], [33, 35, 49, 50], [47, 49, 63, 64], [], [14, 16, 26, 27], [42, 44, 56, 57, 79, 81, 93, 94, 117, 119, 131, 132], [11, 13, 23, 24, 65, 67, 77, 78], [12, 14, 24, 25, 66, 68, 78, 79, 81, 83, 93, 94, 135, 137, 147, 148, 153, 155, 165, 166], [], [], [], [53, 57, 73, 74], [], [], [], [], [], [], [], [], [], [], [], [], [], [], [], [], [], [], [], [], [], []]
def preciseT : List Nat := []
def peekT : List Nat := [73]
def mapsT : List Nat := [195, 202, 211]
def bornT : List Nat := [81]
def preT : List (Nat × List (Nat × List Nat)) := [(66, [(14, [12, 35, 36, 37, 38, 39, 40, 41, 42, 43, 44, 45, 46, 47])]), (126, [(14, [9, 18, 19, 20, 21, 22, 23, 24, 25, 26, 27, 28, 29, 30, 31, 32, 33, 34, 35, 36, 37, 38])])]
def turnF (f : Nat) : Option (List Int -> Option (List Int)) := if f = 127 then some Ab.sortO else if f = 130 then some Ab.revO else none
def pairsT : List (List (Nat × List (Nat × Nat))) := [[],
 [],
 [],
 [(30, [(4, 10), (4, 16), (10, 16), (23, 29), (23, 35), (29, 35)])],
 [],
 [(10, [(9, 14)]), (16, [(10, 15)])],
 [],
 [(8, [(0, 1), (0, 3), (1, 3)])],
 [],
 [(5, [(0, 2)]), (12, [(0, 2)]), (21, [(4, 11), (4, 16), (11, 16), (4, 21), (11, 21), (16, 21), (4, 24), (4, 27), (11, 27), (16, 27), (21, 27), (24, 27)])],
 [(7, [(0, 1), (0, 3), (1, 3)]), (18, [(0, 1), (0, 5), (1, 5), (0, 10), (1, 10), (5, 10), (6, 10)]), (29, [(0, 1), (0, 3), (1, 3)]), (40, [(0, 1), (0, 5), (1, 5), (0, 10), (1, 10), (5, 10), (6, 10)]), (41, [(9, 14)])],
 [],
 [],
 [],
 [],
 [],
 [],
 [(7, [(3, 7), (3, 13), (7, 13)])],
 [],
 [],
 [],
 [],
 [],
 [(5, [(5, 10), (5, 15), (10, 15), (5, 16), (10, 16)])],
 [],
 [],
 [],
 [(13, [(4, 9)]), (22, [(4, 11), (4, 14)])],
 [(13, [(3, 7)])],
 [(6, [(3, 7)])],
 [(9, [(14, 19), (14, 22)])],
 [(4, [(9, 14)])],
 [],
 [],
 [],
 [],
 [],
 [(2, [(1, 4), (1, 7), (4, 7)])],
 [],
 [],
 [],
 [],
 [],
 [(2, [(1, 5)]), (18, [(0, 5), (0, 11), (5, 11), (7, 11)])],
 [(6, [(0, 1), (0, 5), (1, 5), (0, 10), (1, 10), (5, 10), (6, 10)])],
 [],
 [],
 [(5, [(1, 3), (1, 7), (1, 9), (3, 9), (7, 9), (1, 13), (3, 13), (7, 13), (1, 14), (3, 14), (7, 14), (1, 16), (3, 16), (7, 16), (9, 16), (13, 16), (14, 16), (1, 20), (3, 20), (7, 20), (9, 20), (13, 20), (14, 20), (1, 21), (3, 21), (7, 21)]), (9, [(1, 3), (1, 6), (1, 7)])],
 [],
 [],
 [],
 [(10, [(1, 5), (1, 8)]), (21, [(1, 7), (5, 7)]), (32, [(1, 6), (4, 6)])],
 [],
 [],
 [],
 [],
 [],
 [(10, [(4, 9)])],
 [(5, [(4, 6)]), (7, [(4, 6)])],
 [],
 [],
 [],
 [],
 [(4, [(0, 4)]), (6, [(6, 11)]), (13, [(0, 4)]), (18, [(0, 4)])],
 [],
 [],
 [],
 [],
 [],
 [],
 [(1, [(2, 5), (2, 8), (5, 8), (2, 11), (5, 11), (8, 11), (2, 17), (5, 17), (8, 17), (11, 17), (13, 17), (14, 17), (2, 20), (5, 20), (8, 20), (11, 20), (13, 20), (14, 20), (17, 20), (25, 28)])],
 [],
 [],
 [],
 [],
 [],
 [],
 [],
 [(8, [(0, 1), (0, 3), (1, 3), (2, 3), (0, 4), (1, 4), (2, 4), (3, 4)])],
 [],
 [(8, [(1, 3), (1, 8), (3, 8), (1, 10), (3, 10), (8, 10), (1, 14), (3, 14), (8, 14), (10, 14), (1, 16), (3, 16), (8, 16), (10, 16), (14, 16), (1, 21), (3, 21), (8, 21), (10, 21), (14, 21), (16, 21), (1, 23), (3, 23), (8, 23), (10, 23), (14, 23), (16, 23), (21, 23)])],
 [],
 [],
 [(2, [(0, 2), (0, 5), (2, 5), (3, 5)])],
 [],
 [],
 [],
 [(6, [(2, 5), (5, 6)])],
 [],
 [],
 [],
 [],
 [(5, [(0, 2), (0, 4), (2, 4), (0, 5), (0, 8), (0, 11), (8, 11), (0, 14), (8, 14), (11, 14), (0, 15)])],
 [(17, [(0, 5), (0, 11), (5, 11), (7, 11)])],
 [],
 [],
 [],
 [],
 [],
 [],
 [],
 [(1, [(0, 2), (0, 5), (2, 5), (3, 5), (0, 6), (2, 6), (3, 6), (5, 6), (0, 9), (2, 9), (3, 9), (5, 9), (6, 9), (7, 9), (0, 10), (2, 10), (3, 10), (5, 10), (6, 10), (7, 10), (9, 10)])],
 [(2, [(1, 5), (3, 5)])],
 [],
 [],
 [(1, [(1, 4), (2, 4)])],
 [(2, [(0, 5), (0, 7), (0, 8), (0, 10)])],
 [],
 [],
 [],
 [(10, [(1, 3), (1, 6)])],
 [],
 [],
 [],
 [],
 [],
 [(5, [(1, 10), (2, 10), (5, 10), (6, 10), (8, 10), (1, 12), (2, 12), (5, 12), (6, 12), (8, 12), (10, 12)])],
 [],
 [],
 [(1, [(2, 7), (4, 7), (5, 7)])],
 [],
 [],
 [],
 [],
 [],
 [],
 [(6, [(0, 1), (0, 2), (1, 2), (0, 5)]), (7, [(0, 1), (0, 2), (1, 2), (0, 5)])],
 [],
 [],
 [],
 [(3, [(7, 11)])],
 [],
 [],
 [],
 [],
 [],
 [],
 [(1, [(1, 3), (2, 3), (1, 5), (2, 5), (1, 7), (2, 7), (3, 7), (5, 7)])],
 [],
 [],
 [(1, [(1, 2), (1, 7), (2, 7), (4, 7), (5, 7), (1, 15), (2, 15), (4, 15), (5, 15), (7, 15), (8, 15), (11, 15), (12, 15), (14, 15), (1, 18), (2, 18), (4, 18), (5, 18), (7, 18), (8, 18), (11, 18), (12, 18), (14, 18), (15, 18)])],
 [],
 [],
 [],
 [],
 [(8, [(1, 3), (1, 4), (1, 8), (3, 8), (4, 8), (1, 10), (3, 10), (4, 10), (8, 10), (8, 11)]), (13, [(1, 2), (1, 3)])],
 [(3, [(6, 7), (14, 18), (17, 18)])],
 [(6, [(6, 11)])],
 [],
 [],
 [],
 [],
 [(17, [(7, 11)])],
 [],
 [],
 [(4, [(0, 4)])],
 [],
 [(1, [(1, 6), (3, 6), (4, 6)])],
 [(1, [(1, 4), (2, 4)])],
 [],
 [],
 [(4, [(7, 12)]), (6, [(9, 13)])],
 [(10, [(11, 15)])],
 [(10, [(11, 15)])],
 [],
 [(3, [(7, 11)])],
 [(5, [(7, 12)]), (11, [(9, 13)]), (16, [(3, 8)]), (17, [(9, 13)]), (22, [(3, 8)]), (23, [(9, 13)])],
 [(1, [(7, 11)]), (3, [(7, 11)]), (5, [(7, 11)]), (8, [(7, 11)])],
 [(1, [(7, 11)]), (3, [(7, 11)]), (5, [(7, 11)]), (8, [(7, 11)]), (10, [(7, 11)]), (13, [(7, 11)]), (15, [(7, 11)]), (18, [(7, 11)]), (21, [(7, 11)])],
 [],
 [],
 [],
 [(3, [(10, 17)]), (5, [(5, 11)]), (6, [(13, 19)])],
 [],
 [(1, [(2, 5)]), (2, [(2, 5)]), (3, [(2, 5)])],
 [],
 [],
 [(1, [(3, 7)])],
 [],
 [],
 [],
 [],
 [],
 [],
 [],
 [],
 [],
 [],
 [],
 [],
 [],
 [],
 [],
 [],
 []]
def lookP : List (Nat × List (Nat × Nat)) -> Nat -> List (Nat × Nat)
 | [], _ => []
 | (k, c) :: l, b => if k = b then c else lookP l b
def look : List (Nat × List Nat) -> Nat -> List Nat
 | [], _ => []
 | (k, c) :: l, b => if k = b then c else look l b
def lookF : List (Nat × List (Nat × List Nat)) -> Nat -> List (Nat × List Nat)
 | [], _ => []
 | (k, c) :: l, b => if k = b then c else lookF l b
def hints : Ab.Hints := {
 take := fun f t => (takeT.getD f []).contains t
 clear := fun f b => look (clearT.getD f []) b
 precise := fun f => preciseT.contains f
 pairs := fun f b => lookP (pairsT.getD f []) b
 link := fun f t => (linkT.getD f []).contains t
 peek := fun f => peekT.contains f
 mapT := fun t => mapsT.contains t
 born := fun f => bornT.contains f
 turn := turnF
 pre := fun f b => look (lookF preT f) b }
end Go.Proofs.YtkcaaaiihhhnmaaGreat.Hn
end
section
namespace Go.Ab
open Go
variable {P : Program}
def sameVal : Value -> Value -> Bool
 | .int k n, .int k' n' => decide (k = k') && decide (n = n')
 | .bool b, .bool b' => b == b'
 | .slice none 0 0, .slice none 0 0 => true
 | .string s, .string s' => decide (s.data.toList = s'.data.toList)
 | _, _ => false
mutual
def V.same : V -> V -> Bool
 | .val a, .val b => sameVal a b
 | .sl f c l, .sl f' c' l' => decide (f = f') && c == c' && sameL l l'
 | .agg l, .agg l' => sameL l l'
 | .tuple l, .tuple l' => sameL l l'
 | _, _ => false
def sameL : List V -> List V -> Bool
 | [], [] => true
 | x :: l, y :: l' => x.same y && sameL l l'
 | _, _ => false
end
theorem sameVal_eq {a b : Value} (h : sameVal a b = true) : a = b := by
 unfold sameVal at h;split at h
 ·simp_all
 ·simp_all
 ·rfl
 ·rename_i s s';have h1 := of_decide_eq_true h;obtain ⟨⟨l⟩⟩ := s;obtain ⟨⟨l'⟩⟩ := s';simp only at h1;rw [h1]
 ·cases h
mutual
theorem same_eq : ∀ (x y : V), x.same y = true -> x = y
 | .val a, y, h => by cases y <;> simp only [V.same] at h <;> first | (rw [sameVal_eq h]) | cases h
 | .sl f c l, y, h => by
  cases y <;> simp only [V.same] at h <;> try (cases h; done)
  simp only [Bool.and_eq_true, decide_eq_true_eq, beq_iff_eq] at h;rw [h.1.1, h.1.2, sameL_eq _ _ h.2]
 | .agg l, y, h => by
  cases y <;> simp only [V.same] at h <;> try (cases h; done)
  rw [sameL_eq _ _ h]
 | .tuple l, y, h => by
  cases y <;> simp only [V.same] at h <;> try (cases h; done)
  rw [sameL_eq _ _ h]
 | .undef, y, h | .ptr .., y, h | .cptr .., y, h | .fn .., y, h | .yld _, y, h | .mref _, y, h | .bsl .., y, h | .mp _, y, h | .iface .., y, h | .lp .., y, h | .room .., y, h => by cases y <;> simp [V.same] at h
theorem sameL_eq : ∀ (l m : List V), sameL l m = true -> l = m
 | [], [], _ => rfl
 | [], y :: m, h => by simp [sameL] at h
 | x :: l, [], h => by simp [sameL] at h
 | x :: l, y :: m, h => by
  simp only [sameL, Bool.and_eq_true] at h;rw [same_eq x y h.1, sameL_eq l m h.2]
end
structure Ran where
 g : FuncId
 args : List V
 r : V
def libOf (t : List Ran) (g : FuncId) : Option (List V -> Option V) :=
 if t.any (fun e => decide (e.g = g)) then some (fun args => (t.find? fun e => decide (e.g = g) && sameL e.args args).map (·.r)) else none
theorem libOf_ok {t : List Ran} (h : ∀ e ∈ t, CallOk P e.g e.args [] e.r []) : ∀ g f args r, libOf t g = some f -> f args = some r -> CallOk P g args [] r [] := by
 intro g f args r hf hr;unfold libOf at hf;split at hf
 ·cases hf;obtain ⟨e, he, rfl⟩ := Option.map_eq_some_iff.1 hr;have h1 := List.find?_some he;simp only [Bool.and_eq_true, decide_eq_true_eq] at h1;rw [<- h1.1, <- sameL_eq _ _ h1.2];exact h e (List.mem_of_find?_eq_some he)
 ·cases hf
theorem ran_ok {H : Hints} (hm : P.follows .mixedOrders = true) (hname : NameOk P H) {t : List Ran} (ht : ∀ e ∈ t, CallOk P e.g e.args [] e.r []) (n : Nat) (e : Ran)
  (h : (match (orcN P H (libOf t) n).call e.g e.args [] with | some (r, []) => r.same e.r | _ => false) = true) : CallOk P e.g e.args [] e.r [] := by
 split at h
 ·rename_i r hr;rw [<- same_eq _ _ h];exact (orcN_ok hm hname (libOf_ok ht) n).call _ _ _ _ _ hr
 ·cases h
end Go.Ab
end
section
namespace Go.Proofs.YtkcaaaiihhhnmaaGreat.Tn
open Go Go.Ab Go.Sort
def l112_ren : Go.Shelf.Ren := ⟨fun | 112 => 130 | n => n, fun | 28 => 46 | 3 => 3 | 4 => 4 | 0 => 0 | n => n, fun n => n⟩
theorem l112 : Lays.n112 Tryz.prog l112_ren where
 mixed := by kernel_rfl
 f112 := Tryz.func130.trans (congrArg some (by kernel_rfl))
 t0 := Tryz.underlying0
 a0 := Tryz.isAgg0
 z0 := Tryz.sizeOf0
 v0 := Tryz.zeroValue0
 t3 := Tryz.underlying3
 a3 := Tryz.isAgg3
 z3 := Tryz.sizeOf3
 v3 := Tryz.zeroValue3
 t4 := Tryz.underlying4
 a4 := Tryz.isAgg4
 z4 := Tryz.sizeOf4
 v4 := Tryz.zeroValue4
 t28 := Tryz.underlying46
 a28 := Tryz.isAgg46
 z28 := Tryz.sizeOf46
 v28 := Tryz.zeroValue46
def l189_ren : Go.Shelf.Ren := ⟨fun | 189 => 127 | 125 => 153 | 257 => 152 | 128 => 169 | 129 => 170 | 294 => 161 | 295 => 162 | 296 => 163 | 297 => 164 | 298 => 165 | 299 => 166 | 216 => 148 | 300 => 167 | 301 => 168 | 328 => 172 | 329 => 173 | 330 => 174 | 331 => 175 | 332 => 176 | 215 => 159 | 343 => 177 | n => n, fun | 28 => 46 | 3 => 3 | 46 => 208 | 0 => 0 | 51 => 226 | 53 => 228 | 4 => 4 | 183 => 220 | 182 => 219 | 131 => 96 | 5 => 5 | 9 => 9 | 218 => 230 | 222 => 234 | 228 => 236 | 229 => 51 | n => n, fun n => n⟩
theorem l189 : Lays.n189 Tryz.prog l189_ren where
 mixed := by kernel_rfl
 f125 := Tryz.func153.trans (congrArg some (by kernel_rfl))
 f128 := Tryz.func169.trans (congrArg some (by kernel_rfl))
 f129 := Tryz.func170.trans (congrArg some (by kernel_rfl))
 f189 := Tryz.func127.trans (congrArg some (by kernel_rfl))
 f215 := Tryz.func159.trans (congrArg some (by kernel_rfl))
 f216 := Tryz.func148.trans (congrArg some (by kernel_rfl))
 f257 := Tryz.func152.trans (congrArg some (by kernel_rfl))
 f294 := Tryz.func161.trans (congrArg some (by kernel_rfl))
 f295 := Tryz.func162.trans (congrArg some (by kernel_rfl))
 f296 := Tryz.func163.trans (congrArg some (by kernel_rfl))
 f297 := Tryz.func164.trans (congrArg some (by kernel_rfl))
 f298 := Tryz.func165.trans (congrArg some (by kernel_rfl))
 f299 := Tryz.func166.trans (congrArg some (by kernel_rfl))
 f300 := Tryz.func167.trans (congrArg some (by kernel_rfl))
 f301 := Tryz.func168.trans (congrArg some (by kernel_rfl))
 f328 := Tryz.func172.trans (congrArg some (by kernel_rfl))
 f329 := Tryz.func173.trans (congrArg some (by kernel_rfl))
 f330 := Tryz.func174.trans (congrArg some (by kernel_rfl))
 f331 := Tryz.func175.trans (congrArg some (by kernel_rfl))
 f332 := Tryz.func176.trans (congrArg some (by kernel_rfl))
 f343 := Tryz.func177.trans (congrArg some (by kernel_rfl))
 t0 := Tryz.underlying0
 a0 := Tryz.isAgg0
 z0 := Tryz.sizeOf0
 v0 := Tryz.zeroValue0
 t3 := Tryz.underlying3
 a3 := Tryz.isAgg3
 z3 := Tryz.sizeOf3
 v3 := Tryz.zeroValue3
 t4 := Tryz.underlying4
 a4 := Tryz.isAgg4
 z4 := Tryz.sizeOf4
 v4 := Tryz.zeroValue4
 t5 := Tryz.underlying5
 a5 := Tryz.isAgg5
 z5 := Tryz.sizeOf5
 v5 := Tryz.zeroValue5
 t9 := Tryz.underlying9
 a9 := Tryz.isAgg9
 z9 := Tryz.sizeOf9
 v9 := Tryz.zeroValue9
 t28 := Tryz.underlying46
 a28 := Tryz.isAgg46
 z28 := Tryz.sizeOf46
 v28 := Tryz.zeroValue46
 t46 := Tryz.underlying208
 a46 := Tryz.isAgg208
 z46 := Tryz.sizeOf208
 v46 := Tryz.zeroValue208
 t51 := Tryz.underlying226
 a51 := Tryz.isAgg226
 z51 := Tryz.sizeOf226
 v51 := Tryz.zeroValue226
 t53 := Tryz.underlying228
 a53 := Tryz.isAgg228
 z53 := Tryz.sizeOf228
 v53 := Tryz.zeroValue228
 t131 := Tryz.underlying96
 a131 := Tryz.isAgg96
 z131 := Tryz.sizeOf96
 v131 := Tryz.zeroValue96
 t182 := Tryz.underlying219
 a182 := Tryz.isAgg219
 z182 := Tryz.sizeOf219
 v182 := Tryz.zeroValue219
 t183 := Tryz.underlying220
 a183 := Tryz.isAgg220
 z183 := Tryz.sizeOf220
 v183 := Tryz.zeroValue220
 t218 := Tryz.underlying230
 a218 := Tryz.isAgg230
 z218 := Tryz.sizeOf230
 v218 := Tryz.zeroValue230
 t222 := Tryz.underlying234
 a222 := Tryz.isAgg234
 z222 := Tryz.sizeOf234
 v222 := Tryz.zeroValue234
 t228 := Tryz.underlying236
 a228 := Tryz.isAgg236
 z228 := Tryz.sizeOf236
 v228 := Tryz.zeroValue236
 t229 := Tryz.underlying51
 a229 := Tryz.isAgg51
 z229 := Tryz.sizeOf51
 v229 := Tryz.zeroValue51
theorem enters {g : FuncId} {fn : Func} (hfn : Tryz.prog.funcs[g]? = some fn) (hb : fn.body.isSome = true) (hn : (fn.name == "runtime.NumGoroutine") = false) (args : Array Value) (w : World) : (callFunc g args).run Tryz.prog w = .ok (.enter g args) w := by
 have hbs : fn.body.isNone = false := by cases h : fn.body <;> simp_all
 simp only [callFunc, Sem.run_bind, run_program, Result.andThen_ok, hfn, hn, hbs, Bool.false_eq_true, if_false, Sem.run_pure]
theorem holds_of {w : World} {b off : Nat} {arr : Array Value} {ty : TypeId} {zs : List Int} (hw : w.heap[b]? = some (.cells arr ty (0, 0))) (hs : Seg w b off (zs.map (Value.int .i64))) : Holds (Value.int .i64) w b off zs.toArray := by
 intro j hj;have hj' : j < zs.length := by simpa using hj
 refine ⟨?_, ?_⟩
 ·have := hs j (.int .i64 zs[j]) (by simp [hj']);rw [this];simp [getElem!_pos, hj']
 ·simp [World.frozen?, hw]
theorem putRow_turned {w : World} {b off n : Nat} {arr : Array Value} {ty : TypeId} {zs : List Int} (os : Array Obj) (hw : w.heap[b]? = some (.cells arr ty (0, 0))) (hle : off + zs.length <= arr.size) :
  Turned w b off (zs.map (Value.int .i64)) (grow (putRow (Value.int .i64) (Sort.ahead w n) b off zs.toArray) os) := by
 refine ⟨putRow (Value.int .i64) w b off zs.toArray, n, os, rfl, by simp [putRow, mapBlock], fun k hk => ?_, fun arr' ty' hw' => ?_, rfl, rfl, rfl⟩
 ·simp only [putRow, mapBlock, Array.getElem?_modify];rw [if_neg (Ne.symm hk)]
 ·rw [hw] at hw'; cases hw';simp only [putRow, mapBlock, Array.getElem?_modify, if_true, hw, Option.map_some, onCells];congr 2
  apply Array.ext_getElem?;intro i;have e1 : (Ab.rowAt arr off (zs.map (Value.int .i64)))[i]? = (Ab.rowAt arr off (zs.map (Value.int .i64))).toList[i]? := by simp
  rw [e1];unfold Ab.rowAt;rw [spliceV_at (by simpa using hle)];unfold putCells;simp only [Array.getElem?_mapIdx, List.length_map, List.size_toArray];by_cases hi : off <= i /\ i < off + zs.length
  ·rw [if_pos hi];have hlt : i < arr.size := by omega
   have h2 : i - off < zs.length := by omega
   rw [Array.getElem?_eq_getElem hlt];simp only [Option.map_some, hi, and_self, if_true, List.getElem?_map, List.getElem?_eq_getElem h2];simp [getElem!_pos, h2]
  ·rw [if_neg hi];cases h3 : arr[i]? with
   | none =>
    have : arr.toList[i]? = none := by simpa using h3
    rw [this]; rfl
   | some x =>
    have : arr.toList[i]? = some x := by simpa using h3
    rw [this]; simp [hi]
theorem rev_ok : TurnOk Tryz.prog 130 revO := by
 intro zs zs' hz;unfold revO at hz;split at hz
 ·rename_i hle;simp only [Option.some.injEq] at hz;subst hz;refine ⟨by simp, fun hne w b off cap arr ty hw hfit hs hcap => ?_, fun h0 w a cap => ?_⟩
  ·refine .inl ⟨enters Tryz.func130 (by kernel_rfl) (by kernel_rfl) _ _, ?_⟩;refine (Any.slices_Reverse_int l112 b off cap zs w (holds_of hw hs) (by omega)).mono ?_;rintro e w' ⟨rfl, n, rfl⟩;have h := putRow_turned (n := n) #[] hw (zs := zs.reverse) (by simpa using hfit);exact ⟨_, rfl, by simpa using h⟩
  ·refine .inl ⟨enters Tryz.func130 (by kernel_rfl) (by kernel_rfl) _ _, ?_⟩;refine (Any.slices_Reverse_int_empty l112 a cap w).mono ?_;rintro e w' ⟨rfl, rfl⟩;exact ⟨_, rfl, 0, #[], by simp⟩
 ·cases hz
theorem insI_perm (x : Int) : ∀ l : List Int, (insI x l).Perm (x :: l)
 | [] => .refl _
 | y :: l => by
  unfold insI;split
  ·exact .refl _
  ·exact ((insI_perm x l).cons y).trans (.swap x y l)
theorem isort_perm : ∀ l : List Int, (isortI l).Perm l
 | [] => .refl _
 | x :: l => (insI_perm x _).trans ((isort_perm l).cons x)
theorem insI_sorted (x : Int) : ∀ l : List Int, l.Pairwise (· <= ·) -> (insI x l).Pairwise (· <= ·)
 | [], _ => by simp [insI]
 | y :: l, h => by
  unfold insI;rw [List.pairwise_cons] at h;split
  ·rename_i hxy;refine List.pairwise_cons.2 ⟨fun z hz => ?_, List.pairwise_cons.2 h⟩;rcases List.mem_cons.1 hz with rfl | hz
   ·exact hxy
   ·exact Int.le_trans hxy (h.1 z hz)
  ·rename_i hxy;refine List.pairwise_cons.2 ⟨fun z hz => ?_, insI_sorted x l h.2⟩;rcases List.mem_cons.1 ((insI_perm x l).mem_iff.1 hz) with rfl | hz
   ·omega
   ·exact h.1 z hz
theorem isort_sorted : ∀ l : List Int, (isortI l).Pairwise (· <= ·)
 | [] => .nil
 | x :: l => insI_sorted x _ (isort_sorted l)
theorem sorted_uniq : ∀ {l m : List Int}, l.Pairwise (· <= ·) -> m.Pairwise (· <= ·) -> l.Perm m -> l = m
 | [], m, _, _, h => (List.nil_perm.1 h).symm
 | x :: l, [], _, _, h => absurd (List.perm_nil.1 h) (by simp)
 | x :: l, y :: m, hl, hm, h => by
  rw [List.pairwise_cons] at hl hm;have h1 : x <= y := by
   rcases List.mem_cons.1 (h.mem_iff.2 (List.mem_cons_self : y ∈ y :: m)) with e | e
   ·omega
   ·exact hl.1 y e
  have h2 : y <= x := by
   rcases List.mem_cons.1 (h.mem_iff.1 (List.mem_cons_self : x ∈ x :: l)) with e | e
   ·omega
   ·exact hm.1 x e
  have e : x = y := by omega
  subst e;rw [sorted_uniq hl.2 hm.2 (List.Perm.cons_inv h)]
theorem isort_eq (zs : List Int) : zs.mergeSort (fun x y => decide (x <= y)) = isortI zs := by
 refine sorted_uniq ?_ (isort_sorted zs) ((List.mergeSort_perm zs _).trans (isort_perm zs).symm);have := List.pairwise_mergeSort (le := fun x y : Int => decide (x <= y)) (fun a b c h1 h2 => by simp only [decide_eq_true_eq] at *; omega) (fun a b => by simp only [Bool.or_eq_true, decide_eq_true_eq]; omega) zs;exact this.imp fun h => by simpa using h
theorem sort_ok : TurnOk Tryz.prog 127 sortO := by
 intro zs zs' hz;unfold sortO at hz;split at hz
 ·rename_i hle;simp only [Option.some.injEq] at hz;subst hz;have hlen : (isortI zs).length = zs.length := (isort_perm zs).length_eq;refine ⟨hlen, fun hne w b off cap arr ty hw hfit hs hcap => ?_, fun h0 w a cap => ?_⟩
  ·refine .inl ⟨enters Tryz.func127 (by kernel_rfl) (by kernel_rfl) _ _, ?_⟩;refine (Any.slices_Sort_int l189 b off cap zs w (holds_of hw hs) (Array.getElem?_eq_some_iff.1 hw).1 (by omega)).mono ?_;rintro e w' ⟨rfl, n, os, rfl⟩;rw [isort_eq];exact ⟨_, rfl, putRow_turned os hw (by rw [hlen]; exact hfit)⟩
  ·refine .inl ⟨enters Tryz.func127 (by kernel_rfl) (by kernel_rfl) _ _, ?_⟩;refine (Any.slices_Sort_int_none l189 a cap w).mono ?_;rintro e w' ⟨rfl, rfl⟩;exact ⟨_, rfl, 0, #[], by simp⟩
 ·cases hz
end Go.Proofs.YtkcaaaiihhhnmaaGreat.Tn
namespace Go.Proofs.YtkcaaaiihhhnmaaGreat
open Go Go.Ab
theorem turns : TurnsOk Tryz.prog Hn.hints := by
 intro g F h;simp only [Hn.hints, Hn.turnF] at h;split at h
 ·rename_i e; subst e; cases h; exact Tn.sort_ok
 split at h
 ·rename_i e; subst e; cases h; exact Tn.rev_ok
 cases h
end Go.Proofs.YtkcaaaiihhhnmaaGreat
end
section
set_option maxRecDepth 100000
namespace Go.Proofs.YtkcaaaiihhhnmaaGreat.St0
open Go Go.Ab Go.Tx
noncomputable section
@[reducible] def I : Ty := .int .i64
@[reducible] def w64 (n : Int) : Int := IntKind.wrap .i64 n
def lookJ : List (List Tmp × FuncId × Kind × Join) -> List Tmp -> FuncId -> Kind -> Option Join
 | [], _, _, _ => none
 | (c, f, k, j) :: l, c', f', k' => if f = f' then (if k = k' then (if c = c' then some j else lookJ l c' f' k') else lookJ l c' f' k') else lookJ l c' f' k'
def mkTH (js : List (List Tmp × FuncId × Kind × Join)) (inl : List (List Tmp × FuncId × Tmp)) : TH where
 lib := fun _ => false
 join := lookJ js
 inl := fun c f d => inl.any fun (c', f', d') => decide (f = f') && decide (d = d') && decide (c = c')
def Lb : FuncId -> Option (List V -> Option V) := fun _ => none
theorem hJ {js : List (List Tmp × FuncId × Kind × Join)} {inl : List (List Tmp × FuncId × Tmp)} : ∀ g, (mkTH js inl).lib g = false -> Lb g = none := fun g h => rfl
def safety_within (a0 : Int) (a1 : Int) (a2 : Int) : Option Bool :=
 (bif decide (a1 <= a0) then
   some (decide (a0 <= a2))
  else
   some false).bind fun (p1 : Bool) =>
 some p1
def e_safety_within : Entry := ⟨84, [.ty I, .ty I, .ty I], [(.bool, 0)], fun x => safety_within x.1 x.2.1 x.2.2⟩
def j_safety_within : TH := mkTH [([], 84, .region 1, { lv := [⟨none, 6, 0⟩], ps := [(.bool, 0)], D := ⟨32704⟩ })] []
theorem k_safety_within (x : denP e_safety_within.ps) : fnT Tryz.prog Hn.hints j_safety_within (tabT []) 40 84 (ofPms e_safety_within.ps x) e_safety_within.rs = e_safety_within.F x := by kernel_rfl
theorem o_safety_within : EntryOk Tryz.prog Hn.hints Lb e_safety_within := entry_ok tab_nil hJ 40 _ _ _ _ k_safety_within
def safety_isSized (a0 : Int) (a1 : Int) : Option Bool :=
 (safety_within a0 (w64 (0 - a1)) a1).bind fun x1 =>
 some x1
def e_safety_isSized : Entry := ⟨94, [.ty I, .ty I], [(.bool, 0)], fun x => safety_isSized x.1 x.2⟩
def j_safety_isSized : TH := mkTH [] []
theorem k_safety_isSized (x : denP e_safety_isSized.ps) : fnT Tryz.prog Hn.hints j_safety_isSized (tabT [e_safety_within]) 40 94 (ofPms e_safety_isSized.ps x) e_safety_isSized.rs = e_safety_isSized.F x := by kernel_rfl
theorem o_safety_isSized : EntryOk Tryz.prog Hn.hints Lb e_safety_isSized := entry_ok (tab_cons o_safety_within tab_nil) hJ 40 _ _ _ _ k_safety_isSized
def safety_unless (a0 : Bool) (a1 : Int) : Option Int :=
 bif a0 then
  some 0
 else
  some a1
def e_safety_unless : Entry := ⟨72, [.ty .bool, .ty I], [(I, 0)], fun x => safety_unless x.1 x.2⟩
def j_safety_unless : TH := mkTH [] []
theorem k_safety_unless (x : denP e_safety_unless.ps) : fnT Tryz.prog Hn.hints j_safety_unless (tabT []) 40 72 (ofPms e_safety_unless.ps x) e_safety_unless.rs = e_safety_unless.F x := by kernel_rfl
theorem o_safety_unless : EntryOk Tryz.prog Hn.hints Lb e_safety_unless := entry_ok tab_nil hJ 40 _ _ _ _ k_safety_unless
def safety_first (a0 : (List Int)) : Option Int :=
 (loopO (fun (s2 : Int) =>
   bif decide (s2 < (a0.length : Int)) then
    (idx a0 s2).bind fun x3 =>
    bif !(decide (x3 = 0)) then
     some (.inr (.inr x3))
    else
     some (.inl (w64 (s2 + 1)))
   else
    some (.inr (.inl ()))) 0).bind (Sum.elim (fun (p4 : Unit) =>
 some 0) some)
def e_safety_first : Entry := ⟨71, [.ty (.sl I)], [(I, 0)], fun x => safety_first x⟩
def j_safety_first : TH := mkTH [([], 71, .block 0, { lv := [], ps := [], abn := true, D := ⟨32656⟩ }),
 ([], 71, .loop 0, { lv := [⟨none, 7, 0⟩], ps := [(I, 0)], D := ⟨32656⟩ })] []
theorem k_safety_first (x : denP e_safety_first.ps) : fnT Tryz.prog Hn.hints j_safety_first (tabT []) 40 71 (ofPms e_safety_first.ps x) e_safety_first.rs = e_safety_first.F x := by kernel_rfl
theorem o_safety_first : EntryOk Tryz.prog Hn.hints Lb e_safety_first := entry_ok tab_nil hJ 40 _ _ _ _ k_safety_first
def safety_CheckLimits (a0 : (Int × Int × Int × Int × Int × Unit)) : Option Int :=
 ((safety_isSized a0.1 (60 : Int)).bind fun x1 =>
  bif x1 then
   (safety_isSized a0.2.1 (60 : Int)).bind fun x2 =>
   bif x2 then
    (safety_within a0.2.2.1 (1 : Int) (8 : Int)).bind fun x3 =>
    bif x3 then
     (safety_within a0.2.2.2.1 (1 : Int) (3 : Int)).bind fun x4 =>
     bif x4 then
      (safety_within a0.2.2.2.2.1 (1 : Int) (6 : Int)).bind fun x5 =>
      some x5
     else
      some false
    else
     some false
   else
    some false
  else
   some false).bind fun (p6 : Bool) =>
 (safety_unless p6 (2 : Int)).bind fun x7 =>
 (safety_unless (decide (a0.1 <= a0.2.1)) (9 : Int)).bind fun x8 =>
 (safety_first ([x7, x8])).bind fun x9 =>
 some x9
def e_safety_CheckLimits : Entry := ⟨37, [.ty (.pair I (.pair I (.pair I (.pair I (.pair I .unit)))))], [(I, 0)], fun x => safety_CheckLimits x⟩
def j_safety_CheckLimits : TH := mkTH [([], 37, .region 1, { lv := [⟨none, 3, 0⟩], ps := [(.bool, 0)], D := ⟨536870904⟩, rs := [⟨0, 1⟩], Dn := ⟨502233544⟩ })] []
theorem k_safety_CheckLimits (x : denP e_safety_CheckLimits.ps) : fnT Tryz.prog Hn.hints j_safety_CheckLimits (tabT [e_safety_first, e_safety_isSized, e_safety_unless, e_safety_within]) 40 37 (ofPms e_safety_CheckLimits.ps x) e_safety_CheckLimits.rs = e_safety_CheckLimits.F x := by kernel_rfl
theorem o_safety_CheckLimits : EntryOk Tryz.prog Hn.hints Lb e_safety_CheckLimits := entry_ok (tab_cons o_safety_first (tab_cons o_safety_isSized (tab_cons o_safety_unless (tab_cons o_safety_within tab_nil)))) hJ 40 _ _ _ _ k_safety_CheckLimits
def safety_openMotion (a0 : (Int × Int × Int × Int × Int × Unit)) (a1 : (Int × Int × Int × Unit)) : Option Int :=
 ((safety_within a1.1 a0.1 a0.2.1).bind fun x1 =>
  bif x1 then
   (safety_isSized a1.2.1 a0.2.2.1).bind fun x2 =>
   bif x2 then
    (safety_isSized a1.2.2.1 a0.2.2.2.1).bind fun x3 =>
    some x3
   else
    some false
  else
   some false).bind fun (p4 : Bool) =>
 (safety_CheckLimits a0).bind fun x5 =>
 (safety_unless p4 (2 : Int)).bind fun x6 =>
 (safety_first ([x5, x6])).bind fun x7 =>
 some x7
def e_safety_openMotion : Entry := ⟨91, [.ty (.pair I (.pair I (.pair I (.pair I (.pair I .unit))))), .ty (.pair I (.pair I (.pair I .unit)))], [(I, 0)], fun x => safety_openMotion x.1 x.2⟩
def j_safety_openMotion : TH := mkTH [([], 91, .region 1, { lv := [⟨none, 5, 0⟩], ps := [(.bool, 0)], D := ⟨536870880⟩, rs := [⟨0, 2⟩, ⟨0, 3⟩], Dn := ⟨494593184⟩ })] []
theorem k_safety_openMotion (x : denP e_safety_openMotion.ps) : fnT Tryz.prog Hn.hints j_safety_openMotion (tabT [e_safety_CheckLimits, e_safety_first, e_safety_isSized, e_safety_unless, e_safety_within]) 40 91 (ofPms e_safety_openMotion.ps x) e_safety_openMotion.rs = e_safety_openMotion.F x := by kernel_rfl
theorem o_safety_openMotion : EntryOk Tryz.prog Hn.hints Lb e_safety_openMotion := entry_ok (tab_cons o_safety_CheckLimits (tab_cons o_safety_first (tab_cons o_safety_isSized (tab_cons o_safety_unless (tab_cons o_safety_within tab_nil))))) hJ 40 _ _ _ _ k_safety_openMotion
def safety_atRest (a0 : (Int × Int × Int × Unit)) : Option Bool :=
 (bif decide (a0.2.1 = 0) then
   some (decide (a0.2.2.1 = 0))
  else
   some false).bind fun (p1 : Bool) =>
 some p1
def e_safety_atRest : Entry := ⟨95, [.ty (.pair I (.pair I (.pair I .unit)))], [(.bool, 0)], fun x => safety_atRest x⟩
def j_safety_atRest : TH := mkTH [([], 95, .region 1, { lv := [⟨none, 2, 0⟩], ps := [(.bool, 0)], D := ⟨2044⟩, rs := [⟨0, 1⟩], Dn := ⟨1908⟩ })] []
theorem k_safety_atRest (x : denP e_safety_atRest.ps) : fnT Tryz.prog Hn.hints j_safety_atRest (tabT []) 40 95 (ofPms e_safety_atRest.ps x) e_safety_atRest.rs = e_safety_atRest.F x := by kernel_rfl
theorem o_safety_atRest : EntryOk Tryz.prog Hn.hints Lb e_safety_atRest := entry_ok tab_nil hJ 40 _ _ _ _ k_safety_atRest
def safety_pushed (a0 : (Int × Int × Int × Int × Int × Unit)) (a1 : (Int × Int × Int × Unit)) (a2 : Int) : Option ((Int × Int × Int × Unit) × Bool) :=
 ((safety_isSized a2 a0.2.2.2.1).bind fun x1 =>
  bif !x1 then
   some true
  else
   (safety_isSized (w64 (a2 - a1.2.2.1)) a0.2.2.2.2.1).bind fun x2 =>
   some (!x2)).bind fun (p3 : Bool) =>
 bif p3 then
  some (a1, false)
 else
  ((safety_isSized (w64 (a1.2.1 + a2)) a0.2.2.1).bind fun x4 =>
   bif x4 then
    (safety_within (w64 (a1.1 + (w64 (a1.2.1 + a2)))) a0.1 a0.2.1).bind fun x5 =>
    some (x5, w64 (a1.1 + (w64 (a1.2.1 + a2))), w64 (a1.2.1 + a2), a2)
   else
    some (false, w64 (a1.1 + (w64 (a1.2.1 + a2))), w64 (a1.2.1 + a2), a2)).bind fun (p6 : (Bool × Int × Int × Int)) =>
  some ((p6.2.1, p6.2.2.1, p6.2.2.2, ()), p6.1)
def e_safety_pushed : Entry := ⟨92, [.ty (.pair I (.pair I (.pair I (.pair I (.pair I .unit))))), .ty (.pair I (.pair I (.pair I .unit))), .ty I], [((.pair I (.pair I (.pair I .unit))), 0), (.bool, 0)], fun x => safety_pushed x.1 x.2.1 x.2.2⟩
def j_safety_pushed : TH := mkTH [([], 92, .region 1, { lv := [⟨none, 22, 0⟩], ps := [(.bool, 0)], D := ⟨8388352⟩, rs := [⟨0, 3⟩, ⟨0, 4⟩], Dn := ⟨8092928⟩ }),
 ([], 92, .region 5, { lv := [⟨none, 7, 0⟩, ⟨some 0, 6, 0⟩, ⟨some 0, 6, 1⟩, ⟨some 0, 6, 2⟩], ps := [(.bool, 0), (I, 0), (I, 0), (I, 0)], D := ⟨18014261070528640⟩, wr := [⟨0, 6⟩], rs := [⟨0, 3⟩, ⟨0, 4⟩], Dn := ⟨16095338402152576⟩ })] []
theorem k_safety_pushed (x : denP e_safety_pushed.ps) : fnT Tryz.prog Hn.hints j_safety_pushed (tabT [e_safety_isSized, e_safety_within]) 40 92 (ofPms e_safety_pushed.ps x) e_safety_pushed.rs = e_safety_pushed.F x := by kernel_rfl
theorem o_safety_pushed : EntryOk Tryz.prog Hn.hints Lb e_safety_pushed := entry_ok (tab_cons o_safety_isSized (tab_cons o_safety_within tab_nil)) hJ 40 _ _ _ _ k_safety_pushed
def safety_stop (a0 : (Int × Int × Int × Int × Int × Unit)) (a1 : (Int × Int × Int × Unit)) : Option ((List Int) × Bool) :=
 (loopO (fun (s2 : ((List (Int × Int × Int × Int × Unit)) × Int × (List (Int × Int × Int × Unit)))) =>
   bif decide (s2.2.1 < (s2.1.length : Int)) then
    (idx s2.1 s2.2.1).bind fun x3 =>
    (safety_atRest (x3.1, x3.2.1, x3.2.2.1, ())).bind fun x4 =>
    bif x4 then
     (loopO (fun (s7 : ((List Int) × Int)) =>
       (idx s2.1 s7.2).bind fun x8 =>
       bif decide (x8.2.2.2.1 >= 0) then
        (idx s2.1 s7.2).bind fun x9 =>
        (app s7.1 ([x9.2.2.1])).bind fun x10 =>
        (idx s2.1 s7.2).bind fun x11 =>
        some (.inl (x10, x11.2.2.2.1))
       else
        some (.inr s7.1)) ([], s2.2.1)).bind fun (p12 : (List Int)) =>
     (revO p12).bind fun x13 =>
     some (.inr (.inr (x13, true)))
    else
     (loopO (fun (s15 : ((List (Int × Int × Int × Int × Unit)) × Int × (List (Int × Int × Int × Unit)))) =>
       bif decide (s15.2.1 <= a0.2.2.2.1) then
        (idx s15.1 s2.2.1).bind fun x16 =>
        (safety_pushed a0 (x16.1, x16.2.1, x16.2.2.1, ()) s15.2.1).bind fun x17 =>
        (bif x17.2 then
          some (!(memK (.pair I (.pair I (.pair I .unit))) s15.2.2 x17.1))
         else
          some false).bind fun (p18 : Bool) =>
        (bif p18 then
          (app s15.1 ([(x17.1.1, x17.1.2.1, x17.1.2.2.1, s2.2.1, ())])).bind fun x19 =>
          some (x19, insK (.pair I (.pair I (.pair I .unit))) s15.2.2 x17.1)
         else
          some (s15.1, s15.2.2)).bind fun (p20 : ((List (Int × Int × Int × Int × Unit)) × (List (Int × Int × Int × Unit)))) =>
        some (.inl (p20.1, w64 (s15.2.1 + 1), p20.2))
       else
        some (.inr (s15.1, s15.2.2))) (s2.1, w64 (0 - a0.2.2.2.1), s2.2.2)).bind fun (p21 : ((List (Int × Int × Int × Int × Unit)) × (List (Int × Int × Int × Unit)))) =>
     some (.inl (p21.1, w64 (s2.2.1 + 1), p21.2))
   else
    some (.inr (.inl ()))) ([(a1.1, a1.2.1, a1.2.2.1, (-1), ())], 0, insK (.pair I (.pair I (.pair I .unit))) [] a1)).bind (Sum.elim (fun (p22 : Unit) =>
 some ([], false)) some)
def e_safety_stop : Entry := ⟨93, [.ty (.pair I (.pair I (.pair I (.pair I (.pair I .unit))))), .ty (.pair I (.pair I (.pair I .unit)))], [((.sl I), 1), (.bool, 0)], fun x => safety_stop x.1 x.2⟩
def j_safety_stop : TH := mkTH [([], 93, .block 0, { lv := [], ps := [], abn := true, D := ⟨2475880078570760549797216064⟩, wr := [⟨0, 12⟩, ⟨0, 16401⟩] }),
 ([], 93, .loop 0, { lv := [⟨none, 6, 0⟩, ⟨none, 8, 0⟩, ⟨some 0, 16401, 0⟩], ps := [((.sl (.pair I (.pair I (.pair I (.pair I .unit))))), 1), (I, 0), ((.mset (.pair I (.pair I (.pair I .unit)))), 0)], D := ⟨2475880078570760549797216064⟩, wr := [⟨0, 12⟩, ⟨0, 16401⟩], rs := [⟨0, 2⟩], Dn := ⟨2475880077345781451152441152⟩ }),
 ([], 93, .block 2, { lv := [⟨none, 9, 0⟩], ps := [((.sl I), 1)], D := ⟨9007190664807936⟩ }),
 ([], 93, .loop 2, { lv := [⟨none, 9, 0⟩, ⟨none, 10, 0⟩], ps := [((.sl I), 1), (I, 0)], D := ⟨9007190664807936⟩ }),
 ([], 93, .block 4, { lv := [⟨none, 6, 0⟩, ⟨some 0, 16401, 0⟩], ps := [((.sl (.pair I (.pair I (.pair I (.pair I .unit))))), 1), ((.mset (.pair I (.pair I (.pair I .unit)))), 0)], D := ⟨2475880077994299797494839872⟩, wr := [⟨0, 12⟩, ⟨0, 16401⟩], rs := [⟨0, 2⟩], Dn := ⟨2475880076841378292887992896⟩ }),
 ([], 93, .loop 4, { lv := [⟨none, 6, 0⟩, ⟨none, 11, 0⟩, ⟨some 0, 16401, 0⟩], ps := [((.sl (.pair I (.pair I (.pair I (.pair I .unit))))), 1), (I, 0), ((.mset (.pair I (.pair I (.pair I .unit)))), 0)], D := ⟨2475880077994299797494839872⟩, wr := [⟨0, 12⟩, ⟨0, 16401⟩], rs := [⟨0, 2⟩, ⟨0, 12⟩, ⟨0, 16401⟩], Dn := ⟨2465906438829557602196662848⟩ }),
 ([], 93, .region 18, { lv := [⟨none, 82, 0⟩], ps := [(.bool, 0)], D := ⟨9595848693191119074230272⟩, rs := [⟨0, 16401⟩], Dn := ⟨9293617238287461780553728⟩ }),
 ([], 93, .cond 82, { lv := [⟨none, 6, 0⟩, ⟨some 0, 16401, 0⟩], ps := [((.sl (.pair I (.pair I (.pair I (.pair I .unit))))), 1), ((.mset (.pair I (.pair I (.pair I .unit)))), 0)], D := ⟨2466208672013843516400599104⟩, wr := [⟨0, 16401⟩], rs := [⟨0, 16401⟩], Dn := ⟨2456537265456926483002949696⟩ })] []
theorem k_safety_stop (x : denP e_safety_stop.ps) : fnT Tryz.prog Hn.hints j_safety_stop (tabT [e_safety_atRest, e_safety_pushed]) 40 93 (ofPms e_safety_stop.ps x) e_safety_stop.rs = e_safety_stop.F x := by kernel_rfl
theorem o_safety_stop : EntryOk Tryz.prog Hn.hints Lb e_safety_stop := entry_ok (tab_cons o_safety_atRest (tab_cons o_safety_pushed tab_nil)) hJ 40 _ _ _ _ k_safety_stop
def safety_StopFrom (a0 : (Int × Int × Int × Int × Int × Unit)) (a1 : (Int × Int × Int × Unit)) : Option ((List Int) × Int) :=
 (safety_openMotion a0 a1).bind fun x1 =>
 bif !(decide (x1 = 0)) then
  some ([], x1)
 else
  (safety_stop a0 a1).bind fun x2 =>
  (safety_unless x2.2 (12 : Int)).bind fun x3 =>
  some (x2.1, x3)
def e_safety_StopFrom : Entry := ⟨38, [.ty (.pair I (.pair I (.pair I (.pair I (.pair I .unit))))), .ty (.pair I (.pair I (.pair I .unit)))], [((.sl I), 1), (I, 0)], fun x => safety_StopFrom x.1 x.2⟩
def j_safety_StopFrom : TH := mkTH [] []
theorem k_safety_StopFrom (x : denP e_safety_StopFrom.ps) : fnT Tryz.prog Hn.hints j_safety_StopFrom (tabT [e_safety_openMotion, e_safety_stop, e_safety_unless]) 40 38 (ofPms e_safety_StopFrom.ps x) e_safety_StopFrom.rs = e_safety_StopFrom.F x := by kernel_rfl
theorem o_safety_StopFrom : EntryOk Tryz.prog Hn.hints Lb e_safety_StopFrom := entry_ok (tab_cons o_safety_openMotion (tab_cons o_safety_stop (tab_cons o_safety_unless tab_nil))) hJ 40 _ _ _ _ k_safety_StopFrom
end
end Go.Proofs.YtkcaaaiihhhnmaaGreat.St0
end
section
namespace Go.Proofs.YtkcaaaiihhhnmaaGreat.St0
open Go Go.Ab Go.Tx
def Le {α : Type} (a b : Option α) : Prop := ∀ r, a = some r -> b = some r
theorem Le.refl {α : Type} (a : Option α) : Le a a := fun _ h => h
theorem Le.bind {α β : Type} {a a' : Option α} {f f' : α -> Option β} (h : Le a a') (hf : ∀ x, Le (f x) (f' x)) : Le (a.bind f) (a'.bind f') := fun r hr => by
 obtain ⟨x, hx, hr⟩ := Option.bind_eq_some_iff.1 hr;rw [h x hx]; exact hf x r hr
theorem Le.cond {α : Type} {c : Bool} {a a' b b' : Option α} (h : Le a a') (h' : Le b b') : Le (bif c then a else b) (bif c then a' else b') := by cases c <;> assumption
theorem Le.elim {α β γ : Type} {f f' : α -> Option γ} {g : β -> Option γ} (hf : ∀ x, Le (f x) (f' x)) (x : α ⊕ β) : Le (Sum.elim f g x) (Sum.elim f' g x) := by
 cases x with
 | inl x => exact hf x
 | inr y => exact Le.refl _
theorem Le.map {α β : Type} {a a' : Option α} {f : α -> β} (h : Le a a') : Le (a.map f) (a'.map f) := fun r hr => by
 obtain ⟨x, hx, rfl⟩ := Option.map_eq_some_iff.1 hr;rw [h x hx]; rfl
theorem loopN_le {σ ρ : Type} {f g : σ -> Option (σ ⊕ ρ)} (h : ∀ s, Le (f s) (g s)) : ∀ n s, Le (loopN f n s) (loopN g n s)
 | 0, s => Le.refl _
 | n + 1, s => fun r hr => by
  simp only [loopN] at hr ⊢;cases hf : f s with
  | none => rw [hf] at hr; cases hr
  | some x =>
   rw [hf] at hr;rw [h s x hf];cases x with
   | inl s' => exact loopN_le h n s' r hr
   | inr q => exact hr
theorem loopN_more {σ ρ : Type} {f : σ -> Option (σ ⊕ ρ)} : ∀ {n m : Nat} {s : σ} {r : ρ}, n <= m -> loopN f n s = some r -> loopN f m s = some r
 | 0, _, _, _, _, h => by simp [loopN] at h
 | n + 1, 0, _, _, hle, _ => by omega
 | n + 1, m + 1, s, r, hle, h => by
  simp only [loopN] at h ⊢;cases hf : f s with
  | none => rw [hf] at h; cases h
  | some x =>
   rw [hf] at h;cases x with
   | inl s' => exact loopN_more (by omega) h
   | inr q => exact h
theorem loopO_of {σ ρ : Type} {f : σ -> Option (σ ⊕ ρ)} {n : Nat} {s : σ} {r : ρ} (h : loopN f n s = some r) : loopO f s = some r := by
 unfold loopO;rw [dif_pos ⟨n, r, h⟩];have h2 := Classical.choose_spec (Classical.choose_spec (⟨n, r, h⟩ : ∃ n r, loopN f n s = some r));have h3 := loopN_more (Nat.le_max_left n (Classical.choose (⟨n, r, h⟩ : ∃ n r, loopN f n s = some r))) h;have h4 := loopN_more (Nat.le_max_right n (Classical.choose (⟨n, r, h⟩ : ∃ n r, loopN f n s = some r))) h2;rw [h3] at h4;exact h4.symm
theorem Le.loop {σ ρ : Type} {f g : σ -> Option (σ ⊕ ρ)} {n : Nat} {s : σ} (h : ∀ s, Le (f s) (g s)) : Le (loopN f n s) (loopO g s) := fun r hr => loopO_of (loopN_le h n s r hr)
def loopF {σ ρ : Type} (f : σ -> Option (σ ⊕ ρ)) (s : σ) : Option ρ := loopN f 400 s
theorem Le.loopF {σ ρ : Type} {f g : σ -> Option (σ ⊕ ρ)} {s : σ} (h : ∀ s, Le (f s) (g s)) : Le (St0.loopF f s) (loopO g s) := Le.loop h
def safety_within_f (a0 : Int) (a1 : Int) (a2 : Int) : Option Bool :=
 (bif decide (a1 <= a0) then
   some (decide (a0 <= a2))
  else
   some false).bind fun (p1 : Bool) =>
 some p1
theorem safety_within_le (a0 : Int) (a1 : Int) (a2 : Int) : Le (safety_within_f a0 a1 a2) (safety_within a0 a1 a2) := by
 unfold safety_within_f safety_within;repeat' first | exact Le.refl _ | refine Le.loopF fun _ => ?_ | refine Le.elim (fun _ => ?_) _ | refine Le.bind ?_ fun _ => ?_ | refine Le.cond ?_ ?_ | refine Le.map ?_
def safety_isSized_f (a0 : Int) (a1 : Int) : Option Bool :=
 (safety_within_f a0 (w64 (0 - a1)) a1).bind fun x1 =>
 some x1
theorem safety_isSized_le (a0 : Int) (a1 : Int) : Le (safety_isSized_f a0 a1) (safety_isSized a0 a1) := by
 unfold safety_isSized_f safety_isSized;repeat' first | exact Le.refl _ | exact safety_within_le _ _ _ | refine Le.loopF fun _ => ?_ | refine Le.elim (fun _ => ?_) _ | refine Le.bind ?_ fun _ => ?_ | refine Le.cond ?_ ?_ | refine Le.map ?_
def safety_unless_f (a0 : Bool) (a1 : Int) : Option Int :=
 bif a0 then
  some 0
 else
  some a1
theorem safety_unless_le (a0 : Bool) (a1 : Int) : Le (safety_unless_f a0 a1) (safety_unless a0 a1) := by
 unfold safety_unless_f safety_unless;repeat' first | exact Le.refl _ | refine Le.loopF fun _ => ?_ | refine Le.elim (fun _ => ?_) _ | refine Le.bind ?_ fun _ => ?_ | refine Le.cond ?_ ?_ | refine Le.map ?_
def safety_first_f (a0 : (List Int)) : Option Int :=
 (loopF (fun (s2 : Int) =>
   bif decide (s2 < (a0.length : Int)) then
    (idx a0 s2).bind fun x3 =>
    bif !(decide (x3 = 0)) then
     some (.inr (.inr x3))
    else
     some (.inl (w64 (s2 + 1)))
   else
    some (.inr (.inl ()))) 0).bind (Sum.elim (fun (p4 : Unit) =>
 some 0) some)
theorem safety_first_le (a0 : (List Int)) : Le (safety_first_f a0) (safety_first a0) := by
 unfold safety_first_f safety_first;repeat' first | exact Le.refl _ | refine Le.loopF fun _ => ?_ | refine Le.elim (fun _ => ?_) _ | refine Le.bind ?_ fun _ => ?_ | refine Le.cond ?_ ?_ | refine Le.map ?_
def safety_CheckLimits_f (a0 : (Int × Int × Int × Int × Int × Unit)) : Option Int :=
 ((safety_isSized_f a0.1 (60 : Int)).bind fun x1 =>
  bif x1 then
   (safety_isSized_f a0.2.1 (60 : Int)).bind fun x2 =>
   bif x2 then
    (safety_within_f a0.2.2.1 (1 : Int) (8 : Int)).bind fun x3 =>
    bif x3 then
     (safety_within_f a0.2.2.2.1 (1 : Int) (3 : Int)).bind fun x4 =>
     bif x4 then
      (safety_within_f a0.2.2.2.2.1 (1 : Int) (6 : Int)).bind fun x5 =>
      some x5
     else
      some false
    else
     some false
   else
    some false
  else
   some false).bind fun (p6 : Bool) =>
 (safety_unless_f p6 (2 : Int)).bind fun x7 =>
 (safety_unless_f (decide (a0.1 <= a0.2.1)) (9 : Int)).bind fun x8 =>
 (safety_first_f ([x7, x8])).bind fun x9 =>
 some x9
theorem safety_CheckLimits_le (a0 : (Int × Int × Int × Int × Int × Unit)) : Le (safety_CheckLimits_f a0) (safety_CheckLimits a0) := by
 unfold safety_CheckLimits_f safety_CheckLimits;repeat' first | exact Le.refl _ | exact safety_within_le _ _ _ | exact safety_isSized_le _ _ | exact safety_unless_le _ _ | exact safety_first_le _ | refine Le.loopF fun _ => ?_ | refine Le.elim (fun _ => ?_) _ | refine Le.bind ?_ fun _ => ?_ | refine Le.cond ?_ ?_ | refine Le.map ?_
def safety_openMotion_f (a0 : (Int × Int × Int × Int × Int × Unit)) (a1 : (Int × Int × Int × Unit)) : Option Int :=
 ((safety_within_f a1.1 a0.1 a0.2.1).bind fun x1 =>
  bif x1 then
   (safety_isSized_f a1.2.1 a0.2.2.1).bind fun x2 =>
   bif x2 then
    (safety_isSized_f a1.2.2.1 a0.2.2.2.1).bind fun x3 =>
    some x3
   else
    some false
  else
   some false).bind fun (p4 : Bool) =>
 (safety_CheckLimits_f a0).bind fun x5 =>
 (safety_unless_f p4 (2 : Int)).bind fun x6 =>
 (safety_first_f ([x5, x6])).bind fun x7 =>
 some x7
theorem safety_openMotion_le (a0 : (Int × Int × Int × Int × Int × Unit)) (a1 : (Int × Int × Int × Unit)) : Le (safety_openMotion_f a0 a1) (safety_openMotion a0 a1) := by
 unfold safety_openMotion_f safety_openMotion;repeat' first | exact Le.refl _ | exact safety_within_le _ _ _ | exact safety_isSized_le _ _ | exact safety_unless_le _ _ | exact safety_first_le _ | exact safety_CheckLimits_le _ | refine Le.loopF fun _ => ?_ | refine Le.elim (fun _ => ?_) _ | refine Le.bind ?_ fun _ => ?_ | refine Le.cond ?_ ?_ | refine Le.map ?_
def safety_atRest_f (a0 : (Int × Int × Int × Unit)) : Option Bool :=
 (bif decide (a0.2.1 = 0) then
   some (decide (a0.2.2.1 = 0))
  else
   some false).bind fun (p1 : Bool) =>
 some p1
theorem safety_atRest_le (a0 : (Int × Int × Int × Unit)) : Le (safety_atRest_f a0) (safety_atRest a0) := by
 unfold safety_atRest_f safety_atRest;repeat' first | exact Le.refl _ | refine Le.loopF fun _ => ?_ | refine Le.elim (fun _ => ?_) _ | refine Le.bind ?_ fun _ => ?_ | refine Le.cond ?_ ?_ | refine Le.map ?_
def safety_pushed_f (a0 : (Int × Int × Int × Int × Int × Unit)) (a1 : (Int × Int × Int × Unit)) (a2 : Int) : Option ((Int × Int × Int × Unit) × Bool) :=
 ((safety_isSized_f a2 a0.2.2.2.1).bind fun x1 =>
  bif !x1 then
   some true
  else
   (safety_isSized_f (w64 (a2 - a1.2.2.1)) a0.2.2.2.2.1).bind fun x2 =>
   some (!x2)).bind fun (p3 : Bool) =>
 bif p3 then
  some (a1, false)
 else
  ((safety_isSized_f (w64 (a1.2.1 + a2)) a0.2.2.1).bind fun x4 =>
   bif x4 then
    (safety_within_f (w64 (a1.1 + (w64 (a1.2.1 + a2)))) a0.1 a0.2.1).bind fun x5 =>
    some (x5, w64 (a1.1 + (w64 (a1.2.1 + a2))), w64 (a1.2.1 + a2), a2)
   else
    some (false, w64 (a1.1 + (w64 (a1.2.1 + a2))), w64 (a1.2.1 + a2), a2)).bind fun (p6 : (Bool × Int × Int × Int)) =>
  some ((p6.2.1, p6.2.2.1, p6.2.2.2, ()), p6.1)
theorem safety_pushed_le (a0 : (Int × Int × Int × Int × Int × Unit)) (a1 : (Int × Int × Int × Unit)) (a2 : Int) : Le (safety_pushed_f a0 a1 a2) (safety_pushed a0 a1 a2) := by
 unfold safety_pushed_f safety_pushed;repeat' first | exact Le.refl _ | exact safety_within_le _ _ _ | exact safety_isSized_le _ _ | refine Le.loopF fun _ => ?_ | refine Le.elim (fun _ => ?_) _ | refine Le.bind ?_ fun _ => ?_ | refine Le.cond ?_ ?_ | refine Le.map ?_
def safety_stop_f (a0 : (Int × Int × Int × Int × Int × Unit)) (a1 : (Int × Int × Int × Unit)) : Option ((List Int) × Bool) :=
 (loopF (fun (s2 : ((List (Int × Int × Int × Int × Unit)) × Int × (List (Int × Int × Int × Unit)))) =>
   bif decide (s2.2.1 < (s2.1.length : Int)) then
    (idx s2.1 s2.2.1).bind fun x3 =>
    (safety_atRest_f (x3.1, x3.2.1, x3.2.2.1, ())).bind fun x4 =>
    bif x4 then
     (loopF (fun (s7 : ((List Int) × Int)) =>
       (idx s2.1 s7.2).bind fun x8 =>
       bif decide (x8.2.2.2.1 >= 0) then
        (idx s2.1 s7.2).bind fun x9 =>
        (app s7.1 ([x9.2.2.1])).bind fun x10 =>
        (idx s2.1 s7.2).bind fun x11 =>
        some (.inl (x10, x11.2.2.2.1))
       else
        some (.inr s7.1)) ([], s2.2.1)).bind fun (p12 : (List Int)) =>
     (revO p12).bind fun x13 =>
     some (.inr (.inr (x13, true)))
    else
     (loopF (fun (s15 : ((List (Int × Int × Int × Int × Unit)) × Int × (List (Int × Int × Int × Unit)))) =>
       bif decide (s15.2.1 <= a0.2.2.2.1) then
        (idx s15.1 s2.2.1).bind fun x16 =>
        (safety_pushed_f a0 (x16.1, x16.2.1, x16.2.2.1, ()) s15.2.1).bind fun x17 =>
        (bif x17.2 then
          some (!(memK (.pair I (.pair I (.pair I .unit))) s15.2.2 x17.1))
         else
          some false).bind fun (p18 : Bool) =>
        (bif p18 then
          (app s15.1 ([(x17.1.1, x17.1.2.1, x17.1.2.2.1, s2.2.1, ())])).bind fun x19 =>
          some (x19, insK (.pair I (.pair I (.pair I .unit))) s15.2.2 x17.1)
         else
          some (s15.1, s15.2.2)).bind fun (p20 : ((List (Int × Int × Int × Int × Unit)) × (List (Int × Int × Int × Unit)))) =>
        some (.inl (p20.1, w64 (s15.2.1 + 1), p20.2))
       else
        some (.inr (s15.1, s15.2.2))) (s2.1, w64 (0 - a0.2.2.2.1), s2.2.2)).bind fun (p21 : ((List (Int × Int × Int × Int × Unit)) × (List (Int × Int × Int × Unit)))) =>
     some (.inl (p21.1, w64 (s2.2.1 + 1), p21.2))
   else
    some (.inr (.inl ()))) ([(a1.1, a1.2.1, a1.2.2.1, (-1), ())], 0, insK (.pair I (.pair I (.pair I .unit))) [] a1)).bind (Sum.elim (fun (p22 : Unit) =>
 some ([], false)) some)
theorem safety_stop_le (a0 : (Int × Int × Int × Int × Int × Unit)) (a1 : (Int × Int × Int × Unit)) : Le (safety_stop_f a0 a1) (safety_stop a0 a1) := by
 unfold safety_stop_f safety_stop;repeat' first | exact Le.refl _ | exact safety_atRest_le _ | exact safety_pushed_le _ _ _ | refine Le.loopF fun _ => ?_ | refine Le.elim (fun _ => ?_) _ | refine Le.bind ?_ fun _ => ?_ | refine Le.cond ?_ ?_ | refine Le.map ?_
def safety_StopFrom_f (a0 : (Int × Int × Int × Int × Int × Unit)) (a1 : (Int × Int × Int × Unit)) : Option ((List Int) × Int) :=
 (safety_openMotion_f a0 a1).bind fun x1 =>
 bif !(decide (x1 = 0)) then
  some ([], x1)
 else
  (safety_stop_f a0 a1).bind fun x2 =>
  (safety_unless_f x2.2 (12 : Int)).bind fun x3 =>
  some (x2.1, x3)
theorem safety_StopFrom_le (a0 : (Int × Int × Int × Int × Int × Unit)) (a1 : (Int × Int × Int × Unit)) : Le (safety_StopFrom_f a0 a1) (safety_StopFrom a0 a1) := by
 unfold safety_StopFrom_f safety_StopFrom;repeat' first | exact Le.refl _ | exact safety_unless_le _ _ | exact safety_openMotion_le _ _ | exact safety_stop_le _ _ | refine Le.loopF fun _ => ?_ | refine Le.elim (fun _ => ?_) _ | refine Le.bind ?_ fun _ => ?_ | refine Le.cond ?_ ?_ | refine Le.map ?_
end Go.Proofs.YtkcaaaiihhhnmaaGreat.St0
namespace Go.Proofs.YtkcaaaiihhhnmaaGreat.St0
open Go Go.Ab Go.Tx
theorem stop_ex : safety_StopFrom (-10, 10, 4, 2, 1, ()) (0, 3, 0, ()) = some ([-1, -1, -1, 0], 0) := safety_StopFrom_le _ _ _ (by kernel_rfl)
end Go.Proofs.YtkcaaaiihhhnmaaGreat.St0
end
section
namespace Go.Proofs.YtkcaaaiihhhnmaaGreat
open Go Go.Ab
theorem follows : Tryz.prog.follows .mixedOrders = true := by kernel_rfl
theorem namesOk : (Tryz.prog.funcs.toList.all fun fn => !fn.body.isSome || !(fn.name == "runtime.NumGoroutine")) = true := by kernel_rfl
theorem hname : NameOk Tryz.prog Hn.hints := ⟨fun g fn h hb => by
 have := List.all_eq_true.1 namesOk fn (by rw [Array.mem_toList_iff]; exact Array.mem_of_getElem? h);rw [hb] at this;simpa using this, turns⟩
def vi (n : Int) : V := .val (.int .i64 n)
def r0 : Ran := ⟨64, [.agg [.sl .shared false [.val (.string ⟨#[107, 101, 121]⟩), .val (.string ⟨#[100, 111, 111, 114]⟩), .val (.string ⟨#[114, 117, 110]⟩)], .sl .shared false [.agg [.val (.string ⟨#[111, 112, 101, 110]⟩), .sl .shared false [], .sl .shared false [vi (2)], .sl .shared false [vi (1)], .sl .shared false []], .agg [.val (.string ⟨#[115, 104, 117, 116]⟩), .sl .shared false [], .sl .shared false [], .sl .shared false [], .sl .shared false [vi (1)]], .agg [.val (.string ⟨#[116, 117, 114, 110]⟩), .sl .shared false [], .sl .shared false [], .sl .shared false [vi (0)], .sl .shared false []], .agg [.val (.string ⟨#[115, 116, 97, 114, 116]⟩), .sl .shared false [vi (0)], .sl .shared false [vi (1)], .sl .shared false [vi (2)], .sl .shared false []], .agg [.val (.string ⟨#[104, 97, 108, 116]⟩), .sl .shared false [], .sl .shared false [], .sl .shared false [], .sl .shared false [vi (2)]]], .sl .shared false [.agg [.sl .shared false [vi (1), vi (2)], .sl .shared false []]]], vi (0)], .tuple [.sl .own false [vi (0), vi (1), vi (2), vi (3), vi (5)], vi (0)]⟩
theorem r0_ok : CallOk Tryz.prog r0.g r0.args [] r0.r [] := ran_ok (t := []) (H := Hn.hints) follows hname (by simp) 200 r0 (by kernel_rfl)
def r1 : Ran := ⟨66, [.agg [.sl .shared false [.val (.string ⟨#[107, 101, 121]⟩), .val (.string ⟨#[100, 111, 111, 114]⟩), .val (.string ⟨#[114, 117, 110]⟩)], .sl .shared false [.agg [.val (.string ⟨#[111, 112, 101, 110]⟩), .sl .shared false [], .sl .shared false [], .sl .shared false [vi (1)], .sl .shared false []], .agg [.val (.string ⟨#[115, 104, 117, 116]⟩), .sl .shared false [], .sl .shared false [], .sl .shared false [], .sl .shared false [vi (1)]], .agg [.val (.string ⟨#[116, 117, 114, 110]⟩), .sl .shared false [], .sl .shared false [], .sl .shared false [vi (0)], .sl .shared false []], .agg [.val (.string ⟨#[115, 116, 97, 114, 116]⟩), .sl .shared false [vi (0)], .sl .shared false [vi (1)], .sl .shared false [vi (2)], .sl .shared false []], .agg [.val (.string ⟨#[104, 97, 108, 116]⟩), .sl .shared false [], .sl .shared false [], .sl .shared false [], .sl .shared false [vi (2)]]], .sl .shared false [.agg [.sl .shared false [vi (1), vi (2)], .sl .shared false []]]], vi (0)], .tuple [.sl .own false [vi (2), vi (3), vi (0)], vi (0)]⟩
theorem r1_ok : CallOk Tryz.prog r1.g r1.args [] r1.r [] := ran_ok (t := []) (H := Hn.hints) follows hname (by simp) 200 r1 (by kernel_rfl)
def r2 (c : Bool) : Ran := ⟨38, [.agg [vi (-10), vi (10), vi (4), vi (2), vi (1)], .agg [vi (0), vi (3), vi (0)]], .tuple [.sl .own c [vi (-1), vi (-1), vi (-1), vi (0)], vi (0)]⟩
theorem r2_ok : ∃ c, CallOk Tryz.prog (r2 c).g (r2 c).args [] (r2 c).r [] := by
 obtain ⟨v, h1, h2⟩ := Tx.entry_call follows hname (lib := St0.Lb) (fun g h args r hl _ => by cases hl) St0.o_safety_StopFrom (x := ((-10, 10, 4, 2, 1, ()), (0, 3, 0, ()))) St0.stop_ex (vs := (r2 false).args) (by
  simp [r2, vi, St0.e_safety_StopFrom, Tx.ofPms, Tx.ofTy, Tx.ofTyC, Tx.RVL, Tx.RV, Tx.RTy, Tx.ofPm])
 simp only [St0.e_safety_StopFrom, Tx.packT, Tx.ofL, Tx.packedT, Tx.ofTy, Tx.RV, Tx.RVL, Tx.RTy] at h2;obtain ⟨l', rfl, v1, m1, rfl, ⟨f, c, l2, rfl, hf, hall⟩, v2, m2, rfl, rfl, rfl⟩ := h2;have hf1 : f = .own := hf.own rfl;subst hf1;have hl : l2 = [vi (-1), vi (-1), vi (-1), vi 0] := by
  cases hall with | cons a1 hall => cases hall with | cons a2 hall => cases hall with | cons a3 hall => cases hall with | cons a4 hall => cases hall with | nil =>
   rw [a1, a2, a3, a4]; rfl
 subst hl;exact ⟨c, h1⟩
def r3 : Ran := ⟨26, [.sl .shared false [.agg [.val (.string ⟨#[108, 111, 119]⟩), .sl .shared false [.val (.string ⟨#[99, 104, 105, 101, 102]⟩)], vi (1)], .agg [.val (.string ⟨#[104, 105, 103, 104]⟩), .sl .shared false [.val (.string ⟨#[99, 104, 105, 101, 102]⟩), .val (.string ⟨#[111, 119, 110, 101, 114]⟩)], vi (2)]], .sl .shared false [.agg [vi (0), .val (.string ⟨#[97, 110, 110]⟩), .val (.string ⟨#[99, 104, 105, 101, 102]⟩)], .agg [vi (1), .val (.string ⟨#[97, 110, 110]⟩), .val (.string ⟨#[99, 104, 105, 101, 102]⟩)]]], .tuple [vi (1), vi (0)]⟩
theorem r3_ok : CallOk Tryz.prog r3.g r3.args [] r3.r [] := ran_ok (t := []) (H := Hn.hints) follows hname (by simp) 200 r3 (by kernel_rfl)
def r4 : Ran := ⟨13, [.sl .shared false [.agg [vi (2), vi (4), vi (2), vi (4)]], .sl .shared false [.agg [vi (0), vi (0)], .agg [vi (2), vi (2)]]], .tuple [vi (0), vi (13)]⟩
theorem r4_ok : CallOk Tryz.prog r4.g r4.args [] r4.r [] := ran_ok (t := []) (H := Hn.hints) follows hname (by simp) 200 r4 (by kernel_rfl)
def rs (c : Bool) : List Ran := [r0, r1, r2 c, r3, r4]
theorem rs_ok {c : Bool} (h2 : CallOk Tryz.prog (r2 c).g (r2 c).args [] (r2 c).r []) : ∀ e ∈ rs c, CallOk Tryz.prog e.g e.args [] e.r [] := by
 intro e he;simp only [rs, List.mem_cons, List.mem_nil_iff, or_false] at he;rcases he with rfl | rfl | rfl | rfl | rfl
 ·exact r0_ok
 ·exact r1_ok
 ·exact h2
 ·exact r3_ok
 ·exact r4_ok
def aw : Ran := ⟨12, [], .val (.bool true)⟩
theorem awake_ok : CallOk Tryz.prog 12 [] [] (.val (.bool true)) [] := by
 obtain ⟨c, h2⟩ := r2_ok;cases c with
 | true => exact ran_ok (t := rs true) (H := Hn.hints) follows hname (rs_ok h2) 200 aw (by kernel_rfl)
 | false => exact ran_ok (t := rs false) (H := Hn.hints) follows hname (rs_ok h2) 200 aw (by kernel_rfl)
end Go.Proofs.YtkcaaaiihhhnmaaGreat
end
section
namespace Go.Tx
open Go Go.Ab Go.RowKit Go.ChangeShapes Go.WideShapes Go.Deep
section
variable {H : Type} {enc : TypeId × Value -> H} {P : Program}
theorem post_of_below {f : Func} {s : ChangeSpec} {apart fresh handsOn again : Bool} {W W' : World} {args : Array Value} {v : Value} {ds gs : List (DataW H)} {before pa pv : List MemPlace}
  (hW : DataW.Whole enc P f.params.toList s.vars apart W args.toList ds gs before)
  (hres : ∀ (b : Nat) (sp : Nat -> Bool) (hd : Bool), DataW.TrodAll enc P W' b sp hd f.resultTypes.toList (v.resultList f.resultTypes.size) (s.fn H (ds ++ gs)).results [])
  (hargs : ∀ sp : Nat -> Bool, (∀ p ∈ before, sp p.block = true) -> DataW.TrodAll enc P W' 0 sp true f.params.toList args.toList (s.fn H (ds ++ gs)).args pa)
  (hvars : ∀ sp : Nat -> Bool, (∀ p ∈ before, sp p.block = true) -> DataW.TrodVars enc P W' sp s.vars (s.fn H (ds ++ gs)).vars pv)
  (hps : before = pa ++ pv) (hb : Below W.heap.size W W')
  (hok : ∀ (j : Nat) (t : TypeId) (r : Value), f.resultTypes[j]? = some t -> (v.resultList f.resultTypes.size)[j]? = some r -> Value.okWide P W' .any 0 t r) :
  s.post enc P f apart fresh handsOn again W args v W' := by
 have hlt : ∀ p ∈ before, p.block < W.heap.size := fun p hp => hW.lt p hp;have hold : ∀ p ∈ before, (fun b => decide (b < W.heap.size)) p.block = true := fun p hp => by simpa using hlt p hp
 refine ⟨ds, gs, before, [], pa, pv, hW, hres _ _ _, hargs _ hold, hvars _ hold, World.keptBut_mono (fun p hp => ⟨hp, ?_⟩) (hb.frame (· ∈ before)), fun _ => ?_⟩
 ·rw [hps, List.mem_append] at hp;exact Or.inr hp
 ·obtain ⟨_, _, _, _, _, hz, hn⟩ := hW;refine ⟨hok, _, _, ([] ++ pa) ++ pv, ⟨[] ++ pa, pv, trodAll_append (hargs _ (fun _ _ => rfl)) (hres _ _ _), hvars _ (fun _ _ => rfl), rfl, ?_, ?_⟩, ?_⟩
  ·intro b off hp;have hin : MemPlace.cell b off ∈ before := by rw [hps]; simpa using hp
   rw [hb.frozen (hlt _ hin)];exact hz b off hin
  ·intro ha;have := hn ha;rw [hps] at this;simpa using this
  ·intro p hp _;rw [hps];simpa using hp
theorem trodAll_len : ∀ {ts : List TypeId} {vs : List Value} {ds : List (DataW H)} {ps : List MemPlace} {w : World} {b : Nat} {sp : Nat -> Bool} {hd : Bool}, DataW.TrodAll enc P w b sp hd ts vs ds ps -> ds.length = ts.length
 | [], [], [], _, _, _, _, _, _ => rfl
 | [], [], d :: ds, _, _, _, _, _, h => h.elim
 | [], v :: vs, _, _, _, _, _, _, h => by cases h
 | t :: ts, [], _, _, _, _, _, _, h => by cases h
 | t :: ts, v :: vs, [], _, _, _, _, _, h => by cases h
 | t :: ts, v :: vs, d :: ds, ps, w, b, sp, hd, ⟨p, q, h1, h2, e⟩ => by simp [trodAll_len h2]
end
theorem sm_all {H : Type} : Sm (H := H) maxLen (fun _ => True) where
 slice := fun es sp _ h => ⟨h, fun _ _ => trivial⟩
 agg := fun _ _ _ _ => trivial
 str := fun _ _ h => h
theorem law_contract {P : Program} {H0 : Hints} {lib : FuncId -> Option (List V -> Option V)} (hm : P.follows .mixedOrders = true) (hname : NameOk P H0)
  (hlib : ∀ g h args r, lib g = some h -> h args = some r -> CallOk P g args [] r []) (hl : laidOutB P = true) {k : FuncId} {fn : Func} (hfn : P.funcs[k]? = some fn) (hbody : fn.body.isSome = true)
  {ts : List TypeId} {τs : List Ty} (hps : fn.params.toList = ts) (hts : ts.mapM (tyOf P) = some τs) (hok : ts.all (okT P 10) = true) (hrd : ts.all (fun t => P.readableRec t && decide (t < P.types.size)) = true)
  {tb : TypeId} (hres : fn.resultTypes = #[tb]) (htb : P.underlying tb = some .bool) {F : denP (τs.map .ty) -> Option Bool}
  (he : EntryOk P H0 lib ⟨k, τs.map .ty, [(.bool, 0)], F⟩) (hF : ∀ x, RngP maxLen τs x -> F x = some true)
  {s : ChangeSpec} (hv : s.vars = []) (hs : ∀ (H : Type) (ds : List (DataW H)), ds.length = ts.length -> s.fn H ds = { results := [.lit (.bool true)], args := ds })
  (H : Type) (enc : TypeId × Value -> H) (W : World) (base : Nat) (args : Array Value) (ds gs : List (DataW H)) (before : List MemPlace)
  (hval : ∀ (j : Nat) t v, fn.params[j]? = some t -> args[j]? = some v -> Value.okWide P W .any base t v)
  (hW : DataW.Whole enc P fn.params.toList s.vars false W args.toList ds gs before) :
  Calls P k args W fun e W' => ∃ v, e = .returned v /\ s.post enc P fn false true false false W args v W' := by
 have hW' := hW;have hlt : ∀ p ∈ before, p.block < W.heap.size := fun p hp => hW.lt p hp;obtain ⟨p, q, hA, hV, rfl, hfz, hnd⟩ := hW;rw [hv] at hV;obtain ⟨rfl, rfl⟩ := trodVars_none hV;rw [hps] at hA;have hlen := trodAll_len hA;have hval' : ∀ (j : Nat) t v, ts[j]? = some t -> args.toList[j]? = some v -> Value.okWide P W .any base t v := fun j t v h1 h2 =>
  hval j t v (by rw [<- hps] at h1; simpa using h1) (by simpa using h2)
 refine (law_calls hm hname hlib hl sm_all hfn hbody hts hok he hF hval' hA (fun _ _ => trivial)).mono fun e W' ⟨h1, hb⟩ => ?_;subst h1;have hfs : s.fn H (ds ++ []) = { results := [.lit (.bool true)], args := ds } := by rw [List.append_nil]; exact hs H ds hlen
 refine ⟨_, rfl, post_of_below (pa := p) (pv := []) hW' ?_ ?_ ?_ rfl hb ?_⟩
 ·intro b sp hd;rw [hfs, hres];exact trodAll_mk1 (shut_bool htb true)
 ·intro sp hsp;rw [hfs, hps];exact trodAll_below hl hb hrd hA (fun x hx => hlt x (by simpa using hx)) sp (fun x hx => hsp x (by simpa using hx))
 ·intro sp _;rw [hfs, hv];rfl
 ·exact ok_one hres rfl (okWide_bool_mk htb true)
end Go.Tx
namespace Go.Proofs.YtkcaaaiihhhnmaaGreat
open Go Go.Ab Go.Tx
theorem own : ownKnob Tryz.prog.godebug = none := by kernel_rfl
theorem laid_out : laidOutB Tryz.prog = true := by kernel_rfl
end Go.Proofs.YtkcaaaiihhhnmaaGreat
end
section
namespace Go.Tx
open Go
theorem wrap_id {n : Int} (h1 : -9223372036854775808 <= n) (h2 : n <= 9223372036854775807) : IntKind.wrap .i64 n = n := by
 rw [IntKind.wrap_i64]; omega
theorem idx_of {α : Type} {l : List α} {i : Nat} {a : α} (h : l[i]? = some a) : idx l (i : Int) = some a := by simp [idx, h]
theorem app_of {α : Type} {l l2 : List α} (h : l.length + l2.length <= 4294967296) : app l l2 = some (l ++ l2) := by simp [app, h]
section
variable {σ ρ : Type} {f : σ -> Option (σ ⊕ ρ)}
theorem loopN_mono : ∀ {n m : Nat} {s : σ} {r : ρ}, loopN f n s = some r -> n <= m -> loopN f m s = some r
 | 0, m, s, r, h, _ => by simp [loopN] at h
 | n + 1, 0, s, r, h, hm => by omega
 | n + 1, m + 1, s, r, h, hm => by
  simp only [loopN] at h ⊢;cases hf : f s with
  | none => rw [hf] at h; cases h
  | some x =>
   rw [hf] at h;cases x with
   | inl s' => exact loopN_mono h (by omega)
   | inr r' => exact h
theorem loopO_of {n : Nat} {s : σ} {r : ρ} (h : loopN f n s = some r) : loopO f s = some r := by
 have hex : ∃ n r, loopN f n s = some r := ⟨n, r, h⟩
 cases hl : loopO f s with
 | none => exfalso; unfold loopO at hl; rw [dif_pos hex] at hl; cases hl
 | some r' =>
  obtain ⟨m, hm⟩ := loopO_some hl;have h1 := loopN_mono h (Nat.le_max_left n m);have h2 := loopN_mono hm (Nat.le_max_right n m);rw [<- h1, <- h2]
theorem loopO_inl {s s' : σ} (h : f s = some (.inl s')) : loopO f s = loopO f s' := by
 cases hl : loopO f s' with
 | some r =>
  obtain ⟨n, hn⟩ := loopO_some hl;exact loopO_of (n := n + 1) (by simp [loopN, h, hn])
 | none =>
  cases hl2 : loopO f s with
  | none => rfl
  | some r =>
   obtain ⟨n, hn⟩ := loopO_some hl2;cases n with
   | zero => simp [loopN] at hn
   | succ n =>
    simp only [loopN, h] at hn;rw [loopO_of hn] at hl;cases hl
theorem loopO_inr {s : σ} {r : ρ} (h : f s = some (.inr r)) : loopO f s = some r := loopO_of (n := 1) (by simp [loopN, h])
theorem loop_inv (n : Nat) (I : Nat -> σ -> Prop) (Q : ρ -> Prop)
  (hs : ∀ i s, i <= n -> I i s -> (∃ s', f s = some (.inl s') /\ i < n /\ I (i + 1) s') \/ (∃ r, f s = some (.inr r) /\ Q r)) {s : σ} (h0 : I 0 s) : ∃ r, loopO f s = some r /\ Q r := by
 have h : ∀ k i s, n - i = k -> i <= n -> I i s -> ∃ r, loopO f s = some r /\ Q r := by
  intro k;induction k with
  | zero =>
   intro i s hk hi hI;rcases hs i s hi hI with ⟨s', _, h, _⟩ | ⟨r, h, hq⟩
   ·omega
   ·exact ⟨r, loopO_inr h, hq⟩
  | succ k ih =>
   intro i s hk hi hI;rcases hs i s hi hI with ⟨s', h, hlt, hI'⟩ | ⟨r, h, hq⟩
   ·obtain ⟨r, hr, hq⟩ := ih (i + 1) s' (by omega) (by omega) hI';exact ⟨r, by rw [loopO_inl h, hr], hq⟩
   ·exact ⟨r, loopO_inr h, hq⟩
 exact h n 0 s (by omega) (by omega) h0
end
def findI {α ρ : Type} (g : Nat -> α -> Option ρ) : Nat -> List α -> Option ρ
 | _, [] => none
 | k, a :: l => match g k a with
  | some r => some r
  | none => findI g (k + 1) l
def toSum {ρ : Type} : Option ρ -> Unit ⊕ ρ
 | some r => .inr r
 | none => .inl ()
def stp {ρ : Type} (i : Nat) : Option ρ -> Int ⊕ (Unit ⊕ ρ)
 | some r => .inr (.inr r)
 | none => .inl ((i : Int) + 1)
theorem loop_list {α ρ : Type} (l : List α) {f : Int -> Option (Int ⊕ (Unit ⊕ ρ))} (g : Nat -> α -> Option ρ)
  (h : ∀ (i : Nat) (a : α), l[i]? = some a -> f i = some (stp i (g i a)))
  (he : f l.length = some (.inr (.inl ()))) : loopO f 0 = some (toSum (findI g 0 l)) := by
 have key : ∀ (l2 l1 : List α), l1 ++ l2 = l -> loopO f (l1.length : Nat) = some (toSum (findI g l1.length l2)) := by
  intro l2;induction l2 with
  | nil =>
   intro l1 e;have : l1 = l := by simpa using e
   subst this;rw [loopO_inr he]; rfl
  | cons a l2 ih =>
   intro l1 e;have hi : l[l1.length]? = some a := by rw [<- e]; simp
   have hf := h _ _ hi;simp only [findI];cases hg : g l1.length a with
   | some r => rw [hg] at hf; rw [loopO_inr hf]; rfl
   | none =>
    rw [hg] at hf;rw [loopO_inl hf];have := ih (l1 ++ [a]) (by simp [e]);simpa using this
 simpa using key l [] rfl
def foldI {α β : Type} (g : Nat -> β -> α -> β) : Nat -> β -> List α -> β
 | _, b, [] => b
 | k, b, a :: l => foldI g (k + 1) (g k b a) l
theorem loop_fold {α β ρ : Type} (l : List α) {f : β × Int -> Option ((β × Int) ⊕ ρ)} (g : Nat -> β -> α -> β) (fin : β -> ρ) (I : Nat -> β -> Prop) {b0 : β} (h0 : I 0 b0)
  (h : ∀ (i : Nat) (a : α) (b : β), l[i]? = some a -> I i b -> f (b, (i : Int)) = some (.inl (g i b a, (i : Int) + 1)) /\ I (i + 1) (g i b a))
  (he : ∀ b, I l.length b -> f (b, (l.length : Int)) = some (.inr (fin b))) : loopO f (b0, 0) = some (fin (foldI g 0 b0 l)) := by
 have key : ∀ (l2 l1 : List α) (b : β), l1 ++ l2 = l -> I l1.length b -> loopO f (b, ((l1.length : Nat) : Int)) = some (fin (foldI g l1.length b l2)) := by
  intro l2;induction l2 with
  | nil =>
   intro l1 b e hI;have : l1 = l := by simpa using e
   subst this;rw [loopO_inr (he b hI)]; rfl
  | cons a l2 ih =>
   intro l1 b e hI;have hi : l[l1.length]? = some a := by rw [<- e]; simp
   obtain ⟨hf, hI'⟩ := h _ _ _ hi hI;rw [loopO_inl hf];have := ih (l1 ++ [a]) (g l1.length b a) (by simp [e]) (by simpa using hI');simpa [foldI] using this
 simpa using key l [] b0 rfl (by simpa using h0)
end Go.Tx
end
section
namespace Go.Tx
open Go
def Ok {α : Type} (o : Option α) (Q : α -> Prop) : Prop := ∃ a, o = some a /\ Q a
section
variable {α β σ ρ τ : Type}
theorem ok_some {a : α} {Q : α -> Prop} : Ok (some a) Q ↔ Q a := ⟨fun ⟨_, h, hq⟩ => by cases h; exact hq, fun h => ⟨a, rfl, h⟩⟩
theorem ok_none {Q : α -> Prop} : Ok (none : Option α) Q ↔ False := ⟨fun ⟨_, h, _⟩ => (by cases h), fun h => h.elim⟩
theorem ok_eq {o : Option α} {a : α} : Ok o (fun r => r = a) ↔ o = some a := ⟨fun ⟨_, h, hq⟩ => by rw [h, hq], fun h => ⟨a, h, rfl⟩⟩
theorem Ok.eq {o : Option α} {a : α} (h : Ok o (fun r => r = a)) : o = some a := ok_eq.1 h
theorem Ok.mono {o : Option α} {P Q : α -> Prop} (h : Ok o P) (hq : ∀ a, P a -> Q a) : Ok o Q := by obtain ⟨a, h1, h2⟩ := h; exact ⟨a, h1, hq a h2⟩
theorem Ok.bind {o : Option α} {k : α -> Option β} {P : α -> Prop} {Q : β -> Prop} (h : Ok o P) (hk : ∀ a, P a -> Ok (k a) Q) : Ok (o.bind k) Q := by
 obtain ⟨a, h1, h2⟩ := h; rw [h1]; exact hk a h2
theorem ok_bind {o : Option α} {k : α -> Option β} {Q : β -> Prop} : Ok (o.bind k) Q ↔ Ok o fun a => Ok (k a) Q := by
 cases o with
 | none => simp [ok_none]
 | some a => simp [ok_some]
theorem app_in {l l2 : List α} (h : l.length + l2.length <= 4294967296) : app l l2 = some (l ++ l2) := app_of h
theorem app_one {l : List α} {a : α} (h : l.length <= 4294967295) : app l [a] = some (l ++ [a]) := app_of (by simp; omega)
theorem app_nil {l2 : List α} (h : l2.length <= 4294967296) : app [] l2 = some l2 := by rw [app_of (by simpa using h)]; rfl
theorem slc_in {l : List α} {a b : Int} (h : 0 <= a /\ a <= b /\ b <= l.length) : slc l a b = some ((l.take b.toNat).drop a.toNat) := by unfold slc; rw [if_pos h]
def Rnd (o : Option (σ ⊕ ρ)) (I : σ -> Prop) (Q : ρ -> Prop) : Prop := Ok o fun x => match x with
 | .inl s => I s
 | .inr r => Q r
theorem rnd_inl {s : σ} {I : σ -> Prop} {Q : ρ -> Prop} : Rnd (some (.inl s)) I Q ↔ I s := ok_some
theorem rnd_inr {r : ρ} {I : σ -> Prop} {Q : ρ -> Prop} : Rnd (some (.inr r) : Option (σ ⊕ ρ)) I Q ↔ Q r := ok_some
theorem loop_up {f : σ -> Option (σ ⊕ ρ)} (n : Nat) (I : Nat -> σ -> Prop) (Q : ρ -> Prop) {s : σ} (h0 : I 0 s)
  (hs : ∀ i s, i <= n -> I i s -> Rnd (f s) (fun s' => i < n /\ I (i + 1) s') Q) : Ok (loopO f s) Q := by
 obtain ⟨r, h1, h2⟩ := loop_inv n I Q (fun i s hi hI => by
  obtain ⟨x, hx, h⟩ := hs i s hi hI;cases x with
  | inl s' => exact .inl ⟨s', hx, h⟩
  | inr r => exact .inr ⟨r, hx, h⟩) h0
 exact ⟨r, h1, h2⟩
theorem ok_elim {o : Option (α ⊕ β)} {k : α -> Option β} {Q : β -> Prop} : Ok (o.bind (Sum.elim k some)) Q ↔ Ok o fun x => match x with
  | .inl a => Ok (k a) Q
  | .inr b => Q b := by
 rw [ok_bind];cases o with
 | none => simp [ok_none]
 | some x => cases x <;> simp [ok_some]
end
theorem rnd_elim {α σ ρ : Type} {o : Option (α ⊕ (σ ⊕ ρ))} {k : α -> Option (σ ⊕ ρ)} {I : σ -> Prop} {Q : ρ -> Prop} : Rnd (o.bind (Sum.elim k some)) I Q ↔ Ok o fun x => match x with
  | .inl a => Rnd (k a) I Q
  | .inr b => match b with
   | .inl s => I s
   | .inr r => Q r := by
 cases o with
 | none => simp [Rnd, ok_none]
 | some x => cases x with
  | inl a => simp only [Option.bind_some, Sum.elim_inl, ok_some]
  | inr b => simp only [Option.bind_some, Sum.elim_inr, ok_some]; unfold Rnd; rw [ok_some]
theorem getD_at {α : Type} {l : List α} {i : Nat} {a d : α} (h : l[i]? = some a) : l.getD i d = a := by simp [h]
theorem take_next {α : Type} {l : List α} {i : Nat} (d : α) (h : i < l.length) : l.take (i + 1) = l.take i ++ [l.getD i d] := by
 rw [List.take_add_one]; simp [h]
end Go.Tx
end
section
namespace Go.Tx
open Go
section
variable {α β ρ τ : Type}
theorem len_lt {l : List α} {i : Nat} {a : α} (h : l[i]? = some a) : i < l.length := (List.getElem?_eq_some_iff.1 h).1
theorem for_find (l : List α) (K : Int -> Option (Int ⊕ (Unit ⊕ ρ))) (g : Nat -> α -> Option ρ) (h : ∀ (i : Nat) (a : α), l[i]? = some a -> K i = some (stp i (g i a))) :
  loopO (fun s => bif decide (s < (l.length : Int)) then K s else some (.inr (.inl ()))) 0 = some (toSum (findI g 0 l)) := by
 refine loop_list l g (fun i a hi => ?_) ?_
 ·have := len_lt hi;have e : decide ((i : Int) < (l.length : Int)) = true := by simp <;> omega
  simp only [e, cond_true];exact h i a hi
 ·simp
theorem elim_toSum {o : Option ρ} {k : Unit -> Option ρ} : (some (toSum o)).bind (Sum.elim k some) = (match o with
  | some r => some r
  | none => k ()) := by cases o <;> rfl
theorem findI_none {g : Nat -> α -> Option ρ} : ∀ {l : List α} {k : Nat}, findI g k l = none ↔ ∀ i a, l[i]? = some a -> g (k + i) a = none
 | [], k => by simp [findI]
 | a :: l, k => by
  simp only [findI];cases hg : g k a with
  | some r =>
   simp only [reduceCtorEq, false_iff];intro h;have := h 0 a rfl;simp [hg] at this
  | none =>
   simp only
   rw [findI_none (l := l) (k := k + 1)];constructor
   ·intro h i b hb;cases i with
    | zero => simp at hb; subst hb; simpa using hg
    | succ i => have := h i b (by simpa using hb); rw [<- this]; congr 1; omega
   ·intro h i b hb;have := h (i + 1) b (by simpa using hb);rw [<- this]; congr 1; omega
theorem findI_some {g : Nat -> α -> Option ρ} {r : ρ} : ∀ {l : List α} {k : Nat}, findI g k l = some r -> ∃ i a, l[i]? = some a /\ g (k + i) a = some r /\ ∀ j b, j < i -> l[j]? = some b -> g (k + j) b = none
 | [], k, h => by simp [findI] at h
 | a :: l, k, h => by
  simp only [findI] at h;cases hg : g k a with
  | some r' =>
   rw [hg] at h;simp only [Option.some.injEq] at h;subst h;exact ⟨0, a, rfl, by simpa using hg, fun j b hj => by omega⟩
  | none =>
   rw [hg] at h;obtain ⟨i, b, h1, h2, h3⟩ := findI_some (l := l) (k := k + 1) h;refine ⟨i + 1, b, by simpa using h1, by rw [<- h2]; congr 1; omega, fun j c hj hc => ?_⟩;cases j with
   | zero => simp at hc; subst hc; simpa using hg
   | succ j => have := h3 j c (by omega) (by simpa using hc); rw [<- this]; congr 1; omega
theorem for_idx (l : List α) (p : α -> Bool) (hl : l.length <= 1000000000) :
  Ok ((loopO (fun (s2 : Int) =>
   bif decide (s2 < (l.length : Int)) then
    (idx l s2).bind fun x3 =>
    bif p x3 then
     some (.inr (.inr s2))
    else
     some (.inl (IntKind.wrap .i64 (s2 + 1)))
   else
    some (.inr (.inl ()))) 0).bind (Sum.elim (fun (p5 : Unit) =>
  some (-1)) some)) fun r => decide (r >= 0) = l.any p := by
 rw [for_find l _ (fun i a => if p a then some (i : Int) else none) (fun i a hi => by
  have := len_lt hi;rw [idx_of hi];simp only [Option.bind_some];cases hp : p a
  ·simp only [cond_false, Bool.false_eq_true, if_false, stp]; rw [wrap_id (by omega) (by omega)]
  ·simp [stp]), elim_toSum]
 cases hf : findI (fun i a => if p a then some (i : Int) else none) 0 l with
 | none =>
  rw [findI_none] at hf;have : l.any p = false := by
   rw [List.any_eq_false];intro x hx;obtain ⟨i, hi⟩ := List.mem_iff_getElem?.1 hx;have := hf i x hi;simpa using this
  exact ⟨_, rfl, by rw [this]; rfl⟩
 | some r =>
  obtain ⟨i, a, h1, h2, _⟩ := findI_some hf;have hp : p a = true := by
   cases hp : p a
   ·simp [hp] at h2
   ·rfl
  have : l.any p = true := List.any_eq_true.2 ⟨a, List.mem_of_getElem? h1, hp⟩;simp only [hp, if_true, Option.some.injEq] at h2;exact ⟨_, rfl, by rw [this]; simp; omega⟩
def fst0 : List Int -> Int
 | [] => 0
 | e :: l => if e = 0 then fst0 l else e
theorem findI_fst0 : ∀ (l : List Int) (k : Nat), findI (fun _ e => if e = 0 then none else some e) k l = if fst0 l = 0 then none else some (fst0 l)
 | [], k => rfl
 | e :: l, k => by
  simp only [findI, fst0];by_cases h : e = 0
  ·simp only [h, if_true]; exact findI_fst0 l (k + 1)
  ·simp [h]
theorem for_first (l : List Int) (hl : l.length <= 1000000000) :
  (loopO (fun (s2 : Int) =>
   bif decide (s2 < (l.length : Int)) then
    (idx l s2).bind fun x3 =>
    bif !(decide (x3 = 0)) then
     some (.inr (.inr x3))
    else
     some (.inl (IntKind.wrap .i64 (s2 + 1)))
   else
    some (.inr (.inl ()))) 0).bind (Sum.elim (fun (p4 : Unit) => some 0) some) = some (fst0 l) := by
 rw [for_find l _ (fun _ e => if e = 0 then none else some e) (fun i a hi => by
  have := len_lt hi;rw [idx_of hi];simp only [Option.bind_some];by_cases h : a = 0
  ·simp only [h, decide_true, Bool.not_true, cond_false, if_true, stp]; rw [wrap_id (by omega) (by omega)]
  ·simp [h, stp]), elim_toSum, findI_fst0]
 by_cases h : fst0 l = 0
 ·simp [h]
 ·simp [h]
def eachE (g : Nat -> α -> Int) : Nat -> List α -> Int × Int
 | _, [] => (0, 0)
 | k, a :: l => if g k a = 0 then eachE g (k + 1) l else ((k : Int), g k a)
theorem findI_each (g : Nat -> α -> Int) : ∀ (l : List α) (k : Nat), (match findI (fun i a => if g i a = 0 then none else some ((i : Int), g i a)) k l with
  | some r => some r
  | none => some (0, 0)) = some (eachE g k l)
 | [], k => rfl
 | a :: l, k => by
  simp only [findI, eachE];by_cases h : g k a = 0
  ·simp only [h, if_true]; exact findI_each g l (k + 1)
  ·simp [h]
theorem for_each (l : List α) (cb : Int -> α -> Option Int) (g : Nat -> α -> Int) (h : ∀ (i : Nat) a, l[i]? = some a -> cb i a = some (g i a)) (hl : l.length <= 1000000000) :
  (loopO (fun (s2 : Int) =>
   bif decide (s2 < (l.length : Int)) then
    (idx l s2).bind fun x3 =>
    (cb s2 x3).bind fun x4 =>
    bif !(decide (x4 = 0)) then
     some (.inr (.inr (s2, x4)))
    else
     some (.inl (IntKind.wrap .i64 (s2 + 1)))
   else
    some (.inr (.inl ()))) 0).bind (Sum.elim (fun (p5 : Unit) =>
  some (0, 0)) some) = some (eachE g 0 l) := by
 rw [for_find l _ (fun i a => if g i a = 0 then none else some ((i : Int), g i a)) (fun i a hi => by
  have := len_lt hi;rw [idx_of hi];simp only [Option.bind_some];rw [h i a hi];simp only [Option.bind_some];by_cases h : g i a = 0
  ·simp only [h, decide_true, Bool.not_true, cond_false, if_true, stp]; rw [wrap_id (by omega) (by omega)]
  ·simp [h, stp]), elim_toSum, <- findI_each g l 0]
 cases findI (fun i a => if g i a = 0 then none else some ((i : Int), g i a)) 0 l <;> rfl
theorem eachE_zero {g : Nat -> α -> Int} : ∀ {l : List α} {k : Nat}, (eachE g k l).2 = 0 ↔ ∀ i a, l[i]? = some a -> g (k + i) a = 0
 | [], k => by simp [eachE]
 | a :: l, k => by
  simp only [eachE];by_cases h : g k a = 0
  ·rw [if_pos h, eachE_zero];constructor
   ·intro hh i b hb;cases i with
    | zero => simp at hb; subst hb; simpa using h
    | succ i => have := hh i b (by simpa using hb); rw [<- this]; congr 1; omega
   ·intro hh i b hb;have := hh (i + 1) b (by simpa using hb);rw [<- this]; congr 1; omega
  ·rw [if_neg h];constructor
   ·intro hh; exact absurd hh h
   ·intro hh; exact absurd (by simpa using hh 0 a rfl) h
end
end Go.Tx
end
section
namespace Go.Tx
open Go
end Go.Tx
end
section
namespace Go.Tx
open Go
section
variable {α : Type}
end
end Go.Tx
end
section
namespace Go.Tx
open Go
section
variable {α β : Type}
theorem for_map {K : List β × Int -> Option ((List β × Int) ⊕ List β)} (l : List α) (f : α -> β)
  (h : ∀ (i : Nat) a out, l[i]? = some a -> out.length = i -> K (out, (i : Int)) = some (.inl (out ++ [f a], (i : Int) + 1))) (he : ∀ out, out.length = l.length -> K (out, (l.length : Int)) = some (.inr out)) : loopO K ([], 0) = some (l.map f) := by
 refine Ok.eq (loop_up l.length (fun i (s : List β × Int) => s = ((l.take i).map f, (i : Int))) (fun r => r = l.map f) (by simp) ?_);rintro i s hi rfl;by_cases hlt : i < l.length
 ·have ha : l[i]? = some l[i] := by simp [hlt]
  rw [h i _ _ ha (by simp; omega), rnd_inl];refine ⟨hlt, ?_⟩;have e : (l.take (i + 1)).map f = (l.take i).map f ++ [f l[i]] := by rw [List.take_add_one, ha]; simp only [List.map_append, Option.toList_some, List.map_cons, List.map_nil]
  rw [e]; rfl
 ·have : i = l.length := by omega
  subst this;rw [he _ (by simp), rnd_inr];simp
end
end Go.Tx
end
section
set_option maxRecDepth 100000
namespace Go.Proofs.YtkcaaaiihhhnmaaGreat
open Go Go.Ab Go.Tx
noncomputable section
@[reducible] def I : Ty := .int .i64
@[reducible] def w64 (n : Int) : Int := IntKind.wrap .i64 n
def lookJ : List (List Tmp × FuncId × Kind × Join) -> List Tmp -> FuncId -> Kind -> Option Join
 | [], _, _, _ => none
 | (c, f, k, j) :: l, c', f', k' => if f = f' then (if k = k' then (if c = c' then some j else lookJ l c' f' k') else lookJ l c' f' k') else lookJ l c' f' k'
def awakeId : Nat := 12
def mkTH (js : List (List Tmp × FuncId × Kind × Join)) (inl : List (List Tmp × FuncId × Tmp)) : TH where
 lib := fun g => decide (g = awakeId)
 join := lookJ js
 inl := fun c f d => inl.any fun (c', f', d') => decide (f = f') && decide (d = d') && decide (c = c')
def Lb : FuncId -> Option (List V -> Option V) := fun g => if g = awakeId then some (fun args => match args with
  | [] => some (.val (.bool true))
  | _ => none) else none
theorem hJ {js : List (List Tmp × FuncId × Kind × Join)} {inl : List (List Tmp × FuncId × Tmp)} : ∀ g, (mkTH js inl).lib g = false -> Lb g = none := fun g h => by
 simp only [mkTH, decide_eq_false_iff_not] at h;simp [Lb, h]
def KT (e : Entry) (j : TH) (l : List Entry) (n : Nat) : Prop := ∀ x : denP e.ps, fnT Tryz.prog Hn.hints j (tabT l) n e.g (ofPms e.ps x) e.rs = e.F x
abbrev OT (e : Entry) : Prop := EntryOk Tryz.prog Hn.hints Lb e
theorem entK {e : Entry} {j : TH} {l : List Entry} {n : Nat} (h : TOk Tryz.prog Hn.hints Lb (tabT l)) (hj : ∀ g, j.lib g = false -> Lb g = none) (k : KT e j l n) : OT e := entry_ok h hj n e.g e.ps e.rs e.F k
abbrev gT : Ty := .pair I (.pair I .unit)
def law09_awake : Option Bool := some true
def e_law09_awake : Entry := ⟨12, [], [(.bool, 0)], fun _ => law09_awake⟩
theorem o_law09_awake : EntryOk Tryz.prog Hn.hints Lb e_law09_awake := fun x y h vs hv => by
 obtain rfl : true = y := Option.some.inj h;simp only [e_law09_awake, ofPms, RVL] at hv;subst hv;refine ⟨.val (.bool true), ⟨1, fun m hm => ?_⟩, by simp [packT, e_law09_awake, ofL, packedT, ofTy, RV, RTy]⟩;obtain ⟨m', rfl⟩ : ∃ m', m = m' + 1 := ⟨m - 1, by omega⟩
 simp [orcN, Lb, awakeId, e_law09_awake]
def safety_within (a0 : Int) (a1 : Int) (a2 : Int) : Option Bool :=
 (bif decide (a1 <= a0) then
   some (decide (a0 <= a2))
  else
   some false).bind fun (p1 : Bool) =>
 some p1
def e_safety_within : Entry := ⟨84, [.ty I, .ty I, .ty I], [(.bool, 0)], fun x => safety_within x.1 x.2.1 x.2.2⟩
def j_safety_within : TH := mkTH [([], 84, .region 1, { lv := [⟨none, 6, 0⟩], ps := [(.bool, 0)], D := ⟨32704⟩ })] []
theorem k_safety_within : KT e_safety_within j_safety_within [] 40 := fun x => by kernel_rfl
theorem o_safety_within : OT e_safety_within := entK tab_nil hJ k_safety_within
def safety_isSized (a0 : Int) (a1 : Int) : Option Bool :=
 (safety_within a0 (w64 (0 - a1)) a1).bind fun x1 =>
 some x1
def e_safety_isSized : Entry := ⟨94, [.ty I, .ty I], [(.bool, 0)], fun x => safety_isSized x.1 x.2⟩
def j_safety_isSized : TH := mkTH [] []
theorem k_safety_isSized : KT e_safety_isSized j_safety_isSized [e_safety_within] 40 := fun x => by kernel_rfl
theorem o_safety_isSized : OT e_safety_isSized := entK (tab_cons o_safety_within tab_nil) hJ k_safety_isSized
def safety_unless (a0 : Bool) (a1 : Int) : Option Int :=
 bif a0 then
  some 0
 else
  some a1
def e_safety_unless : Entry := ⟨72, [.ty .bool, .ty I], [(I, 0)], fun x => safety_unless x.1 x.2⟩
def j_safety_unless : TH := mkTH [] []
theorem k_safety_unless : KT e_safety_unless j_safety_unless [] 40 := fun x => by kernel_rfl
theorem o_safety_unless : OT e_safety_unless := entK tab_nil hJ k_safety_unless
def safety_first (a0 : (List Int)) : Option Int :=
 (loopO (fun (s2 : Int) =>
   bif decide (s2 < (a0.length : Int)) then
    (idx a0 s2).bind fun x3 =>
    bif !(decide (x3 = 0)) then
     some (.inr (.inr x3))
    else
     some (.inl (w64 (s2 + 1)))
   else
    some (.inr (.inl ()))) 0).bind (Sum.elim (fun (p4 : Unit) =>
 some 0) some)
def e_safety_first : Entry := ⟨71, [.ty (.sl I)], [(I, 0)], fun x => safety_first x⟩
def j_safety_first : TH := mkTH [([], 71, .block 0, { lv := [], ps := [], abn := true, D := ⟨32656⟩ }),
 ([], 71, .loop 0, { lv := [⟨none, 7, 0⟩], ps := [(I, 0)], D := ⟨32656⟩ })] []
theorem k_safety_first : KT e_safety_first j_safety_first [] 40 := fun x => by kernel_rfl
theorem o_safety_first : OT e_safety_first := entK tab_nil hJ k_safety_first
def base_Within (a0 : Int) (a1 : Int) (a2 : Int) : Option Bool :=
 (bif decide (a1 <= a0) then
   some (decide (a0 <= a2))
  else
   some false).bind fun (p1 : Bool) =>
 some p1
def e_base_Within : Entry := ⟨18, [.ty I, .ty I, .ty I], [(.bool, 0)], fun x => base_Within x.1 x.2.1 x.2.2⟩
def j_base_Within : TH := mkTH [([], 18, .region 1, { lv := [⟨none, 6, 0⟩], ps := [(.bool, 0)], D := ⟨32704⟩ })] []
theorem k_base_Within : KT e_base_Within j_base_Within [] 40 := fun x => by kernel_rfl
theorem o_base_Within : OT e_base_Within := entK tab_nil hJ k_base_Within
def base_Mod (a0 : Int) (a1 : Int) : Option Int :=
 bif decide (a1 = 0) then
  none
 else
  (bif decide (a0.tmod a1 < 0) then
    some (w64 ((a0.tmod a1) + a1))
   else
    some (a0.tmod a1)).bind fun (p1 : Int) =>
  some p1
def e_base_Mod : Entry := ⟨19, [.ty I, .ty I], [(I, 0)], fun x => base_Mod x.1 x.2⟩
def j_base_Mod : TH := mkTH [([], 19, .cond 9, { lv := [⟨none, 0, 0⟩], ps := [(I, 0)], D := ⟨7169⟩ })] []
theorem k_base_Mod : KT e_base_Mod j_base_Mod [] 40 := fun x => by kernel_rfl
theorem o_base_Mod : OT e_base_Mod := entK tab_nil hJ k_base_Mod
def law09_fewGates (a0 : (List ((List UInt8) × (List (List UInt8)) × Int × Unit))) : Option Bool :=
 bif decide ((a0.length : Int) > 8) then
  some false
 else
  (loopO (fun (s2 : Int) =>
    bif decide (s2 < (a0.length : Int)) then
     ((idx a0 s2).bind fun x3 =>
      bif decide ((x3.1.length : Int) > 30) then
       some true
      else
       (idx a0 s2).bind fun x4 =>
       some (decide ((x4.2.1.length : Int) > 6))).bind fun (p5 : Bool) =>
     bif p5 then
      some (.inr (.inr false))
     else
      (loopO (fun (s7 : Int) =>
        (idx a0 s2).bind fun x8 =>
        bif decide (s7 < (x8.2.1.length : Int)) then
         (idx a0 s2).bind fun x9 =>
         (idx x9.2.1 s7).bind fun x10 =>
         bif decide ((x10.length : Int) > 30) then
          some (.inr (.inr (.inr (.inr false))))
         else
          some (.inl (w64 (s7 + 1)))
        else
         some (.inr (.inl ()))) 0).bind (Sum.elim (fun (p11 : Unit) =>
      some (.inl (w64 (s2 + 1)))) some)
    else
     some (.inr (.inl ()))) 0).bind (Sum.elim (fun (p12 : Unit) =>
  some true) some)
def e_law09_fewGates : Entry := ⟨20, [.ty (.sl (.pair .str (.pair (.sl .str) (.pair I .unit))))], [(.bool, 0)], fun x => law09_fewGates x⟩
def j_law09_fewGates : TH := mkTH [([], 20, .block 0, { lv := [], ps := [], abn := true, D := ⟨1125899906842392⟩ }),
 ([], 20, .loop 0, { lv := [⟨none, 3, 0⟩], ps := [(I, 0)], D := ⟨1125899906842392⟩ }),
 ([], 20, .region 6, { lv := [⟨none, 29, 0⟩], ps := [(.bool, 0)], D := ⟨1073725440⟩ }),
 ([], 20, .block 2, { lv := [], ps := [], abn := true, D := ⟨1125898833100816⟩ }),
 ([], 20, .loop 2, { lv := [⟨none, 4, 0⟩], ps := [(I, 0)], D := ⟨1125898833100816⟩ })] []
theorem k_law09_fewGates : KT e_law09_fewGates j_law09_fewGates [] 40 := fun x => by kernel_rfl
theorem o_law09_fewGates : OT e_law09_fewGates := entK tab_nil hJ k_law09_fewGates
def base_CopyTexts (a0 : (List (List UInt8))) : Option (List (List UInt8)) :=
 (app [] a0).bind fun x1 =>
 some x1
def e_base_CopyTexts : Entry := ⟨85, [.ty (.sl .str)], [((.sl .str), 1)], fun x => base_CopyTexts x⟩
def j_base_CopyTexts : TH := mkTH [] []
theorem k_base_CopyTexts : KT e_base_CopyTexts j_base_CopyTexts [] 40 := fun x => by kernel_rfl
theorem o_base_CopyTexts : OT e_base_CopyTexts := entK tab_nil hJ k_base_CopyTexts
def ref09_CopyGates (a0 : (List ((List UInt8) × (List (List UInt8)) × Int × Unit))) : Option (List ((List UInt8) × (List (List UInt8)) × Int × Unit)) :=
 (loopO (fun (s3 : ((List ((List UInt8) × (List (List UInt8)) × Int × Unit)) × Int)) =>
   bif decide (s3.2 < (a0.length : Int)) then
    (idx a0 s3.2).bind fun x4 =>
    (idx a0 s3.2).bind fun x5 =>
    (idx a0 s3.2).bind fun x6 =>
    (base_CopyTexts x6.2.1).bind fun x7 =>
    (app s3.1 ([(x4.1, x7, x5.2.2.1, ())])).bind fun x8 =>
    some (.inl (x8, w64 (s3.2 + 1)))
   else
    some (.inr s3.1)) ([], 0)).bind fun (p9 : (List ((List UInt8) × (List (List UInt8)) × Int × Unit))) =>
 some p9
def e_ref09_CopyGates : Entry := ⟨23, [.ty (.sl (.pair .str (.pair (.sl .str) (.pair I .unit))))], [((.sl (.pair .str (.pair (.sl .str) (.pair I .unit)))), 2)], fun x => ref09_CopyGates x⟩
def j_ref09_CopyGates : TH := mkTH [([], 23, .block 0, { lv := [⟨none, 3, 0⟩], ps := [((.sl (.pair .str (.pair (.sl .str) (.pair I .unit)))), 2)], D := ⟨2147483640⟩ }),
 ([], 23, .loop 0, { lv := [⟨none, 3, 0⟩, ⟨none, 4, 0⟩], ps := [((.sl (.pair .str (.pair (.sl .str) (.pair I .unit)))), 2), (I, 0)], D := ⟨2147483640⟩ })] []
theorem k_ref09_CopyGates : KT e_ref09_CopyGates j_ref09_CopyGates [e_base_CopyTexts] 40 := fun x => by kernel_rfl
theorem o_ref09_CopyGates : OT e_ref09_CopyGates := entK (tab_cons o_base_CopyTexts tab_nil) hJ k_ref09_CopyGates
def safety_isName (a0 : (List UInt8)) : Option Bool :=
 (loopO (fun (s2 : Int) =>
   bif decide (s2 < (a0.length : Int)) then
    (idx a0 s2).bind fun x3 =>
    ((safety_within (w64 ((x3.toNat : Int))) (97 : Int) (122 : Int)).bind fun x4 =>
     bif x4 then
      some true
     else
      (safety_within (w64 ((x3.toNat : Int))) (65 : Int) (90 : Int)).bind fun x5 =>
      some x5).bind fun (p6 : Bool) =>
    (bif !p6 then
      bif decide (s2 = 0) then
       some true
      else
       bif !(decide (w64 ((x3.toNat : Int)) = 45)) then
        (safety_within (w64 ((x3.toNat : Int))) (48 : Int) (57 : Int)).bind fun x7 =>
        some (!x7)
       else
        some false
     else
      some false).bind fun (p8 : Bool) =>
    bif p8 then
     some (.inr (.inr false))
    else
     some (.inl (w64 (s2 + 1)))
   else
    some (.inr (.inl ()))) 0).bind (Sum.elim (fun (p9 : Unit) =>
 (safety_within (a0.length : Int) (1 : Int) (12 : Int)).bind fun x10 =>
 some x10) some)
def e_safety_isName : Entry := ⟨138, [.ty .str], [(.bool, 0)], fun x => safety_isName x⟩
def j_safety_isName : TH := mkTH [([], 138, .block 0, { lv := [], ps := [], abn := true, D := ⟨137438953272⟩ }),
 ([], 138, .loop 0, { lv := [⟨none, 8, 0⟩], ps := [(I, 0)], D := ⟨137438953272⟩ }),
 ([], 138, .region 5, { lv := [⟨none, 5, 0⟩], ps := [(.bool, 0)], D := ⟨2064416⟩ }),
 ([], 138, .region 6, { lv := [⟨none, 35, 0⟩], ps := [(.bool, 0)], D := ⟨68717379584⟩ })] []
theorem k_safety_isName : KT e_safety_isName j_safety_isName [e_safety_within] 40 := fun x => by kernel_rfl
theorem o_safety_isName : OT e_safety_isName := entK (tab_cons o_safety_within tab_nil) hJ k_safety_isName
def safety_CheckGates (a0 : (List ((List UInt8) × (List (List UInt8)) × Int × Unit))) : Option (Int × Int) :=
 (safety_unless (decide ((a0.length : Int) > 0)) (10 : Int)).bind fun x1 =>
 (safety_unless (decide ((a0.length : Int) <= 6)) (8 : Int)).bind fun x2 =>
 (safety_first ([x1, x2])).bind fun x3 =>
 bif !(decide (x3 = 0)) then
  some (0, x3)
 else
  ((loopO (fun (s5 : (Int × (List (List UInt8)))) =>
     bif decide (s5.1 < (a0.length : Int)) then
      (idx a0 s5.1).bind fun x6 =>
      (safety_isName x6.1).bind fun x7 =>
      (safety_unless x7 (4 : Int)).bind fun x8 =>
      (safety_unless (!(memK .str s5.2 x6.1)) (5 : Int)).bind fun x9 =>
      (safety_first ([x8, x9])).bind fun x10 =>
      (safety_unless (decide ((x6.2.1.length : Int) <= 4)) (8 : Int)).bind fun x11 =>
      (safety_first ([x10, x11])).bind fun x12 =>
      (loopO (fun (s14 : (Int × Int × (List (List UInt8)))) =>
        bif decide (s14.2.1 < (x6.2.1.length : Int)) then
         (idx x6.2.1 s14.2.1).bind fun x15 =>
         (safety_isName x15).bind fun x16 =>
         (safety_unless x16 (4 : Int)).bind fun x17 =>
         (safety_unless (!(memK .str s14.2.2 x15)) (23 : Int)).bind fun x18 =>
         (safety_first ([x17, x18])).bind fun x19 =>
         (safety_first ([s14.1, x19])).bind fun x20 =>
         some (.inl (x20, w64 (s14.2.1 + 1), insK .str s14.2.2 x15))
        else
         some (.inr s14.1)) (x12, 0, [])).bind fun (p21 : Int) =>
      (safety_within x6.2.2.1 (0 : Int) (20 : Int)).bind fun x22 =>
      (safety_unless x22 (2 : Int)).bind fun x23 =>
      (safety_first ([p21, x23])).bind fun x24 =>
      bif !(decide (x24 = 0)) then
       some (.inr (.inr (s5.1, x24, insK .str s5.2 x6.1)))
      else
       some (.inl (w64 (s5.1 + 1), insK .str s5.2 x6.1))
     else
      some (.inr (.inl s5.2))) (0, [])).bind (Sum.elim (fun (p25 : (List (List UInt8))) =>
   some (0, 0, p25)) some)).bind fun (p26 : (Int × Int × (List (List UInt8)))) =>
  some (p26.1, p26.2.1)
def e_safety_CheckGates : Entry := ⟨22, [.ty (.sl (.pair .str (.pair (.sl .str) (.pair I .unit))))], [(I, 0), (I, 0)], fun x => safety_CheckGates x⟩
def j_safety_CheckGates : TH := mkTH [([22], 82, .inl 0, { lv := [⟨none, 4, 0⟩, ⟨none, 5, 0⟩, ⟨some 0, 16403, 0⟩], ps := [(I, 0), (I, 0), ((.mset .str), 0)], D := ⟨33554416⟩, wr := [⟨0, 16403⟩, ⟨1, 7⟩], rs := [⟨0, 5⟩, ⟨1, 7⟩], Dn := ⟨33488752⟩ }),
 ([22], 82, .block 0, { lv := [⟨some 0, 16403, 0⟩], ps := [((.mset .str), 0)], abn := true, D := ⟨33552832⟩, wr := [⟨0, 16403⟩, ⟨1, 7⟩] }),
 ([22], 82, .loop 0, { lv := [⟨none, 11, 0⟩, ⟨some 0, 16403, 0⟩], ps := [(I, 0), ((.mset .str), 0)], D := ⟨33552832⟩, wr := [⟨0, 16403⟩, ⟨1, 7⟩], rs := [⟨0, 5⟩, ⟨1, 7⟩], Dn := ⟨33487168⟩ }),
 ([19, 22], 83, .block 0, { lv := [⟨none, 7, 0⟩], ps := [(I, 0)], D := ⟨68685922944⟩, wr := [⟨2, 16394⟩] }),
 ([19, 22], 83, .loop 0, { lv := [⟨none, 7, 0⟩, ⟨none, 25, 0⟩, ⟨some 2, 16394, 0⟩], ps := [(I, 0), (I, 0), ((.mset .str), 0)], D := ⟨68685922944⟩, wr := [⟨2, 16394⟩], rs := [⟨2, 16394⟩], Dn := ⟨67612181120⟩ })] []
theorem k_safety_CheckGates : KT e_safety_CheckGates j_safety_CheckGates [e_safety_first, e_safety_isName, e_safety_unless, e_safety_within] 40 := fun x => by kernel_rfl
theorem o_safety_CheckGates : OT e_safety_CheckGates := entK (tab_cons o_safety_first (tab_cons o_safety_isName (tab_cons o_safety_unless (tab_cons o_safety_within tab_nil)))) hJ k_safety_CheckGates
def ref09_CopySigns (a0 : (List (Int × (List UInt8) × (List UInt8) × Unit))) : Option (List (Int × (List UInt8) × (List UInt8) × Unit)) :=
 (app [] a0).bind fun x1 =>
 some x1
def e_ref09_CopySigns : Entry := ⟨25, [.ty (.sl (.pair I (.pair .str (.pair .str .unit))))], [((.sl (.pair I (.pair .str (.pair .str .unit)))), 1)], fun x => ref09_CopySigns x⟩
def j_ref09_CopySigns : TH := mkTH [] []
theorem k_ref09_CopySigns : KT e_ref09_CopySigns j_ref09_CopySigns [] 40 := fun x => by kernel_rfl
theorem o_ref09_CopySigns : OT e_ref09_CopySigns := entK tab_nil hJ k_ref09_CopySigns
def slices_Index_Lapi_SafetySign_api_SafetySign (a0 : (List (Int × (List UInt8) × (List UInt8) × Unit))) (a1 : (Int × (List UInt8) × (List UInt8) × Unit)) : Option Int :=
 (loopO (fun (s2 : Int) =>
   bif decide (s2 < (a0.length : Int)) then
    (idx a0 s2).bind fun x3 =>
    let v4 : Bool := (bif decide (a1.1 = x3.1) then (bif decide (a1.2.1 = x3.2.1) then (bif decide (a1.2.2.1 = x3.2.2.1) then true else false) else false) else false)
    bif v4 then
     some (.inr (.inr s2))
    else
     some (.inl (w64 (s2 + 1)))
   else
    some (.inr (.inl ()))) 0).bind (Sum.elim (fun (p5 : Unit) =>
 some (-1)) some)
def e_slices_Index_Lapi_SafetySign_api_SafetySign : Entry := ⟨155, [.ty (.sl (.pair I (.pair .str (.pair .str .unit)))), .ty (.pair I (.pair .str (.pair .str .unit)))], [(I, 0)], fun x => slices_Index_Lapi_SafetySign_api_SafetySign x.1 x.2⟩
def j_slices_Index_Lapi_SafetySign_api_SafetySign : TH := mkTH [([], 155, .block 0, { lv := [], ps := [], abn := true, D := ⟨524064⟩ }),
 ([], 155, .loop 0, { lv := [⟨none, 8, 0⟩], ps := [(I, 0)], D := ⟨524064⟩ })] []
theorem k_slices_Index_Lapi_SafetySign_api_SafetySign : KT e_slices_Index_Lapi_SafetySign_api_SafetySign j_slices_Index_Lapi_SafetySign_api_SafetySign [] 40 := fun x => by kernel_rfl
theorem o_slices_Index_Lapi_SafetySign_api_SafetySign : OT e_slices_Index_Lapi_SafetySign_api_SafetySign := entK tab_nil hJ k_slices_Index_Lapi_SafetySign_api_SafetySign
def slices_Contains_Lapi_SafetySign_api_SafetySign (a0 : (List (Int × (List UInt8) × (List UInt8) × Unit))) (a1 : (Int × (List UInt8) × (List UInt8) × Unit)) : Option Bool :=
 (slices_Index_Lapi_SafetySign_api_SafetySign a0 a1).bind fun x1 =>
 some (decide (x1 >= 0))
def e_slices_Contains_Lapi_SafetySign_api_SafetySign : Entry := ⟨141, [.ty (.sl (.pair I (.pair .str (.pair .str .unit)))), .ty (.pair I (.pair .str (.pair .str .unit)))], [(.bool, 0)], fun x => slices_Contains_Lapi_SafetySign_api_SafetySign x.1 x.2⟩
def j_slices_Contains_Lapi_SafetySign_api_SafetySign : TH := mkTH [] []
theorem k_slices_Contains_Lapi_SafetySign_api_SafetySign : KT e_slices_Contains_Lapi_SafetySign_api_SafetySign j_slices_Contains_Lapi_SafetySign_api_SafetySign [e_slices_Index_Lapi_SafetySign_api_SafetySign] 40 := fun x => by kernel_rfl
theorem o_slices_Contains_Lapi_SafetySign_api_SafetySign : OT e_slices_Contains_Lapi_SafetySign_api_SafetySign := entK (tab_cons o_slices_Index_Lapi_SafetySign_api_SafetySign tab_nil) hJ k_slices_Contains_Lapi_SafetySign_api_SafetySign
def safety_signsErr (a0 : Int) (a1 : (List (Int × (List UInt8) × (List UInt8) × Unit))) : Option Int :=
 bif decide ((a1.length : Int) > 20) then
  some 8
 else
  ((loopO (fun (s2 : Int) =>
     bif decide (s2 < (a1.length : Int)) then
      (idx a1 s2).bind fun x3 =>
      ((safety_within x3.1 (0 : Int) (w64 (a0 - 1))).bind fun x4 =>
       (safety_unless x4 (6 : Int)).bind fun x5 =>
       (safety_isName x3.2.1).bind fun x6 =>
       bif x6 then
        (safety_isName x3.2.2.1).bind fun x7 =>
        (safety_unless x7 (4 : Int)).bind fun x8 =>
        (slc a1 0 s2).bind fun x9 =>
        (slices_Contains_Lapi_SafetySign_api_SafetySign x9 x3).bind fun x10 =>
        (safety_unless (!x10) (23 : Int)).bind fun x11 =>
        (safety_first ([x5, x8, x11])).bind fun x12 =>
        some x12
       else
        (safety_unless false (4 : Int)).bind fun x13 =>
        (slc a1 0 s2).bind fun x14 =>
        (slices_Contains_Lapi_SafetySign_api_SafetySign x14 x3).bind fun x15 =>
        (safety_unless (!x15) (23 : Int)).bind fun x16 =>
        (safety_first ([x5, x13, x16])).bind fun x17 =>
        some x17).bind fun (p18 : Int) =>
      bif !(decide (p18 = 0)) then
       some (.inr (.inr (s2, p18)))
      else
       some (.inl (w64 (s2 + 1)))
     else
      some (.inr (.inl ()))) 0).bind (Sum.elim (fun (p19 : Unit) =>
   some (0, 0)) some)).bind fun (p20 : (Int × Int)) =>
  some p20.2
def e_safety_signsErr : Entry := ⟨86, [.ty I, .ty (.sl (.pair I (.pair .str (.pair .str .unit))))], [(I, 0)], fun x => safety_signsErr x.1 x.2⟩
def j_safety_signsErr : TH := mkTH [([13], 139, .inl 0, { lv := [⟨none, 4, 0⟩, ⟨none, 5, 0⟩], ps := [(I, 0), (I, 0)], D := ⟨33554416⟩, wr := [⟨1, 7⟩], rs := [⟨0, 2⟩, ⟨0, 3⟩, ⟨1, 7⟩], Dn := ⟨33488752⟩ }),
 ([13], 139, .block 0, { lv := [], ps := [], abn := true, D := ⟨33552832⟩, wr := [⟨1, 7⟩] }),
 ([13], 139, .loop 0, { lv := [⟨none, 11, 0⟩], ps := [(I, 0)], D := ⟨33552832⟩, wr := [⟨1, 7⟩], rs := [⟨0, 2⟩, ⟨0, 3⟩, ⟨1, 7⟩], Dn := ⟨33487168⟩ }),
 ([19, 13], 140, .region 1, { lv := [⟨none, 6, 0⟩], ps := [(I, 0)], D := ⟨2147483584⟩, rs := [⟨2, 5⟩], Dn := ⟨2147344192⟩ })] []
theorem k_safety_signsErr : KT e_safety_signsErr j_safety_signsErr [e_safety_first, e_safety_isName, e_safety_unless, e_safety_within, e_slices_Contains_Lapi_SafetySign_api_SafetySign] 40 := fun x => by kernel_rfl
theorem o_safety_signsErr : OT e_safety_signsErr := entK (tab_cons o_safety_first (tab_cons o_safety_isName (tab_cons o_safety_unless (tab_cons o_safety_within (tab_cons o_slices_Contains_Lapi_SafetySign_api_SafetySign tab_nil))))) hJ k_safety_signsErr
def safety_missing (a0 : (List ((List UInt8) × (List (List UInt8)) × Int × Unit))) (a1 : Int) (a2 : (List (Int × (List UInt8) × (List UInt8) × Unit))) : Option ((List Int) × Int) :=
 (loopO (fun (s2 : (Int × (List (List UInt8)) × (List (List UInt8)))) =>
   bif decide (s2.1 < (a2.length : Int)) then
    (idx a2 s2.1).bind fun x3 =>
    (bif decide (x3.1 = a1) then
      some (insK .str s2.2.1 x3.2.2.1, insK .str s2.2.2 x3.2.1)
     else
      some (s2.2.1, s2.2.2)).bind fun (p4 : ((List (List UInt8)) × (List (List UInt8)))) =>
    some (.inl (w64 (s2.1 + 1), p4.1, p4.2))
   else
    some (.inr (s2.2.1, s2.2.2))) (0, [], [])).bind fun (p5 : ((List (List UInt8)) × (List (List UInt8)))) =>
 (idx a0 a1).bind fun x6 =>
 (loopO (fun (s8 : ((List Int) × Int)) =>
   bif decide (s8.2 < (x6.2.1.length : Int)) then
    (idx x6.2.1 s8.2).bind fun x9 =>
    (bif !(memK .str p5.1 x9) then
      (app s8.1 ([s8.2])).bind fun x10 =>
      some x10
     else
      some s8.1).bind fun (p11 : (List Int)) =>
    some (.inl (p11, w64 (s8.2 + 1)))
   else
    some (.inr s8.1)) ([], 0)).bind fun (p12 : (List Int)) =>
 some (p12, (p5.2.length : Int))
def e_safety_missing : Entry := ⟨87, [.ty (.sl (.pair .str (.pair (.sl .str) (.pair I .unit)))), .ty I, .ty (.sl (.pair I (.pair .str (.pair .str .unit))))], [((.sl I), 1), (I, 0)], fun x => safety_missing x.1 x.2.1 x.2.2⟩
def j_safety_missing : TH := mkTH [([], 87, .block 0, { lv := [⟨some 0, 16399, 0⟩, ⟨some 0, 16400, 0⟩], ps := [((.mset .str), 0), ((.mset .str), 0)], D := ⟨17179351040⟩, wr := [⟨0, 11⟩, ⟨0, 16399⟩, ⟨0, 16400⟩] }),
 ([], 87, .loop 0, { lv := [⟨none, 19, 0⟩, ⟨some 0, 16399, 0⟩, ⟨some 0, 16400, 0⟩], ps := [(I, 0), ((.mset .str), 0), ((.mset .str), 0)], D := ⟨17179351040⟩, wr := [⟨0, 11⟩, ⟨0, 16399⟩, ⟨0, 16400⟩], rs := [⟨0, 11⟩, ⟨0, 16399⟩, ⟨0, 16400⟩], Dn := ⟨13547081728⟩ }),
 ([], 87, .cond 26, { lv := [⟨some 0, 16399, 0⟩, ⟨some 0, 16400, 0⟩], ps := [((.mset .str), 0), ((.mset .str), 0)], D := ⟨8455716864⟩, wr := [⟨0, 16399⟩, ⟨0, 16400⟩], rs := [⟨0, 11⟩, ⟨0, 16399⟩, ⟨0, 16400⟩], Dn := ⟨4831838208⟩ }),
 ([], 87, .block 2, { lv := [⟨none, 12, 0⟩], ps := [((.sl I), 1)], D := ⟨18013298997882880⟩ }),
 ([], 87, .loop 2, { lv := [⟨none, 12, 0⟩, ⟨none, 40, 0⟩], ps := [((.sl I), 1), (I, 0)], D := ⟨18013298997882880⟩, rs := [⟨0, 16399⟩], Dn := ⟨17978114625794048⟩ }),
 ([], 87, .cond 48, { lv := [⟨none, 12, 0⟩], ps := [((.sl I), 1)], D := ⟨8444249301323776⟩ })] []
theorem k_safety_missing : KT e_safety_missing j_safety_missing [] 40 := fun x => by kernel_rfl
theorem o_safety_missing : OT e_safety_missing := entK tab_nil hJ k_safety_missing
def safety_MissingAt (a0 : (List ((List UInt8) × (List (List UInt8)) × Int × Unit))) (a1 : Int) (a2 : (List (Int × (List UInt8) × (List UInt8) × Unit))) : Option ((List Int) × Int) :=
 (safety_CheckGates a0).bind fun x1 =>
 (safety_within a1 (0 : Int) (w64 ((a0.length : Int) - 1))).bind fun x2 =>
 (safety_unless x2 (6 : Int)).bind fun x3 =>
 (safety_signsErr (a0.length : Int) a2).bind fun x4 =>
 (safety_first ([x1.2, x3, x4])).bind fun x5 =>
 bif !(decide (x5 = 0)) then
  some ([], x5)
 else
  (safety_missing a0 a1 a2).bind fun x6 =>
  some (x6.1, 0)
def e_safety_MissingAt : Entry := ⟨24, [.ty (.sl (.pair .str (.pair (.sl .str) (.pair I .unit)))), .ty I, .ty (.sl (.pair I (.pair .str (.pair .str .unit))))], [((.sl I), 1), (I, 0)], fun x => safety_MissingAt x.1 x.2.1 x.2.2⟩
def j_safety_MissingAt : TH := mkTH [] []
theorem k_safety_MissingAt : KT e_safety_MissingAt j_safety_MissingAt [e_safety_CheckGates, e_safety_first, e_safety_missing, e_safety_signsErr, e_safety_unless, e_safety_within] 40 := fun x => by kernel_rfl
theorem o_safety_MissingAt : OT e_safety_MissingAt := entK (tab_cons o_safety_CheckGates (tab_cons o_safety_first (tab_cons o_safety_missing (tab_cons o_safety_signsErr (tab_cons o_safety_unless (tab_cons o_safety_within tab_nil)))))) hJ k_safety_MissingAt
def safety_LevelBy (a0 : (List ((List UInt8) × (List (List UInt8)) × Int × Unit))) (a1 : (List (Int × (List UInt8) × (List UInt8) × Unit))) : Option (Int × Int) :=
 (safety_CheckGates a0).bind fun x1 =>
 (safety_signsErr (a0.length : Int) a1).bind fun x2 =>
 (safety_first ([x1.2, x2])).bind fun x3 =>
 bif !(decide (x3 = 0)) then
  some (0, x3)
 else
  (loopO (fun (s5 : Int) =>
    bif decide (s5 < (a0.length : Int)) then
     (idx a0 s5).bind fun x6 =>
     (safety_missing a0 s5 a1).bind fun x7 =>
     (bif decide ((x7.1.length : Int) > 0) then
       some true
      else
       some (decide (x7.2 < x6.2.2.1))).bind fun (p8 : Bool) =>
     bif p8 then
      some (.inr (.inr (s5, 0)))
     else
      some (.inl (w64 (s5 + 1)))
    else
     some (.inr (.inl ()))) 0).bind (Sum.elim (fun (p9 : Unit) =>
  some ((a0.length : Int), 0)) some)
def e_safety_LevelBy : Entry := ⟨26, [.ty (.sl (.pair .str (.pair (.sl .str) (.pair I .unit)))), .ty (.sl (.pair I (.pair .str (.pair .str .unit))))], [(I, 0), (I, 0)], fun x => safety_LevelBy x.1 x.2⟩
def j_safety_LevelBy : TH := mkTH [([], 26, .block 0, { lv := [], ps := [], abn := true, D := ⟨4503599090503424⟩, wr := [⟨0, 9⟩] }),
 ([], 26, .loop 0, { lv := [⟨none, 29, 0⟩], ps := [(I, 0)], D := ⟨4503599090503424⟩, wr := [⟨0, 9⟩], rs := [⟨0, 9⟩], Dn := ⟨4433230346325248⟩ }),
 ([], 26, .region 9, { lv := [⟨none, 49, 0⟩], ps := [(.bool, 0)], D := ⟨1123700883588096⟩, rs := [⟨0, 9⟩], Dn := ⟨1053332139410432⟩ })] []
theorem k_safety_LevelBy : KT e_safety_LevelBy j_safety_LevelBy [e_safety_CheckGates, e_safety_first, e_safety_missing, e_safety_signsErr] 40 := fun x => by kernel_rfl
theorem o_safety_LevelBy : OT e_safety_LevelBy := entK (tab_cons o_safety_CheckGates (tab_cons o_safety_first (tab_cons o_safety_missing (tab_cons o_safety_signsErr tab_nil)))) hJ k_safety_LevelBy
def base_IsName (a0 : (List UInt8)) : Option Bool :=
 (bif decide ((a0.length : Int) < 1) then
   some true
  else
   some (decide ((a0.length : Int) > 12))).bind fun (p1 : Bool) =>
 bif p1 then
  some false
 else
  (loopO (fun (s3 : Int) =>
    bif decide (s3 < (a0.length : Int)) then
     (idx a0 s3).bind fun x4 =>
     (bif decide ((x4.toNat : Int) >= 97) then
       bif decide ((x4.toNat : Int) <= 122) then
        some true
       else
        bif decide ((x4.toNat : Int) >= 65) then
         some (decide ((x4.toNat : Int) <= 90))
        else
         some false
      else
       bif decide ((x4.toNat : Int) >= 65) then
        some (decide ((x4.toNat : Int) <= 90))
       else
        some false).bind fun (p5 : Bool) =>
     (bif !p5 then
       bif decide (s3 = 0) then
        some true
       else
        bif !(decide ((x4.toNat : Int) = 45)) then
         bif decide ((x4.toNat : Int) < 48) then
          some true
         else
          some (decide ((x4.toNat : Int) > 57))
        else
         some false
      else
       some false).bind fun (p6 : Bool) =>
     bif p6 then
      some (.inr (.inr false))
     else
      some (.inl (w64 (s3 + 1)))
    else
     some (.inr (.inl ()))) 0).bind (Sum.elim (fun (p7 : Unit) =>
  some true) some)
def e_base_IsName : Entry := ⟨88, [.ty .str], [(.bool, 0)], fun x => base_IsName x⟩
def j_base_IsName : TH := mkTH [([], 88, .region 1, { lv := [⟨none, 13, 0⟩], ps := [(.bool, 0)], D := ⟨16320⟩ }),
 ([], 88, .block 0, { lv := [], ps := [], abn := true, D := ⟨36028797018947640⟩ }),
 ([], 88, .loop 0, { lv := [⟨none, 3, 0⟩], ps := [(I, 0)], D := ⟨36028797018947640⟩ }),
 ([], 88, .region 7, { lv := [⟨none, 5, 0⟩], ps := [(.bool, 0)], D := ⟨137430564896⟩ }),
 ([], 88, .region 8, { lv := [⟨none, 54, 0⟩], ps := [(.bool, 0)], D := ⟨36028659580010496⟩ })] []
theorem k_base_IsName : KT e_base_IsName j_base_IsName [] 40 := fun x => by kernel_rfl
theorem o_base_IsName : OT e_base_IsName := entK tab_nil hJ k_base_IsName
def base_HasText (a0 : (List (List UInt8))) (a1 : (List UInt8)) : Option Bool :=
 (loopO (fun (s2 : Int) =>
   bif decide (s2 < (a0.length : Int)) then
    (idx a0 s2).bind fun x3 =>
    bif decide (x3 = a1) then
     some (.inr (.inr true))
    else
     some (.inl (w64 (s2 + 1)))
   else
    some (.inr (.inl ()))) 0).bind (Sum.elim (fun (p4 : Unit) =>
 some false) some)
def e_base_HasText : Entry := ⟨89, [.ty (.sl .str), .ty .str], [(.bool, 0)], fun x => base_HasText x.1 x.2⟩
def j_base_HasText : TH := mkTH [([], 89, .block 0, { lv := [], ps := [], abn := true, D := ⟨262112⟩ }),
 ([], 89, .loop 0, { lv := [⟨none, 5, 0⟩], ps := [(I, 0)], D := ⟨262112⟩ })] []
theorem k_base_HasText : KT e_base_HasText j_base_HasText [] 40 := fun x => by kernel_rfl
theorem o_base_HasText : OT e_base_HasText := entK tab_nil hJ k_base_HasText
def ref09_CheckGates (a0 : (List ((List UInt8) × (List (List UInt8)) × Int × Unit))) : Option (Int × Int) :=
 bif decide ((a0.length : Int) = 0) then
  some (0, 10)
 else
  bif decide ((a0.length : Int) > 6) then
   some (0, 8)
  else
   (loopO (fun (s2 : Int) =>
     bif decide (s2 < (a0.length : Int)) then
      (idx a0 s2).bind fun x3 =>
      (base_IsName x3.1).bind fun x4 =>
      bif !x4 then
       some (.inr (.inr (s2, 4)))
      else
       (loopO (fun (s6 : Int) =>
         bif decide (s6 < s2) then
          (idx a0 s6).bind fun x7 =>
          (idx a0 s2).bind fun x8 =>
          bif decide (x7.1 = x8.1) then
           some (.inr (.inr (.inr (.inr (s2, 5)))))
          else
           some (.inl (w64 (s6 + 1)))
         else
          some (.inr (.inl ()))) 0).bind (Sum.elim (fun (p9 : Unit) =>
       (idx a0 s2).bind fun x10 =>
       bif decide ((x10.2.1.length : Int) > 4) then
        some (.inr (.inr (s2, 8)))
       else
        (loopO (fun (s12 : Int) =>
          (idx a0 s2).bind fun x13 =>
          bif decide (s12 < (x13.2.1.length : Int)) then
           (idx a0 s2).bind fun x14 =>
           (idx x14.2.1 s12).bind fun x15 =>
           (base_IsName x15).bind fun x16 =>
           bif !x16 then
            some (.inr (.inr (.inr (.inr (s2, 4)))))
           else
            (idx a0 s2).bind fun x17 =>
            (slc x17.2.1 0 s12).bind fun x18 =>
            (idx a0 s2).bind fun x19 =>
            (idx x19.2.1 s12).bind fun x20 =>
            (base_HasText x18 x20).bind fun x21 =>
            bif x21 then
             some (.inr (.inr (.inr (.inr (s2, 23)))))
            else
             some (.inl (w64 (s12 + 1)))
          else
           some (.inr (.inl ()))) 0).bind (Sum.elim (fun (p22 : Unit) =>
        (idx a0 s2).bind fun x23 =>
        (base_Within x23.2.2.1 (0 : Int) (20 : Int)).bind fun x24 =>
        bif !x24 then
         some (.inr (.inr (s2, 2)))
        else
         some (.inl (w64 (s2 + 1)))) some)) some)
     else
      some (.inr (.inl ()))) 0).bind (Sum.elim (fun (p25 : Unit) =>
   some (0, 0)) some)
def e_ref09_CheckGates : Entry := ⟨27, [.ty (.sl (.pair .str (.pair (.sl .str) (.pair I .unit))))], [(I, 0), (I, 0)], fun x => ref09_CheckGates x⟩
def j_ref09_CheckGates : TH := mkTH [([], 27, .block 0, { lv := [], ps := [], abn := true, D := ⟨316912650057057350374175793264⟩ }),
 ([], 27, .loop 0, { lv := [⟨none, 4, 0⟩], ps := [(I, 0)], D := ⟨316912650057057350374175793264⟩ }),
 ([], 27, .block 2, { lv := [], ps := [], abn := true, D := ⟨17592051826720⟩ }),
 ([], 27, .loop 2, { lv := [⟨none, 5, 0⟩], ps := [(I, 0)], D := ⟨17592051826720⟩ }),
 ([], 27, .block 4, { lv := [], ps := [], abn := true, D := ⟨1237940039280876675271753792⟩ }),
 ([], 27, .loop 4, { lv := [⟨none, 6, 0⟩], ps := [(I, 0)], D := ⟨1237940039280876675271753792⟩ })] []
theorem k_ref09_CheckGates : KT e_ref09_CheckGates j_ref09_CheckGates [e_base_HasText, e_base_IsName, e_base_Within] 40 := fun x => by kernel_rfl
theorem o_ref09_CheckGates : OT e_ref09_CheckGates := entK (tab_cons o_base_HasText (tab_cons o_base_IsName (tab_cons o_base_Within tab_nil))) hJ k_ref09_CheckGates
def ref09_SignsErr (a0 : Int) (a1 : (List (Int × (List UInt8) × (List UInt8) × Unit))) : Option Int :=
 bif decide ((a1.length : Int) > 20) then
  some 8
 else
  (loopO (fun (s2 : Int) =>
    bif decide (s2 < (a1.length : Int)) then
     (idx a1 s2).bind fun x3 =>
     (base_Within x3.1 (0 : Int) (w64 (a0 - 1))).bind fun x4 =>
     bif !x4 then
      some (.inr (.inr 6))
     else
      ((idx a1 s2).bind fun x5 =>
       (base_IsName x5.2.1).bind fun x6 =>
       bif !x6 then
        some true
       else
        (idx a1 s2).bind fun x7 =>
        (base_IsName x7.2.2.1).bind fun x8 =>
        some (!x8)).bind fun (p9 : Bool) =>
      bif p9 then
       some (.inr (.inr 4))
      else
       (loopO (fun (s11 : Int) =>
         bif decide (s11 < s2) then
          (idx a1 s11).bind fun x12 =>
          (idx a1 s2).bind fun x13 =>
          let v14 : Bool := (bif decide (x12.1 = x13.1) then (bif decide (x12.2.1 = x13.2.1) then (bif decide (x12.2.2.1 = x13.2.2.1) then true else false) else false) else false)
          bif v14 then
           some (.inr (.inr (.inr (.inr 23))))
          else
           some (.inl (w64 (s11 + 1)))
         else
          some (.inr (.inl ()))) 0).bind (Sum.elim (fun (p15 : Unit) =>
       some (.inl (w64 (s2 + 1)))) some)
    else
     some (.inr (.inl ()))) 0).bind (Sum.elim (fun (p16 : Unit) =>
  some 0) some)
def e_ref09_SignsErr : Entry := ⟨28, [.ty I, .ty (.sl (.pair I (.pair .str (.pair .str .unit))))], [(I, 0)], fun x => ref09_SignsErr x.1 x.2⟩
def j_ref09_SignsErr : TH := mkTH [([], 28, .block 0, { lv := [], ps := [], abn := true, D := ⟨36028797018963040⟩ }),
 ([], 28, .loop 0, { lv := [⟨none, 5, 0⟩], ps := [(I, 0)], D := ⟨36028797018963040⟩ }),
 ([], 28, .region 8, { lv := [⟨none, 40, 0⟩], ps := [(.bool, 0)], D := ⟨2198989701120⟩ }),
 ([], 28, .block 2, { lv := [], ps := [], abn := true, D := ⟨36026597995708480⟩ }),
 ([], 28, .loop 2, { lv := [⟨none, 6, 0⟩], ps := [(I, 0)], D := ⟨36026597995708480⟩ })] []
theorem k_ref09_SignsErr : KT e_ref09_SignsErr j_ref09_SignsErr [e_base_IsName, e_base_Within] 40 := fun x => by kernel_rfl
theorem o_ref09_SignsErr : OT e_ref09_SignsErr := entK (tab_cons o_base_IsName (tab_cons o_base_Within tab_nil)) hJ k_ref09_SignsErr
def ref09_Persons (a0 : Int) (a1 : (List (Int × (List UInt8) × (List UInt8) × Unit))) : Option Int :=
 (loopO (fun (s2 : ((List (List UInt8)) × Int)) =>
   bif decide (s2.2 < (a1.length : Int)) then
    ((idx a1 s2.2).bind fun x3 =>
     bif decide (x3.1 = a0) then
      (idx a1 s2.2).bind fun x4 =>
      (base_HasText s2.1 x4.2.1).bind fun x5 =>
      some (!x5)
     else
      some false).bind fun (p6 : Bool) =>
    (bif p6 then
      (idx a1 s2.2).bind fun x7 =>
      (app s2.1 ([x7.2.1])).bind fun x8 =>
      some x8
     else
      some s2.1).bind fun (p9 : (List (List UInt8))) =>
    some (.inl (p9, w64 (s2.2 + 1)))
   else
    some (.inr s2.1)) ([], 0)).bind fun (p10 : (List (List UInt8))) =>
 some (p10.length : Int)
def e_ref09_Persons : Entry := ⟨33, [.ty I, .ty (.sl (.pair I (.pair .str (.pair .str .unit))))], [(I, 0)], fun x => ref09_Persons x.1 x.2⟩
def j_ref09_Persons : TH := mkTH [([], 33, .block 0, { lv := [⟨none, 5, 0⟩], ps := [((.sl .str), 1)], D := ⟨274877906912⟩ }),
 ([], 33, .loop 0, { lv := [⟨none, 5, 0⟩, ⟨none, 6, 0⟩], ps := [((.sl .str), 1), (I, 0)], D := ⟨274877906912⟩ }),
 ([], 33, .region 5, { lv := [⟨none, 29, 0⟩], ps := [(.bool, 0)], D := ⟨1073733632⟩ }),
 ([], 33, .cond 29, { lv := [⟨none, 5, 0⟩], ps := [((.sl .str), 1)], D := ⟨273804165152⟩ })] []
theorem k_ref09_Persons : KT e_ref09_Persons j_ref09_Persons [e_base_HasText] 40 := fun x => by kernel_rfl
theorem o_ref09_Persons : OT e_ref09_Persons := entK (tab_cons o_base_HasText tab_nil) hJ k_ref09_Persons
def ref09_GatesErr (a0 : (List ((List UInt8) × (List (List UInt8)) × Int × Unit))) : Option Int :=
 (ref09_CheckGates a0).bind fun x1 =>
 some x1.2
def e_ref09_GatesErr : Entry := ⟨32, [.ty (.sl (.pair .str (.pair (.sl .str) (.pair I .unit))))], [(I, 0)], fun x => ref09_GatesErr x⟩
def j_ref09_GatesErr : TH := mkTH [] []
theorem k_ref09_GatesErr : KT e_ref09_GatesErr j_ref09_GatesErr [e_ref09_CheckGates] 40 := fun x => by kernel_rfl
theorem o_ref09_GatesErr : OT e_ref09_GatesErr := entK (tab_cons o_ref09_CheckGates tab_nil) hJ k_ref09_GatesErr
def law09_SafetyBehind (a0 : (List ((List UInt8) × (List (List UInt8)) × Int × Unit))) (a1 : (List (Int × (List UInt8) × (List UInt8) × Unit))) (a2 : (Int × Int × Unit)) : Option Bool :=
 (law09_awake).bind fun x1 =>
 bif !x1 then
  some false
 else
  ((law09_fewGates a0).bind fun x2 =>
   bif !x2 then
    some true
   else
    (ref09_GatesErr a0).bind fun x3 =>
    bif !(decide (x3 = 0)) then
     some true
    else
     bif decide ((a1.length : Int) > 20) then
      some true
     else
      (ref09_SignsErr (a0.length : Int) a1).bind fun x4 =>
      some (!(decide (x4 = 0)))).bind fun (p5 : Bool) =>
  bif p5 then
   some true
  else
   (ref09_CopyGates a0).bind fun x6 =>
   (ref09_CopySigns a1).bind fun x7 =>
   (safety_LevelBy x6 x7).bind fun x8 =>
   (bif !(decide (x8.2 = 0)) then
     some true
    else
     (base_Within x8.1 (0 : Int) (a0.length : Int)).bind fun x9 =>
     some (!x9)).bind fun (p10 : Bool) =>
   bif p10 then
    some false
   else
    (bif decide (x8.1 < (a0.length : Int)) then
      (ref09_CopyGates a0).bind fun x11 =>
      (ref09_CopySigns a1).bind fun x12 =>
      (safety_MissingAt x11 x8.1 x12).bind fun x13 =>
      (bif !(decide (x13.2 = 0)) then
        some true
       else
        bif decide ((x13.1.length : Int) = 0) then
         (ref09_Persons x8.1 a1).bind fun x14 =>
         (idx a0 x8.1).bind fun x15 =>
         some (decide (x14 >= x15.2.2.1))
        else
         some false).bind fun (p16 : Bool) =>
      bif p16 then
       some (.inr false)
      else
       some (.inl ())
     else
      some (.inl ())).bind (Sum.elim (fun (p17 : Unit) =>
    (loopO (fun (s19 : Int) =>
      bif decide (s19 < x8.1) then
       (ref09_CopyGates a0).bind fun x20 =>
       (ref09_CopySigns a1).bind fun x21 =>
       (safety_MissingAt x20 s19 x21).bind fun x22 =>
       (bif !(decide (x22.2 = 0)) then
         some true
        else
         bif !(decide ((x22.1.length : Int) = 0)) then
          some true
         else
          (ref09_Persons s19 a1).bind fun x23 =>
          (idx a0 s19).bind fun x24 =>
          some (decide (x23 < x24.2.2.1))).bind fun (p25 : Bool) =>
       bif p25 then
        some (.inr (.inr false))
       else
        some (.inl (w64 (s19 + 1)))
      else
       some (.inr (.inl ()))) 0).bind (Sum.elim (fun (p26 : Unit) =>
    (base_Mod a2.1 (a0.length : Int)).bind fun x27 =>
    (loopO (fun (s30 : ((List (Int × (List UInt8) × (List UInt8) × Unit)) × (List (Int × (List UInt8) × (List UInt8) × Unit)) × Int)) =>
      bif decide (s30.2.2 >= 0) then
       (idx a1 s30.2.2).bind fun x31 =>
       (app s30.1 ([x31])).bind fun x32 =>
       (idx a1 s30.2.2).bind fun x33 =>
       (bif !(decide (x33.1 = x27)) then
         (idx a1 s30.2.2).bind fun x34 =>
         (app s30.2.1 ([x34])).bind fun x35 =>
         some x35
        else
         some s30.2.1).bind fun (p36 : (List (Int × (List UInt8) × (List UInt8) × Unit))) =>
       some (.inl (x32, p36, w64 (s30.2.2 - 1)))
      else
       some (.inr (s30.1, s30.2.1))) ([], [], w64 ((a1.length : Int) - 1))).bind fun (p37 : ((List (Int × (List UInt8) × (List UInt8) × Unit)) × (List (Int × (List UInt8) × (List UInt8) × Unit)))) =>
    (ref09_CopyGates a0).bind fun x38 =>
    (safety_LevelBy x38 p37.1).bind fun x39 =>
    (ref09_CopyGates a0).bind fun x40 =>
    (safety_LevelBy x40 p37.2).bind fun x41 =>
    (bif !(decide (x39.2 = 0)) then
      some true
     else
      bif !(decide (x39.1 = x8.1)) then
       some true
      else
       bif !(decide (x41.2 = 0)) then
        some true
       else
        bif decide (x41.1 > x8.1) then
         some true
        else
         (idx a0 x27).bind fun x42 =>
         bif decide ((x42.2.1.length : Int) > 0) then
          some (decide (x41.1 > x27))
         else
          (idx a0 x27).bind fun x43 =>
          bif decide (x43.2.2.1 > 0) then
           some (decide (x41.1 > x27))
          else
           some false).bind fun (p44 : Bool) =>
    bif p44 then
     some false
    else
     bif decide ((a1.length : Int) = 0) then
      some true
     else
      (base_Mod a2.2.1 (a1.length : Int)).bind fun x45 =>
      (slc a1 0 x45).bind fun x46 =>
      (ref09_CopySigns x46).bind fun x47 =>
      (slc a1 (w64 (x45 + 1)) (a1.length : Int)).bind fun x48 =>
      (app x47 x48).bind fun x49 =>
      (ref09_CopyGates a0).bind fun x50 =>
      (safety_LevelBy x50 x49).bind fun x51 =>
      (bif decide (x51.2 = 0) then
        some (decide (x51.1 <= x8.1))
       else
        some false).bind fun (p52 : Bool) =>
      some p52) some)) some)
def e_law09_SafetyBehind : Entry := ⟨5, [.ty (.sl (.pair .str (.pair (.sl .str) (.pair I .unit)))), .ty (.sl (.pair I (.pair .str (.pair .str .unit)))), .ty gT], [(.bool, 0)], fun x => law09_SafetyBehind x.1 x.2.1 x.2.2⟩
def j_law09_SafetyBehind : TH := mkTH [([], 5, .region 3, { lv := [⟨none, 47, 0⟩], ps := [(.bool, 0)], D := ⟨281474708275200⟩ }),
 ([], 5, .region 6, { lv := [⟨none, 64, 0⟩], ps := [(.bool, 0)], D := ⟨36821430553381175296⟩ }),
 ([], 5, .cond 68, { lv := [], ps := [], abn := true, D := ⟨79228161923968527234838300160⟩ }),
 ([], 5, .region 10, { lv := [⟨none, 95, 0⟩], ps := [(.bool, 0)], D := ⟨79227860282809433936250274304⟩ }),
 ([], 5, .block 0, { lv := [], ps := [], abn := true, D := ⟨340282366841710300949110269838232713728⟩ }),
 ([], 5, .loop 0, { lv := [⟨none, 11, 0⟩], ps := [(I, 0)], D := ⟨340282366841710300949110269838232713728⟩ }),
 ([], 5, .region 16, { lv := [⟨none, 127, 0⟩], ps := [(.bool, 0)], D := ⟨340281068846723829756467474807685910528⟩ }),
 ([], 5, .block 2, { lv := [⟨none, 14, 0⟩, ⟨none, 15, 0⟩], ps := [((.sl (.pair I (.pair .str (.pair .str .unit)))), 1), ((.sl (.pair I (.pair .str (.pair .str .unit)))), 1)], D := ⟨2923003187549519904647123018808666536779211526656⟩ }),
 ([], 5, .loop 2, { lv := [⟨none, 14, 0⟩, ⟨none, 15, 0⟩, ⟨none, 17, 0⟩], ps := [((.sl (.pair I (.pair .str (.pair .str .unit)))), 1), ((.sl (.pair I (.pair .str (.pair .str .unit)))), 1), (I, 0)], D := ⟨2923003187549519904647123018808666536779211526656⟩ }),
 ([], 5, .cond 153, { lv := [⟨none, 15, 0⟩], ps := [((.sl (.pair I (.pair .str (.pair .str .unit)))), 1)], D := ⟨2900167311578510478310437089921374117129741172736⟩ }),
 ([], 5, .region 28, { lv := [⟨none, 212, 0⟩], ps := [(.bool, 0)], D := ⟨13164036458521757851587694433635105695263439763080553309220634624⟩ }),
 ([], 5, .region 35, { lv := [⟨none, 6, 0⟩], ps := [(.bool, 0)], D := ⟨28048697153356851232134847824293831438761306862900450960180498445520339008⟩ })] []
theorem k_law09_SafetyBehind : KT e_law09_SafetyBehind j_law09_SafetyBehind [e_base_Mod, e_base_Within, e_law09_awake, e_law09_fewGates, e_ref09_CopyGates, e_ref09_CopySigns, e_ref09_GatesErr, e_ref09_Persons, e_ref09_SignsErr, e_safety_LevelBy, e_safety_MissingAt] 40 := fun x => by kernel_rfl
theorem o_law09_SafetyBehind : OT e_law09_SafetyBehind := entK (tab_cons o_base_Mod (tab_cons o_base_Within (tab_cons o_law09_awake (tab_cons o_law09_fewGates (tab_cons o_ref09_CopyGates (tab_cons o_ref09_CopySigns (tab_cons o_ref09_GatesErr (tab_cons o_ref09_Persons (tab_cons o_ref09_SignsErr (tab_cons o_safety_LevelBy (tab_cons o_safety_MissingAt tab_nil))))))))))) hJ k_law09_SafetyBehind
def safety_CheckLimits (a0 : (Int × Int × Int × Int × Int × Unit)) : Option Int :=
 ((safety_isSized a0.1 (60 : Int)).bind fun x1 =>
  bif x1 then
   (safety_isSized a0.2.1 (60 : Int)).bind fun x2 =>
   bif x2 then
    (safety_within a0.2.2.1 (1 : Int) (8 : Int)).bind fun x3 =>
    bif x3 then
     (safety_within a0.2.2.2.1 (1 : Int) (3 : Int)).bind fun x4 =>
     bif x4 then
      (safety_within a0.2.2.2.2.1 (1 : Int) (6 : Int)).bind fun x5 =>
      some x5
     else
      some false
    else
     some false
   else
    some false
  else
   some false).bind fun (p6 : Bool) =>
 (safety_unless p6 (2 : Int)).bind fun x7 =>
 (safety_unless (decide (a0.1 <= a0.2.1)) (9 : Int)).bind fun x8 =>
 (safety_first ([x7, x8])).bind fun x9 =>
 some x9
def e_safety_CheckLimits : Entry := ⟨37, [.ty (.pair I (.pair I (.pair I gT)))], [(I, 0)], fun x => safety_CheckLimits x⟩
def j_safety_CheckLimits : TH := mkTH [([], 37, .region 1, { lv := [⟨none, 3, 0⟩], ps := [(.bool, 0)], D := ⟨536870904⟩, rs := [⟨0, 1⟩], Dn := ⟨502233544⟩ })] []
theorem k_safety_CheckLimits : KT e_safety_CheckLimits j_safety_CheckLimits [e_safety_first, e_safety_isSized, e_safety_unless, e_safety_within] 40 := fun x => by kernel_rfl
theorem o_safety_CheckLimits : OT e_safety_CheckLimits := entK (tab_cons o_safety_first (tab_cons o_safety_isSized (tab_cons o_safety_unless (tab_cons o_safety_within tab_nil)))) hJ k_safety_CheckLimits
def safety_openMotion (a0 : (Int × Int × Int × Int × Int × Unit)) (a1 : (Int × Int × Int × Unit)) : Option Int :=
 ((safety_within a1.1 a0.1 a0.2.1).bind fun x1 =>
  bif x1 then
   (safety_isSized a1.2.1 a0.2.2.1).bind fun x2 =>
   bif x2 then
    (safety_isSized a1.2.2.1 a0.2.2.2.1).bind fun x3 =>
    some x3
   else
    some false
  else
   some false).bind fun (p4 : Bool) =>
 (safety_CheckLimits a0).bind fun x5 =>
 (safety_unless p4 (2 : Int)).bind fun x6 =>
 (safety_first ([x5, x6])).bind fun x7 =>
 some x7
def e_safety_openMotion : Entry := ⟨91, [.ty (.pair I (.pair I (.pair I gT))), .ty (.pair I gT)], [(I, 0)], fun x => safety_openMotion x.1 x.2⟩
def j_safety_openMotion : TH := mkTH [([], 91, .region 1, { lv := [⟨none, 5, 0⟩], ps := [(.bool, 0)], D := ⟨536870880⟩, rs := [⟨0, 2⟩, ⟨0, 3⟩], Dn := ⟨494593184⟩ })] []
theorem k_safety_openMotion : KT e_safety_openMotion j_safety_openMotion [e_safety_CheckLimits, e_safety_first, e_safety_isSized, e_safety_unless, e_safety_within] 40 := fun x => by kernel_rfl
theorem o_safety_openMotion : OT e_safety_openMotion := entK (tab_cons o_safety_CheckLimits (tab_cons o_safety_first (tab_cons o_safety_isSized (tab_cons o_safety_unless (tab_cons o_safety_within tab_nil))))) hJ k_safety_openMotion
def safety_atRest (a0 : (Int × Int × Int × Unit)) : Option Bool :=
 (bif decide (a0.2.1 = 0) then
   some (decide (a0.2.2.1 = 0))
  else
   some false).bind fun (p1 : Bool) =>
 some p1
def e_safety_atRest : Entry := ⟨95, [.ty (.pair I gT)], [(.bool, 0)], fun x => safety_atRest x⟩
def j_safety_atRest : TH := mkTH [([], 95, .region 1, { lv := [⟨none, 2, 0⟩], ps := [(.bool, 0)], D := ⟨2044⟩, rs := [⟨0, 1⟩], Dn := ⟨1908⟩ })] []
theorem k_safety_atRest : KT e_safety_atRest j_safety_atRest [] 40 := fun x => by kernel_rfl
theorem o_safety_atRest : OT e_safety_atRest := entK tab_nil hJ k_safety_atRest
def safety_pushed (a0 : (Int × Int × Int × Int × Int × Unit)) (a1 : (Int × Int × Int × Unit)) (a2 : Int) : Option ((Int × Int × Int × Unit) × Bool) :=
 ((safety_isSized a2 a0.2.2.2.1).bind fun x1 =>
  bif !x1 then
   some true
  else
   (safety_isSized (w64 (a2 - a1.2.2.1)) a0.2.2.2.2.1).bind fun x2 =>
   some (!x2)).bind fun (p3 : Bool) =>
 bif p3 then
  some (a1, false)
 else
  ((safety_isSized (w64 (a1.2.1 + a2)) a0.2.2.1).bind fun x4 =>
   bif x4 then
    (safety_within (w64 (a1.1 + (w64 (a1.2.1 + a2)))) a0.1 a0.2.1).bind fun x5 =>
    some (x5, w64 (a1.1 + (w64 (a1.2.1 + a2))), w64 (a1.2.1 + a2), a2)
   else
    some (false, w64 (a1.1 + (w64 (a1.2.1 + a2))), w64 (a1.2.1 + a2), a2)).bind fun (p6 : (Bool × Int × Int × Int)) =>
  some ((p6.2.1, p6.2.2.1, p6.2.2.2, ()), p6.1)
def e_safety_pushed : Entry := ⟨92, [.ty (.pair I (.pair I (.pair I gT))), .ty (.pair I gT), .ty I], [((.pair I gT), 0), (.bool, 0)], fun x => safety_pushed x.1 x.2.1 x.2.2⟩
def j_safety_pushed : TH := mkTH [([], 92, .region 1, { lv := [⟨none, 22, 0⟩], ps := [(.bool, 0)], D := ⟨8388352⟩, rs := [⟨0, 3⟩, ⟨0, 4⟩], Dn := ⟨8092928⟩ }),
 ([], 92, .region 5, { lv := [⟨none, 7, 0⟩, ⟨some 0, 6, 0⟩, ⟨some 0, 6, 1⟩, ⟨some 0, 6, 2⟩], ps := [(.bool, 0), (I, 0), (I, 0), (I, 0)], D := ⟨18014261070528640⟩, wr := [⟨0, 6⟩], rs := [⟨0, 3⟩, ⟨0, 4⟩], Dn := ⟨16095338402152576⟩ })] []
theorem k_safety_pushed : KT e_safety_pushed j_safety_pushed [e_safety_isSized, e_safety_within] 40 := fun x => by kernel_rfl
theorem o_safety_pushed : OT e_safety_pushed := entK (tab_cons o_safety_isSized (tab_cons o_safety_within tab_nil)) hJ k_safety_pushed
def safety_stop (a0 : (Int × Int × Int × Int × Int × Unit)) (a1 : (Int × Int × Int × Unit)) : Option ((List Int) × Bool) :=
 (loopO (fun (s2 : ((List (Int × Int × Int × Int × Unit)) × Int × (List (Int × Int × Int × Unit)))) =>
   bif decide (s2.2.1 < (s2.1.length : Int)) then
    (idx s2.1 s2.2.1).bind fun x3 =>
    (safety_atRest (x3.1, x3.2.1, x3.2.2.1, ())).bind fun x4 =>
    bif x4 then
     (loopO (fun (s7 : ((List Int) × Int)) =>
       (idx s2.1 s7.2).bind fun x8 =>
       bif decide (x8.2.2.2.1 >= 0) then
        (idx s2.1 s7.2).bind fun x9 =>
        (app s7.1 ([x9.2.2.1])).bind fun x10 =>
        (idx s2.1 s7.2).bind fun x11 =>
        some (.inl (x10, x11.2.2.2.1))
       else
        some (.inr s7.1)) ([], s2.2.1)).bind fun (p12 : (List Int)) =>
     (revO p12).bind fun x13 =>
     some (.inr (.inr (x13, true)))
    else
     (loopO (fun (s15 : ((List (Int × Int × Int × Int × Unit)) × Int × (List (Int × Int × Int × Unit)))) =>
       bif decide (s15.2.1 <= a0.2.2.2.1) then
        (idx s15.1 s2.2.1).bind fun x16 =>
        (safety_pushed a0 (x16.1, x16.2.1, x16.2.2.1, ()) s15.2.1).bind fun x17 =>
        (bif x17.2 then
          some (!(memK (.pair I gT) s15.2.2 x17.1))
         else
          some false).bind fun (p18 : Bool) =>
        (bif p18 then
          (app s15.1 ([(x17.1.1, x17.1.2.1, x17.1.2.2.1, s2.2.1, ())])).bind fun x19 =>
          some (x19, insK (.pair I gT) s15.2.2 x17.1)
         else
          some (s15.1, s15.2.2)).bind fun (p20 : ((List (Int × Int × Int × Int × Unit)) × (List (Int × Int × Int × Unit)))) =>
        some (.inl (p20.1, w64 (s15.2.1 + 1), p20.2))
       else
        some (.inr (s15.1, s15.2.2))) (s2.1, w64 (0 - a0.2.2.2.1), s2.2.2)).bind fun (p21 : ((List (Int × Int × Int × Int × Unit)) × (List (Int × Int × Int × Unit)))) =>
     some (.inl (p21.1, w64 (s2.2.1 + 1), p21.2))
   else
    some (.inr (.inl ()))) ([(a1.1, a1.2.1, a1.2.2.1, (-1), ())], 0, insK (.pair I gT) [] a1)).bind (Sum.elim (fun (p22 : Unit) =>
 some ([], false)) some)
def e_safety_stop : Entry := ⟨93, [.ty (.pair I (.pair I (.pair I gT))), .ty (.pair I gT)], [((.sl I), 1), (.bool, 0)], fun x => safety_stop x.1 x.2⟩
def j_safety_stop : TH := mkTH [([], 93, .block 0, { lv := [], ps := [], abn := true, D := ⟨2475880078570760549797216064⟩, wr := [⟨0, 12⟩, ⟨0, 16401⟩] }),
 ([], 93, .loop 0, { lv := [⟨none, 6, 0⟩, ⟨none, 8, 0⟩, ⟨some 0, 16401, 0⟩], ps := [((.sl (.pair I (.pair I gT))), 1), (I, 0), ((.mset (.pair I gT)), 0)], D := ⟨2475880078570760549797216064⟩, wr := [⟨0, 12⟩, ⟨0, 16401⟩], rs := [⟨0, 2⟩], Dn := ⟨2475880077345781451152441152⟩ }),
 ([], 93, .block 2, { lv := [⟨none, 9, 0⟩], ps := [((.sl I), 1)], D := ⟨9007190664807936⟩ }),
 ([], 93, .loop 2, { lv := [⟨none, 9, 0⟩, ⟨none, 10, 0⟩], ps := [((.sl I), 1), (I, 0)], D := ⟨9007190664807936⟩ }),
 ([], 93, .block 4, { lv := [⟨none, 6, 0⟩, ⟨some 0, 16401, 0⟩], ps := [((.sl (.pair I (.pair I gT))), 1), ((.mset (.pair I gT)), 0)], D := ⟨2475880077994299797494839872⟩, wr := [⟨0, 12⟩, ⟨0, 16401⟩], rs := [⟨0, 2⟩], Dn := ⟨2475880076841378292887992896⟩ }),
 ([], 93, .loop 4, { lv := [⟨none, 6, 0⟩, ⟨none, 11, 0⟩, ⟨some 0, 16401, 0⟩], ps := [((.sl (.pair I (.pair I gT))), 1), (I, 0), ((.mset (.pair I gT)), 0)], D := ⟨2475880077994299797494839872⟩, wr := [⟨0, 12⟩, ⟨0, 16401⟩], rs := [⟨0, 2⟩, ⟨0, 12⟩, ⟨0, 16401⟩], Dn := ⟨2465906438829557602196662848⟩ }),
 ([], 93, .region 18, { lv := [⟨none, 82, 0⟩], ps := [(.bool, 0)], D := ⟨9595848693191119074230272⟩, rs := [⟨0, 16401⟩], Dn := ⟨9293617238287461780553728⟩ }),
 ([], 93, .cond 82, { lv := [⟨none, 6, 0⟩, ⟨some 0, 16401, 0⟩], ps := [((.sl (.pair I (.pair I gT))), 1), ((.mset (.pair I gT)), 0)], D := ⟨2466208672013843516400599104⟩, wr := [⟨0, 16401⟩], rs := [⟨0, 16401⟩], Dn := ⟨2456537265456926483002949696⟩ })] []
theorem k_safety_stop : KT e_safety_stop j_safety_stop [e_safety_atRest, e_safety_pushed] 40 := fun x => by kernel_rfl
theorem o_safety_stop : OT e_safety_stop := entK (tab_cons o_safety_atRest (tab_cons o_safety_pushed tab_nil)) hJ k_safety_stop
def safety_StopFrom (a0 : (Int × Int × Int × Int × Int × Unit)) (a1 : (Int × Int × Int × Unit)) : Option ((List Int) × Int) :=
 (safety_openMotion a0 a1).bind fun x1 =>
 bif !(decide (x1 = 0)) then
  some ([], x1)
 else
  (safety_stop a0 a1).bind fun x2 =>
  (safety_unless x2.2 (12 : Int)).bind fun x3 =>
  some (x2.1, x3)
def e_safety_StopFrom : Entry := ⟨38, [.ty (.pair I (.pair I (.pair I gT))), .ty (.pair I gT)], [((.sl I), 1), (I, 0)], fun x => safety_StopFrom x.1 x.2⟩
def j_safety_StopFrom : TH := mkTH [] []
theorem k_safety_StopFrom : KT e_safety_StopFrom j_safety_StopFrom [e_safety_openMotion, e_safety_stop, e_safety_unless] 40 := fun x => by kernel_rfl
theorem o_safety_StopFrom : OT e_safety_StopFrom := entK (tab_cons o_safety_openMotion (tab_cons o_safety_stop (tab_cons o_safety_unless tab_nil))) hJ k_safety_StopFrom
end
end Go.Proofs.YtkcaaaiihhhnmaaGreat
end
section
namespace Go.Proofs.YtkcaaaiihhhnmaaGreat
open Go Go.Ab Go.Tx
theorem wit (n lo hi : Int) : safety_within n lo hi = some (decide (lo <= n /\ n <= hi)) := by
 unfold safety_within;by_cases h : lo <= n <;> by_cases h' : n <= hi <;> simp [h, h']
theorem Wit (n lo hi : Int) : base_Within n lo hi = some (decide (lo <= n /\ n <= hi)) := by
 unfold base_Within;by_cases h : lo <= n <;> by_cases h' : n <= hi <;> simp [h, h']
theorem wq {n : Int} (h1 : -9223372036854775808 <= n) (h2 : n <= 9223372036854775807) : w64 n = n := wrap_id h1 h2
theorem unl (b : Bool) (e : Int) : safety_unless b e = some (if b then 0 else e) := by cases b <;> rfl
theorem fst_ (l : List Int) (h : l.length <= 1000000000) : safety_first l = some (fst0 l) := by
 unfold safety_first; exact for_first l h
abbrev Rg := Int × Int × Unit
def wOk (w : Rg) : Prop := (-1000000 <= w.1 /\ w.1 <= 1000000) /\ (1 <= w.2.1 /\ w.2.1 <= 8)
instance (w : Rg) : Decidable (wOk w) := by unfold wOk; infer_instance
def hF (m : Int) (x : Rg) : Int := if x.2.1 > m then 1 else 0
theorem Mod_eq {a b : Int} (hb : 1 <= b /\ b <= 4611686018427387904) : ∃ m, base_Mod a b = some m /\ 0 <= m /\ m < b := by
 unfold base_Mod;have h0 : ¬ b = 0 := by omega
 simp only [h0, decide_false, cond_false];have h1 : a.tmod b < b := Int.tmod_lt_of_pos a (by omega);have h2 : -b < a.tmod b := by
  have := Int.lt_tmod_of_pos a (show 0 < b by omega);omega
 by_cases h3 : a.tmod b < 0
 ·refine ⟨a.tmod b + b, ?_, by omega, by omega⟩;simp only [h3, decide_true, cond_true, Option.bind_some];rw [wq (by omega) (by omega)]
 ·exact ⟨a.tmod b, by simp [h3], by omega, h1⟩
end Go.Proofs.YtkcaaaiihhhnmaaGreat
end
section
namespace Go.Proofs.YtkcaaaiihhhnmaaGreat
open Go Go.Ab Go.Tx
abbrev Nm := List UInt8
abbrev Gt := List UInt8 × List (List UInt8) × Int × Unit
abbrev Sg := Int × List UInt8 × List UInt8 × Unit
theorem memS (l : List Nm) (m : Nm) : memK .str l m = decide (m ∈ l) := by
 have := memK_iff (τ := .str) rfl (l := l) (k := m);by_cases h : m ∈ l
 ·rw [decide_eq_true h]; exact this.2 h
 ·rw [decide_eq_false h];cases hm : memK .str l m with
  | false => rfl
  | true => exact absurd (this.1 hm) h
theorem insS (l : List Nm) (k : Nm) : insK .str l k = if k ∈ l then l else l ++ [k] := by
 unfold insK;rw [memS];by_cases h : k ∈ l
 ·rw [decide_eq_true h, if_pos h]; rfl
 ·rw [decide_eq_false h, if_neg h]; rfl
theorem mem_insS (l : List Nm) (m k : Nm) : m ∈ insK .str l k ↔ m ∈ l \/ m = k := by
 rw [insS];split
 ·rename_i h; exact ⟨fun h => .inl h, fun h' => h'.elim id fun e => e ▸ h⟩
 ·simp
theorem for_upto {ρ : Type} (n : Nat) (K : Int -> Option (Int ⊕ (Unit ⊕ ρ))) (q : Nat -> Prop) [∀ i, Decidable (q i)] (r : ρ) (c : Prop) [Decidable c] (hc : c ↔ ∃ j, j < n /\ q j)
  (h : ∀ i, i < n -> K (i : Int) = some (if q i then .inr (.inr r) else .inl ((i : Int) + 1))) :
  loopO (fun s => bif decide (s < (n : Int)) then K s else some (.inr (.inl ()))) 0 = some (if c then .inr r else .inl ()) := by
 refine Ok.eq (loop_up n (fun i (s : Int) => s = (i : Int) /\ ∀ j, j < i -> ¬ q j) _ ⟨rfl, by omega⟩ ?_);rintro i s hi ⟨rfl, hI⟩;by_cases hlt : i < n
 ·have h0 : decide ((i : Int) < (n : Int)) = true := by simp <;> omega
  simp only [h0, cond_true];rw [h i hlt];by_cases hq : q i
  ·rw [if_pos hq, rnd_inr, if_pos (hc.2 ⟨i, hlt, hq⟩)]
  ·rw [if_neg hq, rnd_inl];refine ⟨hlt, by simp, fun j hj => ?_⟩;by_cases e : j = i
   ·subst e; exact hq
   ·exact hI j (by omega)
 ·have h0 : decide ((i : Int) < (n : Int)) = false := by simp <;> omega
  simp only [h0, cond_false];rw [rnd_inr, if_neg (fun h => by
   obtain ⟨j, h1, h2⟩ := hc.1 h;exact hI j (by omega) h2)]
theorem mem_take {α : Type} {l : List α} {i : Nat} {a : α} : a ∈ l.take i ↔ ∃ j, j < i /\ l[j]? = some a := by
 rw [List.mem_iff_getElem?];constructor
 ·rintro ⟨j, h⟩;rw [List.getElem?_take] at h;split at h
  ·exact ⟨j, by assumption, h⟩
  ·cases h
 ·rintro ⟨j, h1, h2⟩;exact ⟨j, by rw [List.getElem?_take, if_pos h1]; exact h2⟩
theorem eachE_app {α : Type} {g : Nat -> α -> Int} : ∀ (l m : List α) (k : Nat), eachE g k (l ++ m) = if (eachE g k l).2 = 0 then eachE g (k + l.length) m else eachE g k l
 | [], m, k => by simp [eachE]
 | a :: l, m, k => by
  simp only [List.cons_append, eachE];by_cases h : g k a = 0
  ·simp only [h, if_true];rw [eachE_app l m (k + 1), List.length_cons, show k + 1 + l.length = k + (l.length + 1) by omega]
  ·simp [h]
theorem eachE_ok {α : Type} {g : Nat -> α -> Int} : ∀ {l : List α} {k : Nat}, (eachE g k l).2 = 0 -> eachE g k l = (0, 0)
 | [], k, _ => rfl
 | a :: l, k, h => by
  simp only [eachE] at h ⊢;by_cases h0 : g k a = 0
  ·simp only [h0, if_true] at h ⊢; exact eachE_ok h
  ·simp [h0] at h
theorem eachE_take {α : Type} {g : Nat -> α -> Int} {l : List α} {i : Nat} {a : α} (h : l[i]? = some a) : (eachE g 0 (l.take (i + 1))).2 = if (eachE g 0 (l.take i)).2 = 0 then g i a else (eachE g 0 (l.take i)).2 := by
 have hlt := len_lt h;rw [take_next a hlt, getD_at h, eachE_app];split
 ·rw [List.length_take, Nat.min_eq_left (by omega), Nat.zero_add];simp only [eachE];by_cases h0 : g i a = 0 <;> simp [h0]
 ·rfl
theorem eachE_hit {α : Type} {g : Nat -> α -> Int} {l : List α} {i : Nat} {a : α} (h : l[i]? = some a) (h0 : (eachE g 0 (l.take i)).2 = 0) (ha : g i a ≠ 0) : eachE g 0 l = ((i : Int), g i a) := by
 have hlt := len_lt h;have hl : l = l.take i ++ a :: l.drop (i + 1) := by
  have h2 : l[i] = a := by
   have := List.getElem?_eq_getElem hlt;rw [this] at h; exact Option.some.inj h
  rw [<- h2, <- List.drop_eq_getElem_cons hlt]; simp
 rw [hl, eachE_app, if_pos h0, List.length_take, Nat.min_eq_left (by omega), Nat.zero_add];simp [eachE, ha]
def letC (c : UInt8) : Bool := decide (97 <= (c.toNat : Int) /\ (c.toNat : Int) <= 122) || decide (65 <= (c.toNat : Int) /\ (c.toNat : Int) <= 90)
def badC (i : Nat) (c : UInt8) : Bool := !letC c && (decide ((i : Int) = 0) || (!decide ((c.toNat : Int) = 45) && !decide (48 <= (c.toNat : Int) /\ (c.toNat : Int) <= 57)))
def isN (s : Nm) : Bool := decide (1 <= (s.length : Int) /\ (s.length : Int) <= 12) && (findI (fun i c => if badC i c = true then some false else none) 0 s).isNone
theorem u8_lt (c : UInt8) : (c.toNat : Int) < 256 := by
 have := UInt8.toNat_lt c; omega
theorem isName_eq (s : Nm) (hl : s.length <= 1000000000) : safety_isName s = some (isN s) := by
 unfold safety_isName;rw [for_find s _ (fun i c => if badC i c = true then some false else none) (fun i c hi => by
  have := len_lt hi;have hu := u8_lt c;rw [idx_of hi];simp only [Option.bind_some];rw [wq (by omega) (by omega)];simp only [wit, Option.bind_some];have c1 : (bif decide (97 <= (c.toNat : Int) /\ (c.toNat : Int) <= 122) then some true else some (decide (65 <= (c.toNat : Int) /\ (c.toNat : Int) <= 90))) = some (letC c) := by
   unfold letC; cases decide (97 <= (c.toNat : Int) /\ (c.toNat : Int) <= 122) <;> rfl
  rw [c1];simp only [Option.bind_some];have c2 : (bif !letC c then bif decide ((i : Int) = 0) then some true else bif !(decide ((c.toNat : Int) = 45)) then some (!decide (48 <= (c.toNat : Int) /\ (c.toNat : Int) <= 57)) else some false else some false) = some (badC i c) := by
   unfold badC;cases letC c <;> cases decide ((i : Int) = 0) <;> cases decide ((c.toNat : Int) = 45) <;> rfl
  rw [c2];simp only [Option.bind_some];cases badC i c
  ·simp only [cond_false, Bool.false_eq_true, if_false, stp]; rw [wq (by omega) (by omega)]
  ·rfl), elim_toSum]
 unfold isN;have hs : ∀ r, findI (fun i c => if badC i c = true then some false else none) 0 s = some r -> r = false := by
  intro r hr;obtain ⟨i, a, _, h2, _⟩ := findI_some hr;split at h2
  ·exact (Option.some.inj h2).symm
  ·cases h2
 cases hf : findI (fun i c => if badC i c = true then some false else none) 0 s with
 | none => simp [wit]
 | some r => rw [hs r hf]; simp
theorem IsName_eq (s : Nm) : base_IsName s = some (isN s) := by
 unfold base_IsName;by_cases h1 : (s.length : Int) < 1
 ·have : ¬ (1 <= (s.length : Int) /\ (s.length : Int) <= 12) := by omega
  simp only [isN, decide_eq_false this, Bool.false_and];simp only [h1, decide_true, cond_true, Option.bind_some]
 ·by_cases h2 : (s.length : Int) > 12
  ·have : ¬ (1 <= (s.length : Int) /\ (s.length : Int) <= 12) := by omega
   simp only [isN, decide_eq_false this, Bool.false_and];simp only [h1, h2, decide_true, decide_false, cond_true, cond_false, Option.bind_some]
  ·have hr : (1 <= (s.length : Int) /\ (s.length : Int) <= 12) := by omega
   simp only [isN, decide_eq_true hr, Bool.true_and];simp only [h1, h2, decide_true, decide_false, cond_true, cond_false, Option.bind_some];rw [for_find s _ (fun i c => if badC i c = true then some false else none) (fun i c hi => by
    have := len_lt hi;have hu := u8_lt c;rw [idx_of hi];simp only [Option.bind_some];have c1 : (bif decide ((c.toNat : Int) >= 97) then bif decide ((c.toNat : Int) <= 122) then some true else bif decide ((c.toNat : Int) >= 65) then some (decide ((c.toNat : Int) <= 90)) else some false
      else bif decide ((c.toNat : Int) >= 65) then some (decide ((c.toNat : Int) <= 90)) else some false) = some (letC c) := by
     unfold letC;by_cases a1 : (c.toNat : Int) >= 97 <;> by_cases a2 : (c.toNat : Int) <= 122 <;> by_cases a3 : (c.toNat : Int) >= 65 <;> by_cases a4 : (c.toNat : Int) <= 90 <;> simp [a1, a2, a3, a4]
    rw [c1];simp only [Option.bind_some];have c2 : (bif !letC c then bif decide ((i : Int) = 0) then some true else bif !(decide ((c.toNat : Int) = 45)) then bif decide ((c.toNat : Int) < 48) then some true else some (decide ((c.toNat : Int) > 57)) else some false else some false) = some (badC i c) := by
     unfold badC;have e : (bif decide ((c.toNat : Int) < 48) then some true else some (decide ((c.toNat : Int) > 57))) = some (!decide (48 <= (c.toNat : Int) /\ (c.toNat : Int) <= 57)) := by
      by_cases a1 : (c.toNat : Int) < 48
      ·have : ¬ (48 <= (c.toNat : Int) /\ (c.toNat : Int) <= 57) := by omega
       rw [decide_eq_true a1, decide_eq_false this]; rfl
      ·rw [decide_eq_false a1];by_cases a2 : (c.toNat : Int) > 57
       ·have : ¬ (48 <= (c.toNat : Int) /\ (c.toNat : Int) <= 57) := by omega
        rw [decide_eq_true a2, decide_eq_false this]; rfl
       ·have : (48 <= (c.toNat : Int) /\ (c.toNat : Int) <= 57) := by omega
        rw [decide_eq_false a2, decide_eq_true this]; rfl
     rw [e];cases letC c <;> cases decide ((i : Int) = 0) <;> cases decide ((c.toNat : Int) = 45) <;> rfl
    rw [c2];simp only [Option.bind_some];cases badC i c
    ·simp only [cond_false, Bool.false_eq_true, if_false, stp]; rw [wq (by omega) (by omega)]
    ·rfl), elim_toSum]
   have hs : ∀ r, findI (fun i c => if badC i c = true then some false else none) 0 s = some r -> r = false := by
    intro r hr;obtain ⟨i, a, _, h2, _⟩ := findI_some hr;split at h2
    ·exact (Option.some.inj h2).symm
    ·cases h2
   cases hf : findI (fun i c => if badC i c = true then some false else none) 0 s with
   | none => simp
   | some r => rw [hs r hf]; simp
theorem isN_len {s : Nm} (h : isN s = true) : s.length <= 12 := by
 unfold isN at h;simp only [Bool.and_eq_true, decide_eq_true_eq] at h;omega
def roleE (l : List Nm) (i : Nat) (r : Nm) : Int := if isN r = true then (if r ∈ l.take i then 23 else 0) else 4
def rolesE (l : List Nm) : Int := (eachE (roleE l) 0 l).2
def gateE (gs : List Gt) (i : Nat) (g : Gt) : Int :=
 if isN g.1 = true then (if g.1 ∈ (gs.take i).map (·.1) then 5 else if (g.2.1.length : Int) <= 4 then (if rolesE g.2.1 = 0 then (if 0 <= g.2.2.1 /\ g.2.2.1 <= 20 then 0 else 2) else rolesE g.2.1) else 8) else 4
def gatesE (gs : List Gt) : Int × Int := if (gs.length : Int) > 0 then (if (gs.length : Int) <= 6 then eachE (gateE gs) 0 gs else (0, 8)) else (0, 10)
structure GB (gs : List Gt) : Prop where
 len : gs.length <= 8
 nm : ∀ g ∈ gs, g.1.length <= 30
 rl : ∀ g ∈ gs, g.2.1.length <= 6
 rn : ∀ g ∈ gs, ∀ r ∈ g.2.1, r.length <= 30
theorem roles_ok (l : List Nm) (e0 : Int) (hl : l.length <= 1000) (hr : ∀ r ∈ l, r.length <= 1000) : (loopO (fun (s14 : (Int × Int × (List (List UInt8)))) =>
        bif decide (s14.2.1 < (l.length : Int)) then
         (idx l s14.2.1).bind fun x15 =>
         (safety_isName x15).bind fun x16 =>
         (safety_first ([if x16 = true then 0 else 4, if (!(memK .str s14.2.2 x15)) = true then 0 else 23])).bind fun x19 =>
         (safety_first ([s14.1, x19])).bind fun x20 =>
         some (.inl (x20, w64 (s14.2.1 + 1), insK .str s14.2.2 x15))
        else
         some (.inr s14.1)) (e0, 0, [])) = some (if e0 = 0 then rolesE l else e0) := by
 refine Ok.eq (loop_up l.length (fun i (st : Int × Int × List Nm) => st.1 = (if e0 = 0 then (eachE (roleE l) 0 (l.take i)).2 else e0) /\ st.2.1 = (i : Int) /\ ∀ r, r ∈ st.2.2 ↔ r ∈ l.take i) _ ⟨by by_cases h : e0 = 0 <;> simp [h, eachE], rfl, by simp⟩ ?_);rintro i ⟨e, i0, kn⟩ hi ⟨e1, e2, e3⟩;simp only at e1 e2 e3;subst e2;by_cases hlt : i < l.length
 ·have h0 : decide ((i : Int) < (l.length : Int)) = true := by simp <;> omega
  obtain ⟨r, hx⟩ : ∃ r, l[i]? = some r := ⟨_, List.getElem?_eq_getElem hlt⟩
  simp only [h0, cond_true];rw [idx_of hx];simp only [Option.bind_some];rw [isName_eq r (by have := hr r (List.mem_of_getElem? hx); omega), memS];simp only [Option.bind_some];rw [fst_ _ (by simp)];simp only [Option.bind_some];rw [fst_ _ (by simp)];simp only [Option.bind_some];rw [rnd_inl];refine ⟨hlt, ?_, ?_, fun r' => ?_⟩
  ·simp only
   rw [eachE_take hx, e1];have hm : (decide (r ∈ kn) = true) ↔ r ∈ l.take i := by rw [decide_eq_true_iff]; exact e3 r
   unfold roleE;by_cases a1 : e0 = 0
   ·simp only [a1, if_true, fst0];by_cases a2 : (eachE (fun i r => if isN r = true then if r ∈ List.take i l then 23 else 0 else 4) 0 (List.take i l)).2 = 0
    ·simp only [a2, if_true];by_cases a3 : isN r = true
     ·by_cases a4 : r ∈ l.take i
      ·have : r ∈ kn := (e3 r).2 a4;simp [a3, a4, this]
      ·have : r ∉ kn := fun h => a4 ((e3 r).1 h);simp [a3, a4, this]
     ·simp [a3]
    ·simp [a2]
   ·simp [a1, fst0]
  ·simp only; rw [wq (by omega) (by omega)]; simp
  ·simp only
   rw [mem_insS, e3, take_next r hlt, getD_at hx]; simp
 ·have : i = l.length := by omega
  subst this;have h0 : decide ((l.length : Int) < (l.length : Int)) = false := by simp
  simp only [h0, cond_false];rw [rnd_inr, e1, List.take_length]; rfl
theorem checkGates_eq {gs : List Gt} (hb : GB gs) : safety_CheckGates gs = some (gatesE gs) := by
 unfold safety_CheckGates gatesE;simp only [unl, Option.bind_some];rw [fst_ _ (by simp)];simp only [Option.bind_some, fst0];by_cases h1 : (gs.length : Int) > 0
 ·by_cases h2 : (gs.length : Int) <= 6
  ·simp only [h1, h2, decide_true, if_true, Bool.not_true, cond_false];refine Ok.eq ?_;rw [ok_bind, ok_elim];refine (loop_up gs.length (fun i (st : Int × List Nm) => st.1 = (i : Int) /\ (∀ r, r ∈ st.2 ↔ r ∈ (gs.take i).map (·.1)) /\ (eachE (gateE gs) 0 (gs.take i)).2 = 0)
    (fun r : List Nm ⊕ (Int × Int × List Nm) => match r with
     | .inl _ => (eachE (gateE gs) 0 gs) = (0, 0)
     | .inr q => (q.1, q.2.1) = eachE (gateE gs) 0 gs) ⟨rfl, by simp, rfl⟩ ?_).mono ?_
   ·rintro i ⟨i0, kn⟩ hi ⟨e1, e2, e3⟩;simp only at e1 e2;subst e1;by_cases hlt : i < gs.length
    ·have h0 : decide ((i : Int) < (gs.length : Int)) = true := by simp <;> omega
     obtain ⟨g, hx⟩ : ∃ g, gs[i]? = some g := ⟨_, List.getElem?_eq_getElem hlt⟩
     have hg := List.mem_of_getElem? hx;simp only [h0, cond_true];rw [idx_of hx];simp only [Option.bind_some];rw [isName_eq g.1 (by have := hb.nm g hg; omega), memS];simp only [Option.bind_some];rw [fst_ _ (by simp)];simp only [Option.bind_some];rw [fst_ _ (by simp)];simp only [Option.bind_some];rw [roles_ok g.2.1 _ (by have := hb.rl g hg; omega) (fun r hr => by have := hb.rn g hg r hr; omega)];simp only [Option.bind_some, wit];rw [fst_ _ (by simp)];simp only [Option.bind_some];have hE : ∀ a b c d : Int, fst0 [a, b] = (if a = 0 then b else a) := by intro a b _ _; simp only [fst0]; by_cases h : a = 0 <;> by_cases h' : b = 0 <;> simp [h, h']
     have c1 : fst0 [if fst0 [fst0 [if isN g.1 = true then 0 else 4, if (!decide (g.1 ∈ kn)) = true then 0 else 5], if decide ((g.2.1.length : Int) <= 4) = true then 0 else 8] = 0 then rolesE g.2.1 else fst0 [fst0 [if isN g.1 = true then 0 else 4, if (!decide (g.1 ∈ kn)) = true then 0 else 5], if decide ((g.2.1.length : Int) <= 4) = true then 0 else 8], if decide (0 <= g.2.2.1 /\ g.2.2.1 <= 20) = true then 0 else 2] = gateE gs i g := by
      simp only [hE _ _ 0 0];unfold gateE;by_cases a1 : isN g.1 = true
      ·by_cases a2 : g.1 ∈ (gs.take i).map (·.1)
       ·have a2' : g.1 ∈ kn := (e2 _).2 a2;rw [if_pos a1, if_pos a2];simp [a1, a2']
       ·have a2' : g.1 ∉ kn := fun h => a2 ((e2 _).1 h);rw [if_pos a1, if_neg a2];by_cases a3 : (g.2.1.length : Int) <= 4
        ·by_cases a4 : rolesE g.2.1 = 0
         ·simp [a1, a2', a3, a4]
         ·simp [a1, a2', a3, a4]
        ·simp [a1, a2', a3]
      ·rw [if_neg a1];simp [a1]
     rw [c1];by_cases h4 : gateE gs i g = 0
     ·simp only [h4, decide_true, Bool.not_true, cond_false];rw [rnd_inl];refine ⟨hlt, ?_, fun r => ?_, ?_⟩
      ·simp only; rw [wq (by omega) (by omega)]; simp
      ·simp only
       rw [mem_insS, e2, take_next g hlt, getD_at hx]; simp
      ·rw [eachE_take hx, if_pos e3]; exact h4
     ·simp only [h4, decide_false, Bool.not_false, cond_true];rw [rnd_inr];simp only
      rw [eachE_hit hx e3 h4]
    ·have : i = gs.length := by omega
     subst this;have h0 : decide ((gs.length : Int) < (gs.length : Int)) = false := by simp
     simp only [h0, cond_false];rw [rnd_inr];simp only
     rw [List.take_length] at e3;exact eachE_ok e3
   ·intro r hr;cases r with
    | inl p => simp only [ok_some]; exact hr.symm
    | inr q => simp only [ok_some]; exact hr
  ·simp only [h1, h2, decide_true, decide_false, if_true, Bool.false_eq_true, if_false, show ((8 : Int) = 0) = False by simp, Bool.not_false, cond_true]
 ·simp only [h1, decide_false, Bool.false_eq_true, if_false, show ((10 : Int) = 0) = False by simp, Bool.not_false, cond_true]
theorem HasText_eq (l : List Nm) (t : Nm) (hl : l.length <= 1000000000) : base_HasText l t = some (decide (t ∈ l)) := by
 unfold base_HasText;rw [for_upto l.length _ (fun j => l[j]? = some t) true (t ∈ l) (by
  rw [List.mem_iff_getElem?];exact ⟨fun ⟨j, h⟩ => ⟨j, len_lt h, h⟩, fun ⟨j, _, h⟩ => ⟨j, h⟩⟩) (fun i hi => by
  have hx : l[i]? = some l[i] := List.getElem?_eq_getElem hi;rw [idx_of hx];simp only [Option.bind_some, hx, Option.some.injEq];by_cases h : l[i] = t
  ·simp [h]
  ·simp only [h, decide_false, cond_false, if_false]; rw [wq (by omega) (by omega)])]
 by_cases h : t ∈ l <;> simp [h]
theorem CheckGates_eq {gs : List Gt} (hb : GB gs) : ref09_CheckGates gs = some (gatesE gs) := by
 unfold ref09_CheckGates gatesE;by_cases h1 : (gs.length : Int) > 0
 ·have h1' : ¬ (gs.length : Int) = 0 := by omega
  by_cases h2 : (gs.length : Int) <= 6
  ·have h2' : ¬ (gs.length : Int) > 6 := by omega
   rw [if_pos h1, if_pos h2, decide_eq_false h1', decide_eq_false h2'];simp only [cond_false];rw [for_find gs _ (fun i a => if gateE gs i a = 0 then none else some ((i : Int), gateE gs i a)) (fun i a hi => by
    have hlt := len_lt hi;have hg := List.mem_of_getElem? hi;have hrl := hb.rl a hg;simp only [idx_of hi, Option.bind_some, IsName_eq];unfold gateE;by_cases a1 : isN a.1 = true
    ·simp only [a1, Bool.not_true, cond_false, if_true];rw [for_upto i _ (fun j => ∃ b, gs[j]? = some b /\ b.1 = a.1) (.inr (.inr ((i : Int), (5 : Int)))) (a.1 ∈ (gs.take i).map (·.1)) (by
      rw [List.mem_map];constructor
      ·rintro ⟨b, hb1, hb2⟩;obtain ⟨j, hj, hj2⟩ := mem_take.1 hb1;exact ⟨j, hj, b, hj2, hb2⟩
      ·rintro ⟨j, hj, b, hj2, hb2⟩;exact ⟨b, mem_take.2 ⟨j, hj, hj2⟩, hb2⟩) (fun j hj => by
      have hx : gs[j]? = some gs[j] := List.getElem?_eq_getElem (by omega);rw [idx_of hx];simp only [Option.bind_some, hx, Option.some.injEq, exists_eq_left'];by_cases h : gs[j].1 = a.1
      ·simp [h]
      ·simp only [h, decide_false, cond_false, if_false]; rw [wq (by omega) (by omega)])]
     by_cases a2 : a.1 ∈ (gs.take i).map (·.1)
     ·simp only [a2, if_true, Option.bind_some, Sum.elim_inr, stp] <;> rfl
     ·simp only [a2, if_false, Option.bind_some, Sum.elim_inl];by_cases a3 : (a.2.1.length : Int) <= 4
      ·have a3' : ¬ (a.2.1.length : Int) > 4 := by omega
       rw [decide_eq_false a3', if_pos a3];simp only [cond_false];rw [for_find a.2.1 _ (fun k r => if roleE a.2.1 k r = 0 then none else some (.inr (.inr ((i : Int), roleE a.2.1 k r)))) (fun k r hk => by
        have hlk := len_lt hk;simp only [idx_of hk, Option.bind_some];unfold roleE;by_cases b1 : isN r = true
        ·simp only [b1, Bool.not_true, cond_false, if_true];rw [slc_in ⟨by omega, by omega, by omega⟩];simp only [Int.toNat_natCast, Option.bind_some, Int.toNat_zero, List.drop_zero];rw [HasText_eq _ _ (by rw [List.length_take]; omega)];simp only [Option.bind_some];by_cases b2 : r ∈ a.2.1.take k
         ·simp [b2, stp]
         ·simp only [b2, decide_false, cond_false, if_false, if_true, stp]; rw [wq (by omega) (by omega)]
        ·simp [b1, stp]), elim_toSum]
       have key : (match findI (fun k r => if roleE a.2.1 k r = 0 then none else some (.inr (.inr ((i : Int), roleE a.2.1 k r)) : Int ⊕ (Unit ⊕ (Int × Int)))) 0 a.2.1 with
         | some r => some r
         | none => (none : Option (Int ⊕ (Unit ⊕ (Int × Int))))) = if rolesE a.2.1 = 0 then none else some (.inr (.inr ((i : Int), rolesE a.2.1))) := by
        have gen : ∀ (l : List Nm) (k : Nat), findI (fun k r => if roleE a.2.1 k r = 0 then none else some (.inr (.inr ((i : Int), roleE a.2.1 k r)) : Int ⊕ (Unit ⊕ (Int × Int)))) k l = if (eachE (roleE a.2.1) k l).2 = 0 then none else some (.inr (.inr ((i : Int), (eachE (roleE a.2.1) k l).2))) := by
         intro l;induction l with
         | nil => intro k; simp [findI, eachE]
         | cons b l ih =>
          intro k;simp only [findI, eachE];by_cases h : roleE a.2.1 k b = 0
          ·simp only [h, if_true]; exact ih (k + 1)
          ·simp [h]
        rw [gen];unfold rolesE;by_cases h : (eachE (roleE a.2.1) 0 a.2.1).2 = 0 <;> simp [h]
       by_cases a4 : rolesE a.2.1 = 0
       ·rw [if_pos a4] at key;rw [if_pos a4];cases hf : findI (fun k r => if roleE a.2.1 k r = 0 then none else some (.inr (.inr ((i : Int), roleE a.2.1 k r)) : Int ⊕ (Unit ⊕ (Int × Int)))) 0 a.2.1 with
        | some r => rw [hf] at key; cases key
        | none =>
         simp only [Wit, Option.bind_some];by_cases a5 : 0 <= a.2.2.1 /\ a.2.2.1 <= 20
         ·simp only [a5, and_self, decide_true, Bool.not_true, cond_false, if_true, stp]; rw [wq (by omega) (by omega)]
         ·simp [a5, stp]
       ·rw [if_neg a4] at key;rw [if_neg a4];cases hf : findI (fun k r => if roleE a.2.1 k r = 0 then none else some (.inr (.inr ((i : Int), roleE a.2.1 k r)) : Int ⊕ (Unit ⊕ (Int × Int)))) 0 a.2.1 with
        | some r => rw [hf] at key; simp only at key; simp only [key]; rw [if_neg a4] <;> rfl
        | none => rw [hf] at key; cases key
      ·have a3' : (a.2.1.length : Int) > 4 := by omega
       rw [decide_eq_true a3', if_neg a3];rfl
    ·simp [a1, stp]), elim_toSum]
   rw [<- findI_each (gateE gs) gs 0];cases findI (fun i a => if gateE gs i a = 0 then none else some ((i : Int), gateE gs i a)) 0 gs <;> rfl
  ·have h2' : (gs.length : Int) > 6 := by omega
   rw [if_pos h1, if_neg h2, decide_eq_false h1', decide_eq_true h2']; rfl
 ·have h1' : (gs.length : Int) = 0 := by omega
  rw [if_neg h1, decide_eq_true h1']; rfl
theorem GatesErr_eq {gs : List Gt} (hb : GB gs) : ref09_GatesErr gs = some (gatesE gs).2 := by
 unfold ref09_GatesErr;rw [CheckGates_eq hb]; rfl
end Go.Proofs.YtkcaaaiihhhnmaaGreat
end
section
namespace Go.Proofs.YtkcaaaiihhhnmaaGreat
open Go Go.Ab Go.Tx
def SB (l : List Sg) : Prop := l.length <= 22 /\ ∀ x ∈ l, x.2.1.length <= 30 /\ x.2.2.1.length <= 30
def signE (G : Int) (l : List Sg) (i : Nat) (x : Sg) : Int := if 0 <= x.1 /\ x.1 <= w64 (G - 1) then (if isN x.2.1 = true /\ isN x.2.2.1 = true then (if x ∈ l.take i then 23 else 0) else 4) else 6
def signsE (G : Int) (l : List Sg) : Int := if (l.length : Int) > 20 then 8 else (eachE (signE G l) 0 l).2
theorem sg_eq (x y : Sg) : (bif decide (x.1 = y.1) then (bif decide (x.2.1 = y.2.1) then (bif decide (x.2.2.1 = y.2.2.1) then true else false) else false) else false) = decide (x = y) := by
 obtain ⟨a, b, c, ⟨⟩⟩ := x;obtain ⟨a', b', c', ⟨⟩⟩ := y;by_cases h1 : a = a' <;> by_cases h2 : b = b' <;> by_cases h3 : c = c' <;> simp [h1, h2, h3]
theorem Contains_eq (l : List Sg) (x : Sg) (hl : l.length <= 1000000000) : slices_Contains_Lapi_SafetySign_api_SafetySign l x = some (decide (x ∈ l)) := by
 unfold slices_Contains_Lapi_SafetySign_api_SafetySign slices_Index_Lapi_SafetySign_api_SafetySign;simp only [sg_eq];obtain ⟨r, h1, h2⟩ := for_idx l (fun y => decide (x = y)) hl;rw [h1];simp only [Option.bind_some, h2];by_cases h : x ∈ l
 ·rw [decide_eq_true h, List.any_eq_true.2 ⟨x, h, by simp⟩]
 ·rw [decide_eq_false h];congr 1
  rw [List.any_eq_false];intro y hy;simp only [decide_eq_true_eq];rintro rfl; exact h hy
theorem signsErr_eq (G : Int) {l : List Sg} (hl : SB l) : safety_signsErr G l = some (signsE G l) := by
 unfold safety_signsErr signsE;obtain ⟨h22, hn⟩ := hl;by_cases h : (l.length : Int) > 20
 ·simp only [h, decide_true, cond_true, if_true]
 ·simp only [h, decide_false, cond_false, if_false];have key := for_each l (fun s2 x3 => ((safety_within x3.1 (0 : Int) (w64 (G - 1))).bind fun x4 =>
       (safety_unless x4 (6 : Int)).bind fun x5 =>
       (safety_isName x3.2.1).bind fun x6 =>
       bif x6 then
        (safety_isName x3.2.2.1).bind fun x7 =>
        (safety_unless x7 (4 : Int)).bind fun x8 =>
        (slc l 0 s2).bind fun x9 =>
        (slices_Contains_Lapi_SafetySign_api_SafetySign x9 x3).bind fun x10 =>
        (safety_unless (!x10) (23 : Int)).bind fun x11 =>
        (safety_first ([x5, x8, x11])).bind fun x12 =>
        some x12
       else
        (safety_unless false (4 : Int)).bind fun x13 =>
        (slc l 0 s2).bind fun x14 =>
        (slices_Contains_Lapi_SafetySign_api_SafetySign x14 x3).bind fun x15 =>
        (safety_unless (!x15) (23 : Int)).bind fun x16 =>
        (safety_first ([x5, x13, x16])).bind fun x17 =>
        some x17)) (signE G l) (fun i a hi => by
   have hlt := len_lt hi;obtain ⟨n1, n2⟩ := hn a (List.mem_of_getElem? hi);simp only [wit, unl, Option.bind_some, isName_eq a.2.1 (by omega), isName_eq a.2.2.1 (by omega)];rw [slc_in ⟨by omega, by omega, by omega⟩];simp only [Int.toNat_natCast, Option.bind_some, Int.toNat_zero, List.drop_zero];rw [Contains_eq _ _ (by rw [List.length_take]; omega)];simp only [Option.bind_some];rw [fst_ _ (by simp), fst_ _ (by simp)];unfold signE;by_cases a1 : 0 <= a.1 /\ a.1 <= w64 (G - 1)
   ·rw [if_pos a1, decide_eq_true a1];cases hq1 : isN a.2.1 <;> cases hq2 : isN a.2.2.1 <;> by_cases a2 : a ∈ l.take i <;> simp [a2, fst0]
   ·rw [if_neg a1, decide_eq_false a1];cases hq1 : isN a.2.1 <;> simp [fst0]) (by omega)
  refine Eq.trans (congrArg (fun o => Option.bind o fun p20 : Int × Int => some p20.2) key) rfl
theorem SignsErr_eq (G : Int) (l : List Sg) : ref09_SignsErr G l = some (signsE G l) := by
 unfold ref09_SignsErr signsE;by_cases h : (l.length : Int) > 20
 ·simp only [h, decide_true, cond_true, if_true]
 ·simp only [h, decide_false, cond_false, if_false];rw [for_find l _ (fun i a => if signE G l i a = 0 then none else some (signE G l i a)) (fun i a hi => by
   have hlt := len_lt hi;simp only [idx_of hi, Option.bind_some, Wit, IsName_eq];unfold signE;by_cases a1 : 0 <= a.1 /\ a.1 <= w64 (G - 1)
   ·simp only [a1, and_self, decide_true, Bool.not_true, cond_false, if_true];have c1 : (bif !isN a.2.1 then some true else some (!isN a.2.2.1)) = some (decide (¬ (isN a.2.1 = true /\ isN a.2.2.1 = true))) := by cases isN a.2.1 <;> cases isN a.2.2.1 <;> rfl
    rw [c1];simp only [Option.bind_some];by_cases a2 : isN a.2.1 = true /\ isN a.2.2.1 = true
    ·simp only [a2, and_self, not_true, decide_false, cond_false, if_true];rw [for_upto i _ (fun j => l[j]? = some a) (.inr (.inr (23 : Int))) (a ∈ l.take i) mem_take (fun j hj => by
      have hx : l[j]? = some l[j] := List.getElem?_eq_getElem (by omega);rw [idx_of hx];simp only [Option.bind_some, hx, Option.some.injEq, sg_eq];by_cases h : l[j] = a
      ·simp [h]
      ·simp only [h, decide_false, cond_false, if_false]; rw [wq (by omega) (by omega)])]
     by_cases a3 : a ∈ l.take i
     ·simp only [a3, if_true, Option.bind_some, Sum.elim_inr, stp] <;> rfl
     ·simp only [a3, if_false, if_true, Option.bind_some, Sum.elim_inl, stp]; rw [wq (by omega) (by omega)]
    ·simp only [a2, not_false_eq_true, decide_true, cond_true, if_false] <;> rfl
   ·simp only [a1, decide_false, Bool.not_false, cond_true, if_false]; rfl), elim_toSum]
  have gen : ∀ (m : List Sg) (k : Nat), findI (fun i a => if signE G l i a = 0 then none else some (signE G l i a)) k m = if (eachE (signE G l) k m).2 = 0 then none else some (eachE (signE G l) k m).2 := by
   intro m;induction m with
   | nil => intro k; simp [findI, eachE]
   | cons b m ih =>
    intro k;simp only [findI, eachE];by_cases h : signE G l k b = 0
    ·simp only [h, if_true]; exact ih (k + 1)
    ·simp [h]
  rw [gen];by_cases h : (eachE (signE G l) 0 l).2 = 0 <;> simp [h]
theorem nodup_take {α : Type} {l : List α} : l.Nodup ↔ ∀ (i : Nat) a, l[i]? = some a -> a ∉ l.take i := by
 rw [List.Nodup, List.pairwise_iff_getElem];constructor
 ·intro h i a hi hm;obtain ⟨j, hj, hj2⟩ := mem_take.1 hm;have h1 := len_lt hi;have h2 := len_lt hj2;have := h j i h2 h1 hj;rw [List.getElem?_eq_getElem h1] at hi;rw [List.getElem?_eq_getElem h2] at hj2;exact this (by rw [Option.some.inj hi, Option.some.inj hj2])
 ·intro h i j hi hj hlt e;exact h j l[j] (List.getElem?_eq_getElem hj) (mem_take.2 ⟨i, hlt, by rw [List.getElem?_eq_getElem hi, e]⟩)
def okS (G : Int) (x : Sg) : Prop := (0 <= x.1 /\ x.1 <= w64 (G - 1)) /\ isN x.2.1 = true /\ isN x.2.2.1 = true
theorem signsE_zero {G : Int} {l : List Sg} : signsE G l = 0 ↔ l.length <= 20 /\ (∀ x ∈ l, okS G x) /\ l.Nodup := by
 unfold signsE;by_cases h : (l.length : Int) > 20
 ·rw [if_pos h];constructor
  ·intro h; omega
  ·rintro ⟨h, _⟩; omega
 ·rw [if_neg h, eachE_zero, nodup_take];simp only [Nat.zero_add];have e : ∀ i x, signE G l i x = 0 ↔ okS G x /\ x ∉ l.take i := by
   intro i x;unfold signE okS;split
   ·rename_i h1;split
    ·rename_i h2;split
     ·rename_i h3; simp [h3]
     ·rename_i h3; simp [h1, h2, h3]
    ·rename_i h2;constructor
     ·intro h; omega
     ·rintro ⟨⟨_, h⟩, _⟩; exact absurd h h2
   ·rename_i h1;constructor
    ·intro h; omega
    ·rintro ⟨⟨h, _⟩, _⟩; exact absurd h h1
  simp only [e];constructor
  ·intro h2;exact ⟨by omega, fun x hx => by
    obtain ⟨i, hi⟩ := List.mem_iff_getElem?.1 hx;exact (h2 i x hi).1, fun i a hi => (h2 i a hi).2⟩
  ·rintro ⟨_, h2, h3⟩ i a hi;exact ⟨h2 a (List.mem_of_getElem? hi), h3 i a hi⟩
def seenB (l : List Sg) (g : Int) (r : Nm) : Bool := l.any fun x => decide (x.1 = g) && decide (x.2.2.1 = r)
def pstep (g : Int) (acc : List Nm) (x : Sg) : List Nm := if x.1 = g then (if x.2.1 ∈ acc then acc else acc ++ [x.2.1]) else acc
def persL (g : Int) (l : List Sg) : List Nm := l.foldl (pstep g) []
def mstep (seen : Nm -> Bool) (i : Nat) (b : List Int) (r : Nm) : List Int := if seen r = true then b else b ++ [(i : Int)]
def missL (seen : Nm -> Bool) (l : List Nm) : List Int := foldI (mstep seen) 0 [] l
theorem mstep_len (seen : Nm -> Bool) (i : Nat) (b : List Int) (r : Nm) : (mstep seen i b r).length <= b.length + 1 := by
 unfold mstep; split <;> simp
theorem foldI_nil {seen : Nm -> Bool} : ∀ {l : List Nm} {k : Nat} {b : List Int}, foldI (mstep seen) k b l = [] ↔ b = [] /\ ∀ r ∈ l, seen r = true
 | [], k, b => by simp [foldI]
 | r :: l, k, b => by
  simp only [foldI];rw [foldI_nil];unfold mstep;by_cases h : seen r = true <;> simp [h]
theorem missL_nil {seen : Nm -> Bool} {l : List Nm} : missL seen l = [] ↔ ∀ r ∈ l, seen r = true := by
 unfold missL; rw [foldI_nil]; simp
theorem foldl_next {α β : Type} {f : β -> α -> β} {b : β} {l : List α} {i : Nat} {a : α} (h : l[i]? = some a) : (l.take (i + 1)).foldl f b = f ((l.take i).foldl f b) a := by
 rw [take_next a (len_lt h), getD_at h, List.foldl_append]; rfl
theorem any_next {α : Type} {f : α -> Bool} {l : List α} {i : Nat} {a : α} (h : l[i]? = some a) : (l.take (i + 1)).any f = ((l.take i).any f || f a) := by
 rw [take_next a (len_lt h), getD_at h, List.any_append]; simp
theorem pers_len (g : Int) : ∀ (l : List Sg) (acc : List Nm), (l.foldl (pstep g) acc).length <= acc.length + l.length
 | [], acc => by simp
 | x :: l, acc => by
  have h1 := pers_len g l (pstep g acc x);have h2 : (pstep g acc x).length <= acc.length + 1 := by
   unfold pstep; split
   ·split <;> simp
   ·omega
  simp only [List.foldl_cons, List.length_cons] <;> omega
theorem missing_eq {gs : List Gt} {g : Nat} {t : Gt} (ht : gs[g]? = some t) (hr : t.2.1.length <= 1000) {l : List Sg} (hl : l.length <= 1000) : safety_missing gs (g : Int) l = some (missL (seenB l g) t.2.1, ((persL g l).length : Int)) := by
 unfold safety_missing;refine Ok.eq ?_;rw [ok_bind];refine (loop_up l.length (fun i (st : Int × List Nm × List Nm) => st.1 = (i : Int) /\ (∀ r, r ∈ st.2.1 ↔ seenB (l.take i) g r = true) /\ st.2.2 = persL g (l.take i))
  (fun r : List Nm × List Nm => (∀ q, q ∈ r.1 ↔ seenB l g q = true) /\ r.2 = persL g l) ⟨rfl, by simp [seenB], rfl⟩ ?_).mono ?_
 ·rintro i ⟨i0, kn, pl⟩ hi ⟨e1, e2, e3⟩;simp only at e1 e2 e3;subst e1;by_cases hlt : i < l.length
  ·have h0 : decide ((i : Int) < (l.length : Int)) = true := by simp <;> omega
   obtain ⟨x, hx⟩ : ∃ x, l[i]? = some x := ⟨_, List.getElem?_eq_getElem hlt⟩
   simp only [h0, cond_true];rw [idx_of hx];simp only [Option.bind_some];have hp : persL g (l.take (i + 1)) = pstep g (persL g (l.take i)) x := foldl_next hx;by_cases hg : x.1 = (g : Int)
   ·simp only [hg, decide_true, cond_true, Option.bind_some];rw [rnd_inl];refine ⟨hlt, ?_, fun r => ?_, ?_⟩
    ·simp only; rw [wq (by omega) (by omega)]; simp
    ·simp only
     rw [mem_insS, e2];unfold seenB;rw [any_next hx];simp only [hg, decide_true, Bool.true_and, Bool.or_eq_true, decide_eq_true_eq];exact ⟨fun h => h.elim .inl fun h => .inr h.symm, fun h => h.elim .inl fun h => .inr h.symm⟩
    ·simp only
     rw [hp, insS, e3]; unfold pstep; rw [if_pos hg]
   ·simp only [hg, decide_false, cond_false, Option.bind_some];rw [rnd_inl];refine ⟨hlt, ?_, fun r => ?_, ?_⟩
    ·simp only; rw [wq (by omega) (by omega)]; simp
    ·simp only
     rw [e2];unfold seenB;rw [any_next hx]; simp [hg]
    ·simp only
     rw [hp, e3]; unfold pstep; rw [if_neg hg]
  ·have : i = l.length := by omega
   subst this;have h0 : decide ((l.length : Int) < (l.length : Int)) = false := by simp
   simp only [h0, cond_false];rw [rnd_inr];rw [List.take_length] at e2 e3;exact ⟨e2, e3⟩
 ·rintro ⟨kn, pl⟩ ⟨h1, h2⟩;simp only at h1 h2;simp only [idx_of ht, Option.bind_some];rw [loop_fold t.2.1 (mstep (seenB l g)) id (fun i b => b.length <= i) (by simp) (fun i r b hi hb => by
   have hlt := len_lt hi;refine ⟨?_, by have := mstep_len (seenB l g) i b r; omega⟩;have h0 : decide ((i : Int) < (t.2.1.length : Int)) = true := by simp <;> omega
   simp only [h0, cond_true, idx_of hi, Option.bind_some, memS];unfold mstep;by_cases hs : seenB l g r = true
   ·have : r ∈ kn := (h1 r).2 hs;simp only [this, hs, decide_true, Bool.not_true, cond_false, if_true, Option.bind_some];rw [wq (by omega) (by omega)]
   ·have : r ∉ kn := fun h => hs ((h1 r).1 h);simp only [this, decide_false, Bool.not_false, cond_true];rw [app_one (by omega), if_neg hs];simp only [Option.bind_some];rw [wq (by omega) (by omega)]) (fun b hb => by simp)]
  simp only [Option.bind_some, id, ok_some, h2] <;> rfl
theorem Persons_eq (g : Int) {l : List Sg} (hl : l.length <= 1000) : ref09_Persons g l = some ((persL g l).length : Int) := by
 unfold ref09_Persons;refine Ok.eq ?_;rw [ok_bind];refine (loop_up l.length (fun i (st : List Nm × Int) => st.1 = persL g (l.take i) /\ st.2 = (i : Int)) (fun r => r = persL g l) ⟨rfl, rfl⟩ ?_).mono (fun r hr => by rw [hr, ok_some]);rintro i ⟨pl, i0⟩ hi ⟨e1, e2⟩;simp only at e1 e2;subst e2;have hpl : pl.length <= 1000 := by
  have := pers_len g (l.take i) [];rw [List.length_take] at this;rw [e1]; unfold persL; simp only [List.length_nil] at this; omega
 by_cases hlt : i < l.length
 ·have h0 : decide ((i : Int) < (l.length : Int)) = true := by simp <;> omega
  obtain ⟨x, hx⟩ : ∃ x, l[i]? = some x := ⟨_, List.getElem?_eq_getElem hlt⟩
  have hp : persL g (l.take (i + 1)) = pstep g (persL g (l.take i)) x := foldl_next hx;simp only [h0, cond_true, idx_of hx, Option.bind_some];rw [HasText_eq _ _ (by omega)];simp only [Option.bind_some];by_cases hg : x.1 = g
  ·simp only [hg, decide_true, cond_true, Option.bind_some];by_cases hm : x.2.1 ∈ pl
   ·simp only [hm, decide_true, Bool.not_true, cond_false, Option.bind_some];rw [rnd_inl];refine ⟨hlt, ?_, ?_⟩
    ·simp only; rw [hp, <- e1]; unfold pstep; rw [if_pos hg, if_pos hm]
    ·simp only; rw [wq (by omega) (by omega)]; simp
   ·simp only [hm, decide_false, Bool.not_false, cond_true];rw [app_one (by omega)];simp only [Option.bind_some];rw [rnd_inl];refine ⟨hlt, ?_, ?_⟩
    ·simp only; rw [hp, <- e1]; unfold pstep; rw [if_pos hg, if_neg hm]
    ·simp only; rw [wq (by omega) (by omega)]; simp
  ·simp only [hg, decide_false, cond_false, Option.bind_some];rw [rnd_inl];refine ⟨hlt, ?_, ?_⟩
   ·simp only; rw [hp, <- e1]; unfold pstep; rw [if_neg hg]
   ·simp only; rw [wq (by omega) (by omega)]; simp
 ·have : i = l.length := by omega
  subst this;have h0 : decide ((l.length : Int) < (l.length : Int)) = false := by simp
  simp only [h0, cond_false];rw [rnd_inr, e1, List.take_length]
def lackB (l : List Sg) (i : Nat) (t : Gt) : Bool := decide (((missL (seenB l i) t.2.1).length : Int) > 0) || decide (((persL i l).length : Int) < t.2.2.1)
def levelF (gs : List Gt) (l : List Sg) : Option Int := findI (fun i t => if lackB l i t = true then some (i : Int) else none) 0 gs
def level (gs : List Gt) (l : List Sg) : Int := (levelF gs l).getD gs.length
theorem LevelBy_eq {gs : List Gt} (hb : GB gs) {l : List Sg} (hl : SB l) : safety_LevelBy gs l = some (if (gatesE gs).2 = 0 then (if signsE gs.length l = 0 then (level gs l, 0) else (0, signsE gs.length l)) else (0, (gatesE gs).2)) := by
 unfold safety_LevelBy;rw [checkGates_eq hb];simp only [Option.bind_some, signsErr_eq _ hl];rw [fst_ _ (by simp)];simp only [Option.bind_some, fst0];by_cases h1 : (gatesE gs).2 = 0
 ·by_cases h2 : signsE gs.length l = 0
  ·simp only [h1, h2, if_true, decide_true, Bool.not_true, cond_false];rw [for_find gs _ (fun i t => if lackB l i t = true then some ((i : Int), (0 : Int)) else none) (fun i t hi => by
    have hlt := len_lt hi;have := hb.rl t (List.mem_of_getElem? hi);have := hb.len;have := hl.1;simp only [idx_of hi, Option.bind_some];rw [missing_eq hi (by omega) (by omega)];simp only [Option.bind_some];have c1 : (bif decide (((missL (seenB l i) t.2.1).length : Int) > 0) then some true else some (decide (((persL i l).length : Int) < t.2.2.1))) = some (lackB l i t) := by
     unfold lackB; cases decide (((missL (seenB l i) t.2.1).length : Int) > 0) <;> rfl
    rw [c1];simp only [Option.bind_some];cases lackB l i t
    ·simp only [cond_false, Bool.false_eq_true, if_false, stp]; rw [wq (by omega) (by omega)]
    ·rfl), elim_toSum]
   have gen : ∀ (m : List Gt) (k : Nat), findI (fun i t => if lackB l i t = true then some ((i : Int), (0 : Int)) else none) k m = (findI (fun i t => if lackB l i t = true then some (i : Int) else none) k m).map fun i => (i, 0) := by
    intro m;induction m with
    | nil => intro k; rfl
    | cons b m ih =>
     intro k;simp only [findI];cases lackB l k b
     ·simp only [Bool.false_eq_true, if_false]; exact ih (k + 1)
     ·rfl
   rw [gen];unfold level levelF;cases findI (fun i t => if lackB l i t = true then some (i : Int) else none) 0 gs <;> rfl
  ·simp [h1, h2]
 ·simp [h1]
theorem MissingAt_eq {gs : List Gt} (hb : GB gs) {l : List Sg} (hl : SB l) {g : Nat} {t : Gt} (ht : gs[g]? = some t) (h1 : (gatesE gs).2 = 0) (h2 : signsE gs.length l = 0) : safety_MissingAt gs (g : Int) l = some (missL (seenB l g) t.2.1, 0) := by
 unfold safety_MissingAt;have hlt := len_lt ht;have := hb.len;have := hb.rl t (List.mem_of_getElem? ht);have := hl.1;rw [checkGates_eq hb];simp only [Option.bind_some, signsErr_eq _ hl, wit, unl];rw [fst_ _ (by simp), wq (by omega) (by omega)];have hr : (0 <= (g : Int) /\ (g : Int) <= (gs.length : Int) - 1) := by omega
 simp only [Option.bind_some, h1, h2, fst0, decide_eq_true hr, if_true, decide_true, Bool.not_true, cond_false];rw [missing_eq ht (by omega) (by omega)]; rfl
end Go.Proofs.YtkcaaaiihhhnmaaGreat
end
section
namespace Go.Proofs.YtkcaaaiihhhnmaaGreat
open Go Go.Ab Go.Tx
def okG (g : Gt) : Prop := g.1.length <= 30 /\ g.2.1.length <= 6 /\ ∀ r ∈ g.2.1, r.length <= 30
theorem fewGates_ok (gs : List Gt) : ∃ b, law09_fewGates gs = some b /\ (b = true -> GB gs) := by
 unfold law09_fewGates;by_cases h8 : (gs.length : Int) > 8
 ·exact ⟨false, by simp [h8], fun h => by cases h⟩
 ·simp only [h8, decide_false, cond_false];have key : Ok (loopO (fun (s2 : Int) =>
    bif decide (s2 < (gs.length : Int)) then
     ((idx gs s2).bind fun x3 =>
      bif decide ((x3.1.length : Int) > 30) then
       some true
      else
       (idx gs s2).bind fun x4 =>
       some (decide ((x4.2.1.length : Int) > 6))).bind fun (p5 : Bool) =>
     bif p5 then
      some (.inr (.inr false))
     else
      (loopO (fun (s7 : Int) =>
        (idx gs s2).bind fun x8 =>
        bif decide (s7 < (x8.2.1.length : Int)) then
         (idx gs s2).bind fun x9 =>
         (idx x9.2.1 s7).bind fun x10 =>
         bif decide ((x10.length : Int) > 30) then
          some (.inr (.inr (.inr (.inr false))))
         else
          some (.inl (w64 (s7 + 1)))
        else
         some (.inr (.inl ()))) 0).bind (Sum.elim (fun (p11 : Unit) =>
      some (.inl (w64 (s2 + 1)))) some)
    else
     some (.inr (.inl ()))) 0) (fun r : Unit ⊕ Bool => match r with
    | .inl _ => GB gs
    | .inr b => b = false) := by
   refine loop_up gs.length (fun i (s : Int) => s = (i : Int) /\ ∀ j t, j < i -> gs[j]? = some t -> okG t) _ ⟨rfl, by omega⟩ ?_;rintro i s hi ⟨rfl, hI⟩;by_cases hlt : i < gs.length
   ·have h0 : decide ((i : Int) < (gs.length : Int)) = true := by simp <;> omega
    obtain ⟨t, hx⟩ : ∃ t, gs[i]? = some t := ⟨_, List.getElem?_eq_getElem hlt⟩
    simp only [h0, cond_true, idx_of hx, Option.bind_some];by_cases a1 : (t.1.length : Int) > 30
    ·simp only [a1, decide_true, cond_true, Option.bind_some];rw [rnd_inr]
    ·by_cases a2 : (t.2.1.length : Int) > 6
     ·simp only [a1, a2, decide_true, decide_false, cond_false, cond_true, Option.bind_some];rw [rnd_inr]
     ·simp only [a1, a2, decide_false, cond_false, Option.bind_some];rw [rnd_elim];refine (loop_up t.2.1.length (fun k (s : Int) => s = (k : Int) /\ ∀ j r, j < k -> t.2.1[j]? = some r -> r.length <= 30) (fun r : Unit ⊕ (Int ⊕ (Unit ⊕ Bool)) => match r with
       | .inl _ => okG t
       | .inr b => b = .inr (.inr false)) ⟨rfl, by omega⟩ ?_).mono ?_
      ·rintro k s hk ⟨rfl, hK⟩;by_cases hlt2 : k < t.2.1.length
       ·have h0 : decide ((k : Int) < (t.2.1.length : Int)) = true := by simp <;> omega
        obtain ⟨r, hr⟩ : ∃ r, t.2.1[k]? = some r := ⟨_, List.getElem?_eq_getElem hlt2⟩
        simp only [h0, cond_true, idx_of hr, Option.bind_some];by_cases a3 : (r.length : Int) > 30
        ·simp only [a3, decide_true, cond_true];rw [rnd_inr]
        ·simp only [a3, decide_false, cond_false];rw [wq (by omega) (by omega), rnd_inl];refine ⟨hlt2, by simp, fun j q hj hq => ?_⟩;by_cases e : j = k
         ·subst e; rw [hr] at hq; cases hq; omega
         ·exact hK j q (by omega) hq
       ·have : k = t.2.1.length := by omega
        subst this;have h0 : decide ((t.2.1.length : Int) < (t.2.1.length : Int)) = false := by simp
        simp only [h0, cond_false];rw [rnd_inr];refine ⟨by omega, by omega, fun r hr => ?_⟩;obtain ⟨j, hj⟩ := List.mem_iff_getElem?.1 hr;exact hK j r (len_lt hj) hj
      ·intro r hr;cases r with
       | inl _ =>
        simp only at hr ⊢;rw [wq (by omega) (by omega), rnd_inl];refine ⟨hlt, by simp, fun j q hj hq => ?_⟩;by_cases e : j = i
        ·subst e; rw [hx] at hq; cases hq; exact hr
        ·exact hI j q (by omega) hq
       | inr b =>
        simp only at hr ⊢;subst hr;simp only
   ·have : i = gs.length := by omega
    subst this;have h0 : decide ((gs.length : Int) < (gs.length : Int)) = false := by simp
    simp only [h0, cond_false];rw [rnd_inr];have hall : ∀ t ∈ gs, okG t := fun t ht => by
     obtain ⟨j, hj⟩ := List.mem_iff_getElem?.1 ht;exact hI j t (len_lt hj) hj
    exact ⟨by omega, fun t ht => (hall t ht).1, fun t ht => (hall t ht).2.1, fun t ht => (hall t ht).2.2⟩
  obtain ⟨r, h1, h2⟩ := key;rw [h1];cases r with
  | inl _ => exact ⟨true, rfl, fun _ => h2⟩
  | inr b => exact ⟨b, rfl, fun h => by rw [h2] at h; cases h⟩
theorem CopyGates_eq {gs : List Gt} (hb : GB gs) : ref09_CopyGates gs = some gs := by
 unfold ref09_CopyGates base_CopyTexts;have h8 := hb.len;rw [for_map gs (fun t : Gt => t) (fun i t out hi ho => by
  have hlt := len_lt hi;have := hb.rl t (List.mem_of_getElem? hi);have h0 : decide ((i : Int) < (gs.length : Int)) = true := by simp <;> omega
  simp only [h0, cond_true, idx_of hi, Option.bind_some];rw [app_nil (by omega)];simp only [Option.bind_some];rw [app_one (by omega)];simp only [Option.bind_some];rw [wq (by omega) (by omega)]) (fun out ho => by simp)]
 simp
theorem CopySigns_eq {l : List Sg} (h : l.length <= 1000) : ref09_CopySigns l = some l := by
 unfold ref09_CopySigns;rw [app_nil (by omega)]; rfl
theorem nodup_len {α : Type} [DecidableEq α] : ∀ {l m : List α}, l.Nodup -> (∀ a ∈ l, a ∈ m) -> l.length <= m.length
 | [], m, _, _ => by simp
 | a :: l, m, hn, h => by
  have ha : a ∈ m := h a (by simp);obtain ⟨h1, h2⟩ := List.nodup_cons.1 hn;have := nodup_len (l := l) (m := m.erase a) h2 (fun b hb => by
   have hne : b ≠ a := fun e => h1 (e ▸ hb);exact (List.mem_erase_of_ne hne).2 (h b (by simp [hb])))
  rw [List.length_erase_of_mem ha] at this;have := List.length_pos_of_mem ha;simp only [List.length_cons] <;> omega
theorem pers_mem (g : Int) : ∀ (l : List Sg) (acc : List Nm) (n : Nm), n ∈ l.foldl (pstep g) acc ↔ n ∈ acc \/ ∃ x ∈ l, x.1 = g /\ x.2.1 = n
 | [], acc, n => by simp
 | x :: l, acc, n => by
  rw [List.foldl_cons, pers_mem g l];have h : n ∈ pstep g acc x ↔ n ∈ acc \/ (x.1 = g /\ x.2.1 = n) := by
   unfold pstep;by_cases hg : x.1 = g
   ·by_cases hm : x.2.1 ∈ acc
    ·rw [if_pos hg, if_pos hm];exact ⟨.inl, fun h => h.elim id fun ⟨_, e⟩ => e ▸ hm⟩
    ·rw [if_pos hg, if_neg hm, List.mem_append, List.mem_singleton];exact ⟨fun h => h.elim .inl fun e => .inr ⟨hg, e.symm⟩, fun h => h.elim .inl fun e => .inr e.2.symm⟩
   ·rw [if_neg hg];exact ⟨.inl, fun h => h.elim id fun e => absurd e.1 hg⟩
  rw [h];simp only [List.mem_cons, exists_eq_or_imp, or_assoc]
theorem pers_nodup (g : Int) : ∀ (l : List Sg) (acc : List Nm), acc.Nodup -> (l.foldl (pstep g) acc).Nodup
 | [], acc, h => h
 | x :: l, acc, h => by
  refine pers_nodup g l _ ?_;unfold pstep;split
  ·split
   ·exact h
   ·rename_i hm;rw [List.nodup_append];refine ⟨h, by simp, fun a ha b hb => ?_⟩;rw [List.mem_singleton] at hb;rintro rfl;exact hm (hb ▸ ha)
  ·exact h
theorem pers_mono {l m : List Sg} (h : ∀ x ∈ l, x ∈ m) (g : Int) : (persL g l).length <= (persL g m).length := by
 refine nodup_len (pers_nodup g l [] (by simp)) fun n hn => ?_;obtain h0 | ⟨x, hx, h1⟩ := (pers_mem g l [] n).1 hn
 ·cases h0
 ·exact (pers_mem g m [] n).2 (.inr ⟨x, h x hx, h1⟩)
theorem seen_mono {l m : List Sg} (h : ∀ x ∈ l, x ∈ m) {g : Int} {r : Nm} (hs : seenB l g r = true) : seenB m g r = true := by
 unfold seenB at hs ⊢;obtain ⟨x, hx, h1⟩ := List.any_eq_true.1 hs;exact List.any_eq_true.2 ⟨x, h x hx, h1⟩
theorem lack_iff {l : List Sg} {i : Nat} {t : Gt} : lackB l i t = true ↔ missL (seenB l i) t.2.1 ≠ [] \/ ((persL i l).length : Int) < t.2.2.1 := by
 unfold lackB;simp only [Bool.or_eq_true, decide_eq_true_eq];rw [show (((missL (seenB l i) t.2.1).length : Int) > 0) ↔ missL (seenB l i) t.2.1 ≠ [] by
  rw [<- List.length_pos_iff]; omega]
theorem lack_mono {l m : List Sg} (h : ∀ x ∈ l, x ∈ m) {i : Nat} {t : Gt} (hl : lackB m i t = true) : lackB l i t = true := by
 rw [lack_iff] at hl ⊢;rcases hl with hl | hl
 ·left
  intro e;rw [missL_nil] at e;exact hl (missL_nil.2 fun r hr => seen_mono h (e r hr))
 ·right
  have := pers_mono h (i : Int);omega
theorem level_spec (gs : List Gt) (l : List Sg) : ∃ n : Nat, level gs l = n /\ n <= gs.length /\ (∀ j t, j < n -> gs[j]? = some t -> lackB l j t = false) /\ (n < gs.length -> ∃ t, gs[n]? = some t /\ lackB l n t = true) := by
 unfold level levelF;cases hf : findI (fun i t => if lackB l i t = true then some (i : Int) else none) 0 gs with
 | none =>
  rw [findI_none] at hf;refine ⟨gs.length, rfl, Nat.le_refl _, fun j t hj ht => ?_, by omega⟩;have := hf j t ht;rw [Nat.zero_add] at this;cases h : lackB l j t
  ·rfl
  ·rw [if_pos h] at this; cases this
 | some r =>
  obtain ⟨i, t, h1, h2, h3⟩ := findI_some hf;simp only [Nat.zero_add] at h2 h3;have hlt := len_lt h1;split at h2
  ·rename_i hl;cases h2;refine ⟨i, rfl, by omega, fun j u hj hu => ?_, fun _ => ⟨t, h1, hl⟩⟩;have := h3 j u hj hu;cases h : lackB l j u
   ·rfl
   ·rw [if_pos h] at this; cases this
  ·cases h2
theorem level_at {gs : List Gt} {l : List Sg} {i : Nat} {t : Gt} (ht : gs[i]? = some t) (h : lackB l i t = true) : level gs l <= i := by
 obtain ⟨n, h1, h2, h3, h4⟩ := level_spec gs l;rw [h1];by_cases hc : i < n
 ·rw [h3 i t hc ht] at h; cases h
 ·omega
theorem level_mono {gs : List Gt} {l m : List Sg} (h : ∀ x ∈ l, x ∈ m) : level gs l <= level gs m := by
 obtain ⟨n, h1, h2, h3, h4⟩ := level_spec gs m;by_cases hc : n < gs.length
 ·obtain ⟨t, ht, hl⟩ := h4 hc;rw [h1];exact level_at ht (lack_mono h hl)
 ·obtain ⟨n', h1', h2', _, _⟩ := level_spec gs l;omega
theorem gates_pos {gs : List Gt} (h : (gatesE gs).2 = 0) : 0 < gs.length /\ gs.length <= 6 := by
 unfold gatesE at h;split at h
 ·split at h
  ·omega
  ·simp at h
 ·simp at h
theorem signs_SB {G : Int} {l : List Sg} (h : signsE G l = 0) : SB l := by
 obtain ⟨h1, h2, _⟩ := signsE_zero.1 h;refine ⟨by omega, fun x hx => ?_⟩;obtain ⟨_, a, b⟩ := h2 x hx;have := isN_len a; have := isN_len b;omega
theorem signs_sub {G : Int} {l m : List Sg} (h : signsE G l = 0) (h1 : m.length <= l.length) (h2 : ∀ x ∈ m, x ∈ l) (h3 : m.Nodup) : signsE G m = 0 := by
 obtain ⟨a, b, _⟩ := signsE_zero.1 h;exact signsE_zero.2 ⟨by omega, fun x hx => b x (h2 x hx), h3⟩
theorem turn_ok (l : List Sg) (at_ : Int) (hl : l.length <= 1000) :
  loopO (fun (s30 : ((List (Int × (List UInt8) × (List UInt8) × Unit)) × (List (Int × (List UInt8) × (List UInt8) × Unit)) × Int)) =>
      bif decide (s30.2.2 >= 0) then
       (idx l s30.2.2).bind fun x31 =>
       (app s30.1 ([x31])).bind fun x32 =>
       (idx l s30.2.2).bind fun x33 =>
       (bif !(decide (x33.1 = at_)) then
         (idx l s30.2.2).bind fun x34 =>
         (app s30.2.1 ([x34])).bind fun x35 =>
         some x35
        else
         some s30.2.1).bind fun (p36 : (List (Int × (List UInt8) × (List UInt8) × Unit))) =>
       some (.inl (x32, p36, w64 (s30.2.2 - 1)))
      else
       some (.inr (s30.1, s30.2.1))) ([], [], w64 ((l.length : Int) - 1)) = some (l.reverse, l.reverse.filter fun x => !decide (x.1 = at_)) := by
 rw [wq (by omega) (by omega)];refine Ok.eq (loop_up l.length (fun k (st : List Sg × List Sg × Int) => st.2.2 = (l.length : Int) - 1 - (k : Int) /\ st.1 = l.reverse.take k /\ st.2.1 = (l.reverse.take k).filter fun x => !decide (x.1 = at_)) _ ⟨by simp, rfl, rfl⟩ ?_);rintro k ⟨a, b, i⟩ hk ⟨e1, e2, e3⟩;simp only at e1 e2 e3;have ha : a.length <= 1000 := by rw [e2, List.length_take, List.length_reverse]; omega
 have hbl : b.length <= 1000 := by
  rw [e3];refine Nat.le_trans (List.length_filter_le _ _) ?_;rw [List.length_take, List.length_reverse]; omega
 by_cases hlt : k < l.length
 ·have h0 : decide (i >= 0) = true := by simp <;> omega
  have hi : i = ((l.length - 1 - k : Nat) : Int) := by omega
  obtain ⟨x, hx⟩ : ∃ x, l[l.length - 1 - k]? = some x := ⟨_, List.getElem?_eq_getElem (by omega)⟩
  have hxr : l.reverse[k]? = some x := by rw [List.getElem?_reverse hlt]; exact hx
  have hn : l.reverse.take (k + 1) = l.reverse.take k ++ [x] := by rw [take_next x (len_lt hxr), getD_at hxr]
  simp only [h0, cond_true];rw [hi, idx_of hx];simp only [Option.bind_some];rw [app_one (by omega)];simp only [Option.bind_some];by_cases hg : x.1 = at_
  ·simp only [hg, decide_true, Bool.not_true, cond_false, Option.bind_some];rw [rnd_inl];refine ⟨hlt, ?_, ?_, ?_⟩
   ·simp only; rw [wq (by omega) (by omega)]; omega
   ·simp only; rw [hn, e2]
   ·simp only; rw [hn, e3, List.filter_append]; simp [hg]
  ·simp only [hg, decide_false, Bool.not_false, cond_true];rw [app_one (by omega)];simp only [Option.bind_some];rw [rnd_inl];refine ⟨hlt, ?_, ?_, ?_⟩
   ·simp only; rw [wq (by omega) (by omega)]; omega
   ·simp only; rw [hn, e2]
   ·simp only; rw [hn, e3, List.filter_append]; simp [hg]
 ·have : k = l.length := by omega
  subst this;have h0 : decide (i >= 0) = false := by simp <;> omega
  simp only [h0, cond_false];rw [rnd_inr, e2, e3, List.take_of_length_le (by simp)]
theorem SafetyBehind_all (gs : List Gt) (l : List Sg) (d : Int × Int × Unit) : law09_SafetyBehind gs l d = some true := by
 unfold law09_SafetyBehind law09_awake;simp only [Option.bind_some, Bool.not_true, cond_false];obtain ⟨b1, e1, h1⟩ := fewGates_ok gs;rw [e1];cases b1 with
 | false => simp
 | true =>
  have hb := h1 rfl;have h8 := hb.len;simp only [Option.bind_some, Bool.not_true, cond_false, GatesErr_eq hb];by_cases E1 : (gatesE gs).2 = 0
  ·by_cases h20 : (l.length : Int) > 20
   ·simp [E1, h20]
   ·simp only [E1, h20, decide_true, decide_false, Bool.not_true, cond_false, Option.bind_some, SignsErr_eq];by_cases E2 : signsE gs.length l = 0
    ·have hs := signs_SB E2;have hs22 := hs.1;obtain ⟨hg0, hg6⟩ := gates_pos E1;obtain ⟨_, _, hnd⟩ := signsE_zero.1 E2;have hlev : ∀ {m : List Sg}, signsE gs.length m = 0 -> safety_LevelBy gs m = some (level gs m, 0) := fun {m} hm => by
      rw [LevelBy_eq hb (signs_SB hm), if_pos E1, if_pos hm]
     simp only [E2, decide_true, Bool.not_true, cond_false, Option.bind_some, CopyGates_eq hb, CopySigns_eq (show l.length <= 1000 by omega), hlev E2, Wit];obtain ⟨n, v1, v2, v3, v4⟩ := level_spec gs l;have r1 : (0 <= level gs l /\ level gs l <= (gs.length : Int)) := by omega
     simp only [r1, and_self, decide_true, Bool.not_true, cond_false]
     -- the first gate that lacks something
     have step1 : (bif decide (level gs l < (gs.length : Int)) then
       (safety_MissingAt gs (level gs l) l).bind fun x13 =>
       (bif !(decide (x13.2 = 0)) then
         some true
        else
         bif decide ((x13.1.length : Int) = 0) then
          (ref09_Persons (level gs l) l).bind fun x14 =>
          (idx gs (level gs l)).bind fun x15 =>
          some (decide (x14 >= x15.2.2.1))
         else
          some false).bind fun (p16 : Bool) =>
       bif p16 then
        some (.inr false)
       else
        some (.inl ())
      else
       some (.inl ())) = (some (.inl ()) : Option (Unit ⊕ Bool)) := by
      by_cases hc : n < gs.length
      ·obtain ⟨t, ht, hl⟩ := v4 hc;have hc' : level gs l < (gs.length : Int) := by omega
       simp only [hc', decide_true, cond_true];rw [v1, MissingAt_eq hb hs ht E1 E2, Persons_eq _ (by omega), idx_of ht];simp only [Option.bind_some, decide_true, Bool.not_true, cond_false];rw [lack_iff] at hl;by_cases hm : missL (seenB l n) t.2.1 = []
       ·have hp : ((persL n l).length : Int) < t.2.2.1 := hl.elim (fun h => absurd hm h) id;have hp' : ¬ ((persL n l).length : Int) >= t.2.2.1 := by omega
        simp [hm, hp']
       ·have : ¬ (((missL (seenB l n) t.2.1).length : Int) = 0) := by
         have := List.length_pos_iff.2 hm; omega
        simp only [decide_eq_false this, cond_false, Option.bind_some]
      ·have hc' : ¬ level gs l < (gs.length : Int) := by omega
       simp only [hc', decide_false, cond_false]
     rw [step1];simp only [Option.bind_some, Sum.elim_inl]
     -- the gates before it
     have step2 : loopO (fun (s19 : Int) =>
      bif decide (s19 < level gs l) then
       (safety_MissingAt gs s19 l).bind fun x22 =>
       (bif !(decide (x22.2 = 0)) then
         some true
        else
         bif !(decide ((x22.1.length : Int) = 0)) then
          some true
         else
          (ref09_Persons s19 l).bind fun x23 =>
          (idx gs s19).bind fun x24 =>
          some (decide (x23 < x24.2.2.1))).bind fun (p25 : Bool) =>
       bif p25 then
        some (.inr (.inr false))
       else
        some (.inl (w64 (s19 + 1)))
      else
       some (.inr (.inl ()))) 0 = (some (.inl ()) : Option (Unit ⊕ Bool)) := by
      rw [v1, for_upto n _ (fun _ => False) false False (by simp) (fun j hj => by
       obtain ⟨t, ht⟩ : ∃ t, gs[j]? = some t := ⟨_, List.getElem?_eq_getElem (by omega)⟩
       have hk := v3 j t hj ht;have hk' : ¬ (missL (seenB l j) t.2.1 ≠ [] \/ ((persL j l).length : Int) < t.2.2.1) := fun h => by
        rw [lack_iff.2 h] at hk; cases hk
       have hm : missL (seenB l j) t.2.1 = [] := Decidable.byContradiction fun h => hk' (.inl h);have hp : ¬ ((persL j l).length : Int) < t.2.2.1 := fun h => hk' (.inr h);rw [MissingAt_eq hb hs ht E1 E2, Persons_eq _ (by omega), idx_of ht];simp only [Option.bind_some, decide_true, Bool.not_true, cond_false, hm, List.length_nil, hp, decide_false, if_false];rw [wq (by omega) (by omega)]; rfl)]
      simp
     rw [step2];simp only [Option.bind_some, Sum.elim_inl];obtain ⟨m, q1, q2, q3⟩ := Mod_eq (a := d.1) (b := (gs.length : Int)) (by omega);obtain ⟨a, rfl⟩ : ∃ a : Nat, m = a := ⟨m.toNat, by omega⟩
     rw [q1];simp only [Option.bind_some];rw [turn_ok l a (by omega)];have hr0 : signsE gs.length l.reverse = 0 := signs_sub E2 (by simp) (fun x hx => List.mem_reverse.1 hx) (by
      have : List.Pairwise (fun a b => a ≠ b) l.reverse := List.pairwise_reverse.2 (hnd.imp fun h => h.symm);exact this)
     have hf0 : signsE gs.length (l.reverse.filter fun x => !decide (x.1 = (a : Int))) = 0 := signs_sub hr0 (List.length_filter_le _ _) (fun x hx => (List.mem_filter.1 hx).1) ((signsE_zero.1 hr0).2.2.filter _);simp only [Option.bind_some, hlev hr0, hlev hf0];have k1 : level gs l.reverse = level gs l := by
      have a1 := level_mono (gs := gs) (l := l.reverse) (m := l) fun x hx => List.mem_reverse.1 hx;have a2 := level_mono (gs := gs) (l := l) (m := l.reverse) fun x hx => List.mem_reverse.2 hx;omega
     have k2 : ¬ level gs (l.reverse.filter fun x => !decide (x.1 = (a : Int))) > level gs l := by
      have a1 := level_mono (gs := gs) (l := l.reverse.filter fun x => !decide (x.1 = (a : Int))) (m := l) fun x hx => List.mem_reverse.1 (List.mem_filter.1 hx).1;omega
     obtain ⟨t, ht⟩ : ∃ t, gs[a]? = some t := ⟨_, List.getElem?_eq_getElem (by omega)⟩
     have k3 : (t.2.1.length : Int) > 0 \/ t.2.2.1 > 0 -> ¬ level gs (l.reverse.filter fun x => !decide (x.1 = (a : Int))) > (a : Int) := by
      intro hc;have : lackB (l.reverse.filter fun x => !decide (x.1 = (a : Int))) a t = true := by
       rw [lack_iff];rcases hc with hc | hc
       ·left
        intro e;rw [missL_nil] at e;cases hq : t.2.1 with
        | nil => rw [hq] at hc; simp at hc
        | cons r rs =>
         have := e r (by rw [hq]; simp);unfold seenB at this;obtain ⟨x, hx, hx2⟩ := List.any_eq_true.1 this;have := (List.mem_filter.1 hx).2;simp at this hx2;exact this hx2.1
       ·right
        have : persL a (l.reverse.filter fun x => !decide (x.1 = (a : Int))) = [] := by
         rw [List.eq_nil_iff_forall_not_mem];intro nm hnm;obtain h0 | ⟨x, hx, h1, _⟩ := (pers_mem _ _ _ _).1 hnm
         ·cases h0
         ·have := (List.mem_filter.1 hx).2;simp at this;exact this h1
        rw [this]; simp <;> omega
      have := level_at ht this;omega
     have step3 : (bif !(decide (level gs l.reverse = level gs l)) then
       some true
      else
       bif decide (level gs (l.reverse.filter fun x => !decide (x.1 = (a : Int))) > level gs l) then
        some true
       else
        (idx gs (a : Int)).bind fun x42 =>
        bif decide ((x42.2.1.length : Int) > 0) then
         some (decide (level gs (l.reverse.filter fun x => !decide (x.1 = (a : Int))) > (a : Int)))
        else
         (idx gs (a : Int)).bind fun x43 =>
         bif decide (x43.2.2.1 > 0) then
          some (decide (level gs (l.reverse.filter fun x => !decide (x.1 = (a : Int))) > (a : Int)))
         else
          some false) = some false := by
      rw [decide_eq_true k1, decide_eq_false k2, idx_of ht];simp only [Bool.not_true, cond_false, Option.bind_some];by_cases c1 : (t.2.1.length : Int) > 0
      ·rw [decide_eq_true c1, decide_eq_false (k3 (.inl c1))]; rfl
      ·by_cases c2 : t.2.2.1 > 0
       ·rw [decide_eq_false c1, decide_eq_true c2, decide_eq_false (k3 (.inr c2))]; rfl
       ·rw [decide_eq_false c1, decide_eq_false c2]; rfl
     simp only [decide_true, Bool.not_true, cond_false];rw [step3];simp only [Option.bind_some, cond_false];by_cases hl0 : (l.length : Int) = 0
     ·simp only [hl0, decide_true, cond_true]
     ·simp only [hl0, decide_false, cond_false];obtain ⟨m, w1, w2, w3⟩ := Mod_eq (a := d.2.1) (b := (l.length : Int)) (by omega);obtain ⟨c, rfl⟩ : ∃ c : Nat, m = c := ⟨m.toNat, by omega⟩
      rw [w1];simp only [Option.bind_some];rw [wq (n := (c : Int) + 1) (by omega) (by omega), slc_in ⟨by omega, by omega, by omega⟩, slc_in ⟨by omega, by omega, by omega⟩];have f1 : ((l.take ((c : Int)).toNat).drop (0 : Int).toNat) = l.take c := by simp
      have f2 : ((l.take ((l.length : Int)).toNat).drop ((c : Int) + 1).toNat) = l.drop (c + 1) := by
       rw [Int.toNat_natCast, List.take_length];congr 1
      rw [f1, f2];simp only [Option.bind_some];rw [CopySigns_eq (by rw [List.length_take]; omega)];simp only [Option.bind_some];rw [app_in (by rw [List.length_take, List.length_drop]; omega)];have f3 : l.take c ++ l.drop (c + 1) = l.eraseIdx c := (List.eraseIdx_eq_take_drop_succ l c).symm;rw [f3];have hsub := List.eraseIdx_sublist l c;have he0 : signsE gs.length (l.eraseIdx c) = 0 := signs_sub E2 hsub.length_le (fun x hx => hsub.subset hx) (List.Pairwise.sublist hsub hnd);simp only [Option.bind_some, hlev he0, decide_true, cond_true];have := level_mono (gs := gs) (l := l.eraseIdx c) (m := l) fun x hx => hsub.subset hx;simp [this]
    ·simp [E2]
  ·simp [E1]
theorem law09_SafetyBehind_true (x : denP ([(.sl (.pair .str (.pair (.sl .str) (.pair I .unit)))), (.sl (.pair I (.pair .str (.pair .str .unit)))), (.pair I (.pair I .unit))].map Pm.ty)) (hx : RngP maxLen [(.sl (.pair .str (.pair (.sl .str) (.pair I .unit)))), (.sl (.pair I (.pair .str (.pair .str .unit)))), (.pair I (.pair I .unit))] x) : e_law09_SafetyBehind.F x = some true :=
 SafetyBehind_all x.1 x.2.1 x.2.2
end Go.Proofs.YtkcaaaiihhhnmaaGreat
end
section
namespace Go.Proofs.YtkcaaaiihhhnmaaGreat.safetyBehind
open Go Go.Ab Go.Tx Go.ChangeShapes Go.WideShapes Go.ChangeAt Go.RowKit
theorem hlib : ∀ g h args r, Lb g = some h -> h args = some r -> CallOk Tryz.prog g args [] r [] := fun g h args r hg hr => by
 unfold Lb at hg;split at hg
 ·rename_i e;subst e;cases hg;cases args with
  | nil => cases hr; exact awake_ok
  | cons a l => cases hr
 ·cases hg
set_option maxRecDepth 100000 in
theorem contract (H : Type) (enc : TypeId × Value -> H) (W : World) (base : Nat) (args : Array Value) (ds gs : List (DataW H)) (before : List MemPlace)
  (hval : ∀ (j : Nat) t v, Tryz.f5.params[j]? = some t -> args[j]? = some v -> Value.okWide Tryz.prog W .any base t v)
  (hW : DataW.Whole enc Tryz.prog Tryz.f5.params.toList Rows.safetyBehindSpec.vars false W args.toList ds gs before) :
  Calls Tryz.prog 5 args W fun e W' => ∃ v, e = .returned v /\ Rows.safetyBehindSpec.post enc Tryz.prog Tryz.f5 false true false false W args v W' :=
 law_contract (τs := [(.sl (.pair .str (.pair (.sl .str) (.pair I .unit)))), (.sl (.pair I (.pair .str (.pair .str .unit)))), (.pair I (.pair I .unit))]) (ts := [40, 41, 32]) (tb := 4) (F := e_law09_SafetyBehind.F) follows hname hlib laid_out Tryz.func5 (by kernel_rfl) (by kernel_rfl) (by kernel_rfl) (by kernel_rfl) (by kernel_rfl) (by kernel_rfl) Tryz.underlying4 o_law09_SafetyBehind law09_SafetyBehind_true rfl
  (fun H ds h => by
   match ds, h with
   | [d1, d2, d3], _ => rfl) H enc W base args ds gs before hval hW
set_option maxRecDepth 100000 in
theorem lifted (os : Os) (started : os.Started) (H : Type) (enc : TypeId × Value -> H) :
  ReturnsInHanded {} Tryz.checked os 5 .any (Rows.safetyBehindSpec.pre6 enc Tryz.prog Tryz.f5 Rows.safetyBehindRow.domain false) (Rows.safetyBehindSpec.post enc Tryz.prog Tryz.f5 false true false false) := by
 refine returnsInHanded_of_change (C := Tryz.checked) own started (by kernel_rfl) Tryz.func5
  (ChangeSpec.witness6 (enc := enc) (C := Tryz.checked) false ⟨#[], #[.slice none 0 0, .slice none 0 0, .agg #[.int .i64 0, .int .i64 0]], []⟩ 8 (by kernel_rfl) (by kernel_rfl) (by kernel_rfl) (by kernel_rfl)) ?_
 intro W base args ds gs before hval hW _ _;exact contract H enc W base args ds gs before hval hW
theorem proved : Rows.SafetyBehindSaid :=
 OpenClaim.holds_of_wide 5 Tryz.f5 rfl rfl rfl rfl rfl rfl rfl ⟨rfl, rfl, rfl, rfl, rfl⟩ rfl rfl rfl rfl rfl (by kernel_rfl) Tryz.func5 (by kernel_rfl)
  (of_decide_eq_true (by kernel_rfl)) (by unfold Func.isWrapper; first | (rw [if_pos (by decide +kernel)]; kernel_rfl) | (rw [if_neg (by decide +kernel)]; exact ⟨rfl, rfl⟩))
  (fun os started H enc _ => lifted os started H enc)
end Go.Proofs.YtkcaaaiihhhnmaaGreat.safetyBehind
end
