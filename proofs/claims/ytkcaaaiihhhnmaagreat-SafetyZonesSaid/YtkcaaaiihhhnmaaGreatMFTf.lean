/-
  ONE LAW OF A CHAPTER: its program side is run by an interpreter that is proved sound; what it computes is shown to be what the law says. No conditions. Part 6 of 6.
-/
import Derived.Test.YtkcaaaiihhhnmaaGreatMFTe
import Derived.Test.YtkcaaaiihhhnmaaGreatProg
import Derived.Shelf.Slices.Reverse
import Derived.Shelf.Sort.Plain
import Derived.Shelf.Slices.In.SortNone
import Derived.KernelRfl
import Derived.Test.YtkcaaaiihhhnmaaGreatRows
import Derived.WalkKit
set_option linter.unusedSimpArgs false
set_option linter.unusedVariables false
set_option linter.unnecessarySimpa false
section
namespace Go.Tx
open Go Go.Ab Go.RowKit Go.ChangeShapes Go.WideShapes Go.Deep
variable {H : Type} {enc : TypeId × Value -> H} {P : Program} {w : World} {base : Nat} {held : Bool}
theorem slices_elTy {d : Nat} {e : TypeId} {cs1 cs : List Ty} (hc : cellsTy P d e = some cs1) (h : (match cellsTy P d e, P.underlying e with
   | some cs, some (.struct _) => some [Ty.sl (cs.foldr .pair .unit)]
   | some cs, some (.array ..) => some [.sl (cs.foldr .pair .unit)]
   | some [τ], _ => some [.sl τ]
   | _, _ => none) = some cs) : ∃ τ, cs = [.sl τ] /\ elTy P e cs1 = some τ := by
 rw [hc] at h;unfold elTy;cases hu : P.underlying e with
 | none => rw [hu] at h; simp only at h ⊢; split at h <;> simp_all
 | some dd =>
  rw [hu] at h;cases dd <;> simp only at h ⊢ <;> first | (simp only [Option.some.injEq] at h; exact ⟨_, h.symm, rfl⟩) | (split at h <;> simp_all)
theorem rep_empty {X : Cx} : Rep w X (.sl .shared false []) (.slice none 0 0) [] := by simp [Rep, ptrsL]
theorem rep_weird {X : Cx} (a : Addr) : Rep w X (.sl .shared false []) (.slice (some a) 0 0) [] := by simp [Rep, ptrsL]
theorem open_cells (hl : laidOutB P = true) {N : Nat} {S : DataW H -> Prop} (hS : Sm N S) : ∀ (d : Nat) (t : TypeId) (cs : List Ty), cellsTy P d t = some cs -> okT P d t = true -> ∀ (fuel : Nat) (vals : List Value) (x : DataW H × List MemPlace), S x.1 ->
  DataW.trod enc P w base (fun _ => true) held fuel t vals = some x -> All2 (CellOk N w) cs vals
 | 0, t, cs, hc, _, fuel, vals, x, hx, h => by simp [cellsTy] at hc
 | d + 1, t, cs, hc, hok, fuel, vals, x, hx, h => by
  simp only [cellsTy] at hc;simp only [okT, Bool.and_eq_true, decide_eq_true_eq] at hok;split at hc
  ·rename_i k hu;cases hc;obtain ⟨n, rfl, rfl, hwf⟩ := DataW.trod_int hu h;refine .cons ⟨n, .val (.int k n), ?_, by simp [RTy], by simp [Rep]⟩ .nil;simp only [Rng];simp only [Lit.wf, Bool.and_eq_true, decide_eq_true_eq] at hwf;exact hwf
  ·rename_i hu;cases hc;obtain ⟨b, rfl, rfl⟩ := DataW.trod_bool hu h;exact .cons ⟨b, .val (.bool b), trivial, by simp [RTy], by simp [Rep]⟩ .nil
  ·rename_i hu;cases hc;obtain ⟨s, rfl, rfl, hs⟩ := DataW.trod_string hu h;have hsl : s.data.toList.length <= maxLen := by
    have e : s.data.toList.length = s.size := Array.length_toList;rw [e]; exact hs
   exact .cons ⟨s.data.toList, .val (.string s), hS.str _ hx hsl, by simp [RTy], by simp [Rep]⟩ .nil
  ·rename_i hu; rw [hu] at hok; simp at hok
  ·rename_i hu; rw [hu] at hok; simp at hok
  ·rename_i e hu;obtain ⟨ht, hoe⟩ := hok;rw [hu] at hoe;simp only [Bool.and_eq_true, decide_eq_true_eq, beq_iff_eq] at hoe;cases hce : cellsTy P d e with
   | none => rw [hce] at hc; simp at hc
   | some cs1 =>
    obtain ⟨τ, rfl, hτ⟩ := slices_elTy hce (by rw [hce]; rw [hce] at hc; exact hc);obtain ⟨hel, hnc⟩ := elTy_props hce hτ (cellsTy_ones d e cs1 hce);rcases open_slice hu h with ⟨rfl, rfl⟩ | ⟨a, len, cap, m, n, D, Pl, rfl, hb, hlc, hcm, hm, rfl, hx'⟩
    ·exact .cons ⟨[], .sl .shared false [], ⟨Nat.zero_le _, by simp⟩, by simp only [RTy]; exact ⟨_, _, [], rfl, flr_of rfl (by simp) (fun _ => rfl), .nil⟩, rep_empty⟩ .nil
    ·simp only [if_true] at hm;subst hm;obtain ⟨hN, hSe⟩ := hS.slice _ _ hx (by simp; omega);by_cases hcap : m = 0
     ·subst hcap;have hlen : len = 0 := by omega
      subst hlen;exact .cons ⟨[], .sl .shared false [], ⟨Nat.zero_le _, by simp⟩, by simp only [RTy]; exact ⟨_, _, [], rfl, flr_of rfl (by simp) (fun _ => rfl), .nil⟩, rep_weird a⟩ .nil
     ·have hspot : a.spot = none := by
       obtain ⟨cs', hcs', _⟩ := hx' 0 (by omega);obtain ⟨_, hl1, hc1⟩ := World.cells?_some hcs';have h0 := hc1 0 (by omega);simp only [Nat.zero_mul] at h0;have : ∃ v0, cs'[0]? = some v0 := ⟨cs'[0]'(by omega), List.getElem?_eq_getElem (by omega)⟩
       obtain ⟨v0, hv0⟩ := this;rw [hv0] at h0;have := (cell_block h0).1;simpa [Addr.add] using this
      obtain ⟨b, off, spot⟩ := a;simp only at hspot;subst hspot;have hsz : ∀ i, i < m -> ∃ vals : List Value, vals.length = P.cellsOf e /\ (∀ j, j < P.cellsOf e -> w.cell? ⟨b, off + i * P.cellsOf e + j, none⟩ = vals[j]?) /\
        (i < len -> ∃ (y : τ.den) (u : V) (v : Value), Rng N τ y /\ RTy τ 1000 y u /\ Rep w (cx0 w) u v [] /\ v.cells.toList = vals) := fun i hi => by
       obtain ⟨cs', hcs', htr⟩ := hx' i hi;obtain ⟨_, hl1, hc1⟩ := World.cells?_some hcs';refine ⟨cs', hl1, fun j hj => ?_, fun hil => ?_⟩
       ·rw [<- hc1 j hj, Addr.add_lit, Addr.add_lit]
       ·have hSi : S (D i) := hSe _ (List.mem_map.2 ⟨i, List.mem_range.2 hil, rfl⟩);exact elem_ok hce hτ (open_cells hl hS d e cs1 hce hoe.2 n cs' _ hSi htr)
      have hn : τ.ncells = P.cellsOf e := by
       have := hoe.1.2;rw [hce] at this;simp only [Option.map_some, Option.some.injEq] at this;rw [hnc, this]
      obtain ⟨l, us, h1, h2, h3, h4⟩ := slice_rep (Nat.pos_of_ne_zero hoe.1.1) hlc hcap hel hn hsz;exact .cons ⟨l, .sl .shared false us, ⟨by rw [h1]; simpa using hN, h2⟩, by simp only [RTy]; exact ⟨_, _, us, rfl, flr_of rfl (by simp) (fun _ => rfl), h3⟩, h4⟩ .nil
  ·rename_i fields hu;obtain ⟨ht, hoe⟩ := hok;rw [hu] at hoe;simp only [List.all_eq_true] at hoe;obtain ⟨css, hcss, rfl⟩ := Option.map_eq_some_iff.1 hc;obtain ⟨hl1, hget⟩ := mapM_get hcss;obtain ⟨xs, n, _, rfl, hvl, hxl, hxs⟩ := DataW.trod_struct hu h;obtain ⟨_, hsum, hoff⟩ := kid_struct hl ht hu;refine glue css (fields.toList.map fun f => P.cellsOf f.type) vals (by simp [hl1]) (by rw [hvl, hsum]) fun j c s hcj hsj => ?_;rw [List.getElem?_map] at hsj;obtain ⟨fd, hfd, rfl⟩ := Option.map_eq_some_iff.1 hsj;obtain ⟨c', hc', hg⟩ := hget j fd hfd;rw [hcj] at hc'; cases hc';have hx1 := hxs j fd (by simpa using hfd);rw [hoff j fd hfd, List.map_take] at hx1;have hj : j < xs.length := by rw [hxl]; have := (List.getElem?_eq_some_iff.1 hfd).1; simpa using this
   rw [List.getElem?_eq_getElem hj] at hx1;exact open_cells hl hS d fd.type c hg (hoe fd (List.mem_of_getElem? hfd)) n _ _ (hS.agg _ hx _ (List.mem_map.2 ⟨xs[j], List.getElem_mem hj, rfl⟩)) hx1
  ·rename_i n' e hu;obtain ⟨ht, hoe⟩ := hok;rw [hu] at hoe;simp only at hoe;obtain ⟨cs1, hce, rfl⟩ := Option.map_eq_some_iff.1 hc;obtain ⟨_, hsum⟩ := kid_array hl ht hu;cases fuel with
   | zero => simp [DataW.trod] at h
   | succ fuel =>
    unfold DataW.trod at h;rw [hu] at h;simp only at h;split at h
    ·rename_i hvl;obtain ⟨xs, hxs, rfl⟩ := Option.map_eq_some_iff.1 h;obtain ⟨hxl, hget⟩ := mapM_get hxs;refine glue _ (List.replicate n' (P.cellsOf e)) vals (by simp) (by rw [hvl, hsum]; simp) fun j c s hcj hsj => ?_;have hjn : j < n' := by have := (List.getElem?_eq_some_iff.1 hcj).1; simpa using this
     rw [List.getElem?_replicate, if_pos hjn] at hcj hsj;cases hcj; cases hsj
     obtain ⟨b, hb, hg⟩ := hget j j (by simp [hjn]);have htk : ((List.replicate n' (P.cellsOf e)).take j).sum = j * P.cellsOf e := by
      rw [List.take_replicate]; simp [Nat.min_eq_left (Nat.le_of_lt hjn)]
     rw [htk];exact open_cells hl hS d e cs1 hce hoe fuel _ _ (hS.agg _ hx _ (List.mem_map.2 ⟨b, List.mem_of_getElem? hb, rfl⟩)) hg
    ·cases h
  ·cases hc
theorem open_arg (hl : laidOutB P = true) {N : Nat} {S : DataW H -> Prop} (hS : Sm N S) {t : TypeId} {τ : Ty} (hτ : tyOf P t = some τ) (hok : okT P 10 t = true) {v : Value} {d : DataW H} {ps : List MemPlace} {b0 : Nat} (hval : Value.okWide P w .any b0 t v)
  (h : DataW.Trod enc P w base (fun _ => true) held t v d ps) (hd : S d) : CellOk N w τ v := by
 obtain ⟨fuel, hf⟩ := h;unfold tyOf at hτ;split at hτ
 ·rename_i cs hc;have hall := open_cells hl hS 10 t cs hc hok fuel _ _ hd hf;split at hτ
  ·rename_i ha;cases hτ;obtain ⟨y, us, hy, hu, hr⟩ := pack_ok cs _ hall;have hv : ∃ c, v = .agg c := by
    unfold isAggT at ha;unfold Value.okWide at hval;split at ha
    ·rename_i fs hfs; rw [hfs] at hval; obtain ⟨c, hc, _⟩ := hval; exact ⟨c, hc⟩
    ·rename_i n e hfs; rw [hfs] at hval; obtain ⟨c, hc, _⟩ := hval; exact ⟨c, hc⟩
    ·cases ha
   obtain ⟨c, rfl⟩ := hv;refine ⟨y, .agg us, hy, hu, ?_⟩;simp only [Rep];exact ⟨c.toList, by simp, by simpa [Value.cells] using hr⟩
  ·rename_i ha
   match cs, hτ, hall with
   | τ' :: cs', hτ, hall =>
    simp only [List.head?_cons, Option.some.injEq] at hτ;subst hτ;have hone := cellsTy_ones 10 t _ hc τ' (by simp);have hv : v.cells.toList = [v] := by
     cases v with
     | agg c =>
      exfalso
      unfold isAggT at ha;unfold Value.okWide at hval;split at hval
      ·rename_i fs hfs; rw [hfs] at ha; simp at ha
      ·rename_i n e hfs; rw [hfs] at ha; simp at ha
      ·unfold Cell.okWide Cell.ok at hval;split at hval;all_goals first | (rename_i h1 h2; cases h2; done) | skip
       all_goals (split at hval <;> first | (exact hval.elim) | (rename_i h1 h2; cases h2))
     | _ => rfl
    rw [hv] at hall;cases hall with
    | cons h1 h2 => exact h1
 ·cases hτ
theorem open_args (hl : laidOutB P = true) {N : Nat} {S : DataW H -> Prop} (hS : Sm N S) {b0 : Nat} : ∀ (ts : List TypeId) (τs : List Ty) (vs : List Value) (ds : List (DataW H)) (ps : List MemPlace), ts.mapM (tyOf P) = some τs -> ts.all (okT P 10) = true ->
  (∀ (j : Nat) t v, ts[j]? = some t -> vs[j]? = some v -> Value.okWide P w .any b0 t v) -> DataW.TrodAll enc P w base (fun _ => true) held ts vs ds ps -> (∀ d ∈ ds, S d) ->
  ∃ x us, RngP N τs x /\ RVL (ofPms (τs.map .ty) x) us /\ RepL w (cx0 w) us vs []
 | [], τs, vs, ds, ps, hm, _, _, h, _ => by
  simp at hm; subst hm;obtain ⟨rfl, _, _⟩ := trodAll_nil h;exact ⟨(), [], trivial, rvl_nil, by simp [RepL]⟩
 | t :: ts, τs, vs, ds, ps, hm, hok, hval, h, hd => by
  simp only [List.mapM_cons, Option.bind_eq_bind, Option.bind_eq_some_iff] at hm;obtain ⟨τ, hτ, τs', hm', he⟩ := hm;cases he;simp only [List.all_cons, Bool.and_eq_true] at hok;obtain ⟨v, vs', d, ds', p, q, rfl, rfl, rfl, h1, h2⟩ := trodAll_cons h;obtain ⟨y, u, hy, hu, hr⟩ := open_arg hl hS hτ hok.1 (hval 0 t v rfl rfl) h1 (hd d (by simp));obtain ⟨x, us, hx, hus, hrs⟩ := open_args hl hS ts τs' vs' ds' q hm' hok.2 (fun j t' v' a b => hval (j + 1) t' v' (by simpa using a) (by simpa using b)) h2 fun d' hd' => hd d' (by simp [hd']);have hR : RepL w (cx0 w) (u :: us) (v :: vs') [] := by simp only [RepL]; exact ⟨v, vs', [], [], rfl, rfl, hr, hrs⟩
  cases τs' with
  | nil => exact ⟨y, u :: us, hy, (rvl_cons.2 ⟨rv_ofTy _ _ _ _ hu, hus⟩ : RVL (ofTy τ 1000 y :: []) (u :: us)), hR⟩
  | cons τ2 τs2 => exact ⟨(y, x), u :: us, ⟨hy, hx⟩, (rvl_cons.2 ⟨rv_ofTy _ _ _ _ hu, hus⟩ : RVL (ofTy τ 1000 y :: ofPms ((τ2 :: τs2).map .ty) x) (u :: us)), hR⟩
theorem trodAll_below (hl : laidOutB P = true) {W W' : World} (hb : Below W.heap.size W W') : ∀ {ts : List TypeId} {vs : List Value} {ds : List (DataW H)} {ps : List MemPlace}, ts.all (fun t => P.readableRec t && decide (t < P.types.size)) = true ->
  DataW.TrodAll enc P W 0 (fun _ => true) true ts vs ds ps -> (∀ x ∈ ps, x.block < W.heap.size) -> ∀ sp : Nat -> Bool, (∀ p ∈ ps, sp p.block = true) -> DataW.TrodAll enc P W' 0 sp true ts vs ds ps
 | [], [], [], ps, _, h, _, sp, _ => h
 | t :: ts, v :: vs, d :: ds, ps, hr, ⟨p, q, h1, h2, e⟩, hlt, sp, hsp => by
  simp only [List.all_cons, Bool.and_eq_true, decide_eq_true_eq] at hr;subst e;refine ⟨p, q, ?_, trodAll_below hl hb hr.2 h2 (fun x hx => hlt x (List.mem_append_right _ hx)) sp (fun x hx => hsp x (List.mem_append_right _ hx)), rfl⟩;exact WideElems.Trod_stays hl hr.1.1 hr.1.2 h1 (fun x hx => hb.same (hlt x (List.mem_append_left _ hx))) (fun x hx => hsp x (List.mem_append_left _ hx))
theorem lrel0 {w : World} : LRel [] w (cx0 w) (fun _ => []) where
 box := fun r c h => by simp [boxL] at h
 boxD := fun _ _ => rfl
 inj := fun r r' b h => by simp [boxL] at h
 lin := fun _ => Lin.nil
 dis := fun _ _ _ b hb => by cases hb
 ptrB := fun r c h => by simp [boxL] at h
 up := fun r c h => by simp [boxL] at h
 dom := fun b e fz h => (frozen0 h).2.1
theorem law_calls {H0 : Hints} {lib : FuncId -> Option (List V -> Option V)} (hm : P.follows .mixedOrders = true) (hname : NameOk P H0)
  (hlib : ∀ g h args r, lib g = some h -> h args = some r -> CallOk P g args [] r []) (hl : laidOutB P = true) {N : Nat} {S : DataW H -> Prop} (hS : Sm N S) {k : FuncId} {fn : Func} (hfn : P.funcs[k]? = some fn) (hbody : fn.body.isSome = true)
  {ts : List TypeId} {τs : List Ty} (hts : ts.mapM (tyOf P) = some τs) (hok : ts.all (okT P 10) = true) {F : denP (τs.map .ty) -> Option Bool}
  (he : EntryOk P H0 lib ⟨k, τs.map .ty, [(.bool, 0)], F⟩) (hF : ∀ x, RngP N τs x -> F x = some true)
  {W : World} {args : Array Value} {ds : List (DataW H)} {ps : List MemPlace} {b0 : Nat} (hval : ∀ (j : Nat) t v, ts[j]? = some t -> args.toList[j]? = some v -> Value.okWide P W .any b0 t v)
  (h : DataW.TrodAll enc P W 0 (fun _ => true) true ts args.toList ds ps) (hd : ∀ d ∈ ds, S d) :
  Calls P k args W fun e W' => e = .returned (.bool true) /\ Below W.heap.size W W' := by
 obtain ⟨x, us, hx, hus, hrs⟩ := open_args hl hS ts τs args.toList ds ps hts hok hval h hd;obtain ⟨v, hcall, hr⟩ := entry_call hm hname hlib he (x := x) (y := true) (hF x hx) hus;simp only [packT, ofL, packedT, ofTy, RV, RTy] at hr;subst hr;have hp : ptrsL us = [] := by
  apply List.eq_nil_iff_forall_not_mem.2;intro q hq;have hk : ∀ (τs : List Ty) (x : denP (τs.map .ty)), ptrsTL (ofPms (τs.map .ty) x) = [] := by
   have h1 : ∀ (τ : Ty) (y : τ.den), (ofTy τ 1000 y).ptrs = [] /\ ptrsTL (ofTyC τ 1000 y) = [] := by
    intro τ;induction τ with
    | pair a b iha ihb => intro y; simp [ofTy, ofTyC, TV.ptrs, ptrsTL, (iha y.1).1, (ihb y.2).2]
    | _ => intro y; simp [ofTy, ofTyC, TV.ptrs, ptrsTL]
   intro τs;induction τs with
   | nil => intro x; rfl
   | cons τ τs ih =>
    intro x;cases τs with
    | nil => show ptrsTL [ofTy τ 1000 x] = []; simp [ptrsTL, (h1 τ x).1]
    | cons τ2 τs2 => show ptrsTL (ofTy τ 1000 x.1 :: ofPms ((τ2 :: τs2).map .ty) x.2) = []; simp only [ptrsTL, (h1 τ x.1).1, List.nil_append]; exact ih x.2
  have := RVL.ptrs _ _ hus q hq;rw [hk] at this; cases this
 rcases hcall W (cx0 W) args.toList (fun _ => []) hrs lrel0 (fun q hq => by rw [hp] at hq; cases hq) (fun _ b e fz h => (frozen0 h).1) with ⟨_, hc⟩ | ⟨_, v, w', hv, _⟩
 ·refine (by simpa using hc : Calls P k args W _).mono ?_;rintro e W' ⟨v, rfl, X', O', Or, hrep, _, _, _, _, _, _, haft⟩;simp only [Rep] at hrep;obtain ⟨rfl, _⟩ := hrep;refine ⟨rfl, ⟨haft.os, haft.tape, haft.out, haft.size, fun b hb => ?_⟩⟩;exact (haft.kept b hb (by rintro (⟨r, h1, _⟩ | ⟨r, h1⟩) <;> simp [boxL] at h1)).1
 ·exfalso
  have hbs : fn.body.isNone = false := by cases hb : fn.body <;> simp_all
  simp only [callFunc, Sem.run_bind, run_program, Result.andThen_ok, hfn, hname.1 k fn hfn hbody, hbs, Bool.false_eq_true, if_false, Sem.run_pure] at hv;cases hv
end Go.Tx
end
section
namespace Go.Proofs.YtkcaaaiihhhnmaaGreat.Hn
open Go
def takeT : List (List Nat) := [[], [], [], [31, 44, 45, 48, 75, 82, 85, 89, 93, 94, 97, 129, 161, 176, 188, 191], [26, 32, 39, 41, 49, 54, 58, 59, 116, 117, 120, 123, 126], [48, 56, 69, 76, 78, 81, 101, 108, 110, 113, 140, 154, 161, 164, 168, 171, 175, 178, 183, 230, 233, 237, 240, 241], [25, 29, 33, 34, 37, 41, 44], [27, 31, 33, 39, 49, 50, 57, 61, 66, 71, 75, 80, 83, 87, 89, 92, 116, 122, 129, 130, 133, 134], [23, 33, 38, 40, 48, 53, 54, 57, 58, 66, 70, 75, 80, 85, 88, 91, 95, 109, 112, 115, 122, 124, 127, 130, 133, 134], [20, 32, 33, 36, 39, 57, 64, 67], [52, 56, 58, 64, 72, 75, 82, 85, 88, 117, 127, 132, 136, 138, 141, 156, 164, 167, 196, 200, 202, 206, 208, 211, 218, 240, 250, 268, 274, 277], [22, 36, 37, 40, 43, 50, 51, 54, 55], [12, 15, 23, 26, 28, 32, 34, 42, 53, 56, 61, 65, 70, 74, 79, 83, 87], [16, 30, 31, 38, 47], [], [], [], [], [], [13], [], [], [18], [11, 31], [12, 32, 33, 38, 40], [], [12, 26, 34, 39, 41, 45, 50], [26, 43, 51, 72, 89, 97], [], [], [53, 55, 59], [29], [5, 10], [30, 38], [10], [16, 26, 34, 38, 40, 41, 45], [20, 27, 28, 32, 34, 35, 39], [8, 29], [14, 15, 19, 21, 22], [14, 15, 19, 21], [24, 31, 34, 38, 46], [], [], [35, 37, 57, 77, 87, 98, 113], [20, 30, 37], [], [32, 38, 40, 49, 50, 52, 61, 62], [18, 51], [8, 15], [20, 26, 30], [11, 30, 44], [46, 57, 74, 89, 98, 99, 108, 109, 128, 129], [10], [22, 26], [65], [21, 22, 31], [], [], [34, 38], [], [], [], [15, 24, 25, 33, 34], [26, 41, 58, 66, 76, 79, 83], [12, 21, 23, 30, 38], [], [13, 22, 24, 32, 43, 51], [], [], [22, 23], [], [13], [6], [], [22, 23], [], [], [], [21, 81, 83], [], [118, 122, 125], [], [22, 23], [31, 36], [], [], [10, 16], [46, 49, 50, 54, 55], [37], [], [], [15, 31], [43], [32, 44, 55, 65, 76, 85], [], [], [], [], [18, 22, 23], [], [22, 23], [], [18], [22, 23], [], [], [9, 16], [], [], [], [14, 21], [5, 10], [], [], [6], [22, 23], [25], [], [18, 22, 23], [21], [6, 12], [28, 30, 33, 48], [], [], [], [], [47, 55], [], [17], [], [], [], [], [17], [], [], [], [19], [17, 21, 24], [22, 23], [16], [], [], [], [8, 14], [11, 19, 33, 40, 57], [], [], [7], [], [], [], [42, 66, 91, 93, 94, 98, 102, 109, 114, 115, 122, 124, 125, 133], [], [17], [17], [17], [20], [], [], [17], [], [27], [], [33, 45, 47, 50, 53, 56], [], [], [83], [80, 167], [], [], [13, 17], [75], [], [32], [], [11, 19, 27, 35], [24, 25, 26, 27], [], [], [], [], [], [], [], [], [], [], [], [], [], [], [], [], []]
def clearT : List (List (Nat × List Nat)) := [[],
 [],
 [],
 [(0, [71, 72, 73, 74, 75, 76, 77, 78, 79, 80, 81]), (2, [10, 15, 99, 100, 101, 102, 103, 104, 105, 106, 107, 108, 109, 110, 111, 112, 113, 114, 115, 116, 117, 118, 119, 120, 121, 122, 123, 124, 125, 126, 127, 128, 129, 130, 131, 132, 133, 134, 135, 136, 137, 138, 139, 140, 141, 142, 143, 144, 145, 146, 147, 148]), (4, [10, 105, 106, 107, 108, 109, 110, 111, 112, 113, 114, 115, 116, 117, 118, 119, 120, 121, 122, 123, 124, 125, 126, 127, 128, 129, 130, 131, 132, 133, 134, 135, 136, 137, 138, 139, 140, 141, 142, 143, 144, 145, 146, 147, 148])],
 [],
 [(0, [9, 12, 13, 14, 15, 23, 96, 97, 98, 99, 100, 101, 102, 103, 104, 105, 106, 107, 108, 109, 110, 111, 112, 113, 114, 115, 116, 117, 118, 119, 120, 121, 122, 123, 124, 125, 126, 127]), (2, [9, 12, 23, 136, 137, 138, 139, 140, 141, 142, 143, 144, 145, 146, 147, 148, 149, 150, 151, 152, 153, 154, 155, 156, 157, 158, 159, 160])],
 [],
 [],
 [],
 [(0, [74, 75, 76, 77, 78, 79, 80, 81, 82, 83, 84, 85, 86, 87, 88, 89, 90, 91, 92, 93, 94, 95, 96, 97, 98, 99, 100, 101, 102, 103, 104, 105, 106, 107, 108, 109, 110])],
 [(0, [15, 16, 17, 18, 22, 111, 112, 113, 114, 115, 116, 117, 118, 119, 120, 121, 122, 123, 124, 125, 126, 127, 128, 129, 130, 131, 132, 133, 134, 135, 136, 137, 138, 139, 140, 141, 142, 143, 144, 145, 146, 147, 148, 149]), (2, [17, 22, 27, 28, 29, 30, 234, 235, 236, 237, 238, 239, 240, 241, 242, 243, 244, 245, 246, 247, 248, 249, 250, 251, 252, 253, 254, 255, 256, 257, 258, 259, 260, 261, 262, 263, 264, 265, 266, 267, 268, 269, 270, 271, 272, 273, 274, 275, 276, 277, 278, 279])],
 [],
 [],
 [(0, [10, 11, 12, 42, 43, 44, 45, 46, 47, 48, 49, 50, 51, 52, 53, 54, 55])],
 [],
 [],
 [(0, [6, 11, 12, 13, 14, 15, 16, 17, 18, 19, 20, 21, 22, 23, 24, 25, 26, 27, 28, 29, 30, 31, 32, 33, 34, 35, 36, 37, 38, 39, 40, 41, 42, 43, 44, 45, 46, 47, 48, 49, 50, 51, 52, 53, 54, 55, 56, 57, 58, 59, 60, 61, 62]), (2, [66, 67, 68, 69, 70, 71, 72, 73, 74, 75, 76, 77, 78, 79, 80, 81, 82, 83, 84, 85, 86, 87])],
 [(0, [6, 7, 8, 9, 10, 11, 12, 13, 14, 15, 16, 17, 18, 19, 20, 21, 22, 23, 24, 25, 26, 27, 28, 29, 30, 31, 32, 33]), (2, [13, 14, 15, 16, 17, 18, 19, 20, 21, 22, 23, 24, 25, 26, 27, 28, 29, 30, 31, 32, 33])],
 [],
 [],
 [(0, [4, 8, 9, 10, 11, 12, 13, 14, 15, 16, 17, 18, 19, 20, 21, 22, 23, 24, 25, 26, 27, 28, 29, 30, 31, 32, 33, 34, 35, 36, 37, 38, 39, 40, 41, 42, 43, 44, 45, 46, 47, 48, 49]), (2, [30, 31, 32, 33, 34, 35, 36, 37, 38, 39, 40, 41, 42, 43, 44, 45, 46, 47, 48, 49])],
 [(0, [7, 8, 9, 10, 11, 12, 13, 14, 15, 16, 17, 18, 19, 20, 21, 22, 23, 24, 25, 26, 27, 28])],
 [],
 [(0, [5, 6, 7, 8, 9, 10, 11, 12, 13, 14, 15, 16, 17, 18, 19, 20, 21, 22, 23, 24, 25, 26, 27, 28, 29, 30])],
 [],
 [],
 [(0, [8, 9, 10, 11, 30, 31, 32, 33, 34, 35, 36, 37, 38, 39, 40, 41, 42, 43, 44, 45, 46, 47, 48, 49, 50, 51])],
 [(0, [5, 6, 13, 14, 15, 16, 17, 18, 19, 20, 21, 22, 23, 24, 25, 26, 27, 28, 29, 30, 31, 32, 33, 34, 35, 36, 37, 38, 39, 40, 41, 42, 43, 44, 45, 46, 47, 48, 49, 50, 51, 52, 53, 54, 55, 56, 57, 58, 59, 60, 61, 62, 63, 64, 65, 66, 67, 68, 69, 70, 71, 72, 73, 74, 75, 76, 77, 78, 79, 80, 81, 82, 83, 84, 85, 86, 87, 88, 89, 90, 91, 92, 93, 94, 95, 96, 97]), (2, [27, 28, 29, 30, 31, 32, 33, 34, 35, 36, 37, 38, 39, 40, 41, 42, 43]), (4, [52, 53, 54, 55, 56, 57, 58, 59, 60, 61, 62, 63, 64, 65, 66, 67, 68, 69, 70, 71, 72, 73, 74, 75, 76, 77, 78, 79, 80, 81, 82, 83, 84, 85, 86, 87, 88, 89])],
 [(0, [6, 10, 11, 12, 13, 14, 15, 16, 17, 18, 19, 20, 21, 22, 23, 24, 25, 26, 27, 28, 29, 30, 31, 32, 33, 34, 35, 36, 37, 38, 39, 40, 41, 42, 43, 44, 45, 46, 47, 48, 49, 50, 51, 52, 53, 54]), (2, [41, 42, 43, 44, 45, 46, 47, 48, 49, 50, 51, 52, 53, 54])],
 [(0, [11, 12, 13, 14, 15, 16, 17, 18, 19, 20, 21, 22, 23, 24, 25])],
 [(0, [9, 10, 11, 12, 13, 14, 15, 16, 17, 18, 19, 20, 21, 22, 23, 24, 25, 26, 27, 28, 29, 30, 31, 32, 33, 34, 35, 36, 37, 38, 39, 40, 41, 42, 43, 44, 45, 46, 47, 48, 49, 50, 51, 52, 53, 54, 55, 56, 57, 58]), (2, [21, 22, 23, 24, 25, 26, 27, 28, 29, 30, 31, 32, 33, 34, 35, 36, 37, 38, 39, 40, 41, 42, 43, 44, 45, 46, 47, 48, 49, 50, 51, 52])],
 [(0, [6, 7, 8, 9, 10, 11, 12, 13, 14, 15, 16, 17, 18, 19, 20, 21, 22, 23, 24, 25, 26, 27, 28, 29])],
 [],
 [(0, [7, 8, 9, 10, 11, 12, 13, 14, 15, 16, 17, 18, 19, 20, 21, 22, 23, 24, 25, 26, 27, 28, 29, 30, 31, 32, 33, 34, 35, 36, 37])],
 [],
 [(0, [9, 10, 20, 21, 22, 23, 24, 25, 26, 27, 28, 29, 30, 31, 32, 33, 34, 35, 36, 37, 38, 39, 40, 41, 42, 43, 44])],
 [(0, [7, 8, 9, 10, 14, 15, 16, 17, 18, 19, 20, 21, 22, 23, 24, 25, 26, 27, 28, 29, 30, 31, 32, 33, 34, 35, 36, 37, 38])],
 [],
 [],
 [],
 [(0, [10, 11, 12, 28, 29, 30, 31, 32, 33, 34, 35, 36, 37, 38, 39, 40, 41])],
 [],
 [],
 [(0, [11, 12, 13, 14, 15, 45, 46, 47, 48, 49, 50, 51, 52, 53, 54, 55, 56, 57, 58, 59, 60, 61, 62, 63, 64, 65, 66, 67, 68, 69, 70, 71, 72, 73, 74, 75, 76, 77, 78, 79, 80, 81, 82, 83, 84, 85, 86, 87, 88, 89, 90, 91, 92, 93, 94, 95, 96, 97, 98, 99, 100, 101, 102, 103, 104, 105, 106, 107, 108, 109, 110, 111, 112, 113, 114, 115, 116, 117, 118, 119]), (2, [58, 59, 60, 61, 62, 63, 64, 65, 66, 67, 68, 69, 70, 71, 72, 73, 74, 75, 76]), (4, [11, 14, 15, 81, 82, 83, 84, 85, 86, 87, 88, 89, 90, 91, 92, 93, 94, 95, 96, 97, 98, 99, 100, 101, 102, 103, 104, 105, 106, 107, 108, 109, 110, 111, 112, 113, 114, 115, 116, 117, 118, 119])],
 [(0, [9, 10, 14, 15, 16, 17, 18, 19, 20, 21, 22, 23, 24, 25, 26, 27, 28, 29, 30, 31, 32])],
 [(0, [22, 23, 24, 25, 26, 27, 28, 29, 30, 31, 32, 33, 34, 35]), (2, [36, 37, 38, 39, 40, 41, 42, 43, 44, 45, 46, 47, 48, 49, 50, 51, 52, 53, 54, 55, 56, 57, 58, 59, 60, 61, 62, 63, 64, 65, 66, 67, 68, 69, 70]), (4, [71, 72, 73, 74, 75, 76, 77, 78, 79, 80, 81, 82, 83, 84])],
 [],
 [(0, [10, 11, 12, 13, 14, 15, 16, 17, 18, 19, 20, 21, 22, 23, 24, 25, 26, 27, 28, 29, 30, 31, 32, 33, 34, 35, 36, 37, 38, 39, 40, 41, 42]), (2, [43, 44, 45, 46, 47, 48, 49, 50, 51, 52, 53, 54, 55, 56, 57, 58, 59, 60])],
 [],
 [],
 [],
 [(0, [32, 33, 34, 35, 36, 37, 38, 39, 40, 41, 42, 43, 44, 45, 46, 47, 48, 49, 50, 51, 52, 53, 54, 55, 56, 57]), (2, [6, 7, 8, 9, 58, 59, 60, 61, 62, 63, 64, 65, 66, 67, 68, 69, 70, 71, 72, 73, 74, 75, 76, 77, 78, 79, 80, 81, 82, 83, 84, 85, 86, 87, 88, 89, 90, 91, 92, 93, 94, 95, 96, 97, 98, 99, 100, 101, 102, 103, 104, 105, 106, 107, 108, 109]), (4, [75, 76, 77, 78, 79, 80, 81, 82, 83, 84, 85, 86, 87, 88, 89]), (6, [11, 110, 111, 112, 113, 114, 115, 116, 117, 118, 119, 120, 121, 122, 123, 124, 125, 126, 127, 128, 129])],
 [],
 [(0, [7, 8, 9, 10, 11, 12, 13, 14, 15, 16, 17, 18, 19, 20, 21, 22, 23, 24, 25])],
 [(0, [21, 22, 23, 24, 25, 26, 27, 28, 29, 30, 31, 32, 33, 34, 35, 36, 37]), (2, [38, 39, 40, 41, 42, 43, 44, 45, 46, 47, 48, 49, 50, 51, 52, 53, 54, 55, 56, 57, 58, 59, 60, 61, 62, 63, 64])],
 [],
 [],
 [(0, [19, 20, 21, 22, 23, 24, 25, 26, 27, 28, 29, 30, 31, 32, 33, 34, 35, 36, 37, 38, 39, 40, 41, 42, 43, 44, 45, 46, 47, 48, 49, 50, 51])],
 [(0, [8, 9, 10, 11, 12, 13, 14, 15, 16, 17, 18, 19, 20, 21, 22, 23, 24, 25, 26, 27, 28, 29, 30, 31, 32, 33])],
 [],
 [],
 [(0, [6, 7, 8, 9, 10, 11, 12, 13, 14, 15, 16, 17])],
 [],
 [(0, [13, 14, 15, 16, 17, 18, 19, 20, 21, 22, 23, 24, 25, 26, 27, 28, 29, 30, 31, 32, 33, 34, 35, 36, 37, 38, 39, 40, 41]), (2, [10, 11, 12, 46, 47, 48, 49, 50, 51, 52, 53, 54, 55, 56, 57, 58, 59, 60, 61, 62, 63, 64, 65, 66, 67, 68, 69, 70, 71, 72, 73, 74, 75, 76, 77, 78, 79, 80, 81, 82, 83]), (4, [11, 12, 59, 60, 61, 62, 63, 64, 65, 66, 67, 68, 69, 70, 71, 72, 73, 74, 75, 76, 77, 78, 79, 80, 81, 82, 83])],
 [(0, [11, 27, 28, 29, 30, 31, 32, 33, 34, 35])],
 [],
 [(0, [35, 36, 37, 38, 39, 40, 41, 42, 43, 44, 45, 46, 47, 48])],
 [],
 [],
 [(0, [6, 7, 8, 12, 13, 14, 15, 16, 17, 18, 19, 20, 21, 22, 23, 24])],
 [],
 [(0, [4, 8, 9, 10, 11, 12, 13, 14])],
 [],
 [],
 [(0, [6, 7, 8, 12, 13, 14, 15, 16, 17, 18, 19, 20, 21, 22, 23, 24])],
 [],
 [],
 [],
 [(0, [11, 12, 61, 62, 63, 64, 65, 66, 67, 68, 69, 70, 71, 72, 73, 74, 75, 76, 77, 78, 79, 80])],
 [],
 [(0, [11, 83, 84, 85, 86, 87, 88, 89, 90, 91, 92, 93, 94, 95, 96, 97, 98, 99, 100, 101, 102, 103, 104, 105, 106, 107, 108, 109, 110, 111, 112, 113, 114, 115, 116, 117, 118, 119, 120, 121])],
 [],
 [(0, [6, 7, 8, 12, 13, 14, 15, 16, 17, 18, 19, 20, 21, 22, 23, 24])],
 [(0, [9, 26, 27, 28, 29, 30, 31, 32, 33, 34, 35])],
 [],
 [],
 [],
 [(0, [11, 12, 20, 21, 22, 23, 24, 25, 26, 27, 28, 29, 30, 31, 32, 33]), (2, [13, 14, 41, 42, 43, 44, 45, 46, 47, 48, 49, 50, 51, 52, 53])],
 [(0, [4, 5, 14, 15, 16, 17, 18, 19, 20, 21, 22, 23, 24, 25, 26, 27, 28, 29, 30, 31, 32, 33, 34, 35, 36, 37, 38, 39, 40, 41, 42, 43, 44, 45, 46, 47, 48, 49, 50, 51, 52, 53, 54])],
 [(0, [6, 7, 8, 9, 10, 11, 12, 13, 14, 15, 16, 17])],
 [],
 [],
 [],
 [(0, [9, 10, 11, 12, 13, 20, 21, 22, 23, 24, 25, 26, 27, 28, 29, 30, 31, 32, 33, 34, 35, 36, 37, 38, 39, 40, 41, 42, 43, 44, 45, 46, 47, 48, 49, 50, 51, 52, 53, 54, 55, 56, 57, 58, 59, 60, 61, 62, 63, 64, 65, 66, 67, 68, 69, 70, 71, 72, 73, 74, 75, 76, 77, 78, 79, 80, 81, 82, 83, 84, 85, 86, 87, 88, 89, 90]), (2, [33, 34, 35, 36, 37, 38, 39, 40, 41, 42, 43, 44, 45, 46, 47, 48, 49, 50, 51, 52]), (4, [9, 12, 13, 59, 60, 61, 62, 63, 64, 65, 66, 67, 68, 69, 70, 71, 72, 73, 74, 75, 76, 77, 78, 79, 80, 81, 82, 83, 84, 85, 86, 87, 88, 89, 90])],
 [],
 [],
 [],
 [],
 [(0, [6, 7, 8, 12, 13, 14, 15, 16, 17, 18, 19, 20, 21, 22, 23, 24])],
 [],
 [(0, [6, 7, 8, 12, 13, 14, 15, 16, 17, 18, 19, 20, 21, 22, 23, 24])],
 [],
 [],
 [(0, [6, 7, 8, 12, 13, 14, 15, 16, 17, 18, 19, 20, 21, 22, 23, 24])],
 [],
 [],
 [],
 [],
 [],
 [],
 [(0, [22, 23, 24, 25, 26, 27, 28, 29, 30, 31, 32, 33, 34, 35, 36])],
 [],
 [],
 [(0, [7, 8, 9, 10, 11, 12, 13, 14, 15, 16, 17, 18, 19, 20, 21, 22]), (2, [23, 24, 25, 26, 27, 28, 29, 30, 31, 32, 33, 34, 35, 36, 37, 38])],
 [],
 [(0, [6, 7, 8, 12, 13, 14, 15, 16, 17, 18, 19, 20, 21, 22, 23, 24])],
 [],
 [],
 [(0, [6, 7, 8, 12, 13, 14, 15, 16, 17, 18, 19, 20, 21, 22, 23, 24])],
 [],
 [],
 [(0, [9, 13, 14, 15, 16, 17, 18, 19, 20, 21, 22, 23, 24, 25, 26, 27, 28, 29, 30])],
 [],
 [],
 [],
 [(0, [6, 7, 8, 9, 10, 11, 12, 13, 14, 15, 16, 17, 18, 19])],
 [(0, [10, 11, 18, 19, 20, 21, 22, 23, 24, 25, 26, 27, 28, 29, 30, 31, 32, 33, 34, 35, 36, 37, 38, 39, 40, 41, 42, 43, 44, 45, 46, 47, 48, 49, 50, 51, 52, 53, 54])],
 [],
 [(0, [5, 9, 10, 11, 12, 13, 14, 15, 16, 17, 18])],
 [],
 [(0, [7, 8, 9, 10, 11, 12, 13, 14, 15, 16, 17, 18, 19, 20, 21, 22, 23, 24, 25, 26, 27])],
 [],
 [],
 [(0, [5, 9, 10, 11, 12, 13, 14, 15, 16, 17, 18])],
 [],
 [],
 [],
 [],
 [(0, [3, 4, 5, 9, 10, 11, 12, 13, 14, 15, 16, 17, 18, 19, 20, 21, 22, 23, 24, 25, 26, 27, 28, 29, 30, 31, 32, 33, 34, 35, 36])],
 [(0, [6, 7, 8, 12, 13, 14, 15, 16, 17, 18, 19, 20, 21, 22, 23, 24])],
 [],
 [],
 [],
 [],
 [],
 [(0, [8, 29, 30, 31, 32, 33, 34, 35, 36, 37, 38, 39, 40, 41, 42, 43, 44, 45, 46, 47, 48]), (2, [10, 53, 54, 55, 56, 57, 58, 59, 60, 61, 62, 63])],
 [(0, [5, 6, 11, 12, 13, 14, 15, 16, 17, 18, 19, 20, 21, 22, 23, 24, 25, 26, 27, 28, 29, 30, 31, 32, 33, 34, 35, 36, 37, 38])],
 [(0, [6, 7, 8, 9, 10, 11, 12, 13, 14, 15, 16, 17, 18, 19, 20, 21, 22, 23, 24, 25, 26, 27, 28, 29, 30, 31, 32, 33])],
 [],
 [],
 [],
 [],
 [(0, [10, 11, 12, 13, 14, 15, 16, 17, 18, 19, 20, 21, 22, 23, 24, 25, 26, 27, 28, 29, 30, 31, 32, 33, 34, 35, 36, 37, 38, 39, 40, 41, 42, 43, 44, 45, 46, 47, 48, 49, 50, 51, 52, 53, 54, 55, 56, 57, 58, 59, 60, 61, 62, 63, 64, 65, 66, 67, 68, 69, 70, 71, 72, 73, 74, 75, 76, 77, 78, 79, 80, 81, 82, 83, 84, 85, 86, 87, 88, 89, 90, 91, 92, 93, 94, 95, 96, 97, 98, 99, 100, 101, 102, 103, 104, 105, 106, 107, 108, 109, 110, 111, 112, 113, 114, 115, 116, 117, 118, 119, 120, 121, 122, 123, 124, 125, 126, 127, 128, 129, 130, 131, 132, 133])],
 [],
 [(0, [5, 9, 10, 11, 12, 13, 14, 15, 16, 17, 18])],
 [(0, [5, 9, 10, 11, 12, 13, 14, 15, 16, 17, 18])],
 [(0, [5, 9, 10, 11, 12, 13, 14, 15, 16, 17, 18])],
 [],
 [],
 [],
 [(0, [5, 9, 10, 11, 12, 13, 14, 15, 16, 17, 18])],
 [(0, [7, 10, 11, 12, 13, 14, 15, 16, 17, 18, 19, 20, 21, 22, 23, 24, 25, 26, 27, 28, 29, 30, 31, 32, 33, 34, 35, 36, 37, 38, 39, 40, 41, 42, 43, 44, 45, 46, 47, 48]), (2, [16, 17, 18, 19, 20, 21, 22, 23, 24, 25, 26, 27, 28, 29, 30, 31, 32, 33, 34, 35, 36, 37, 38, 39, 40, 41, 42, 43, 44, 45, 46, 47, 48])],
 [(0, [18, 19, 20, 21, 22, 23, 24, 25, 26]), (2, [29, 30, 31, 32, 33, 34, 35, 36, 37, 38, 39, 40, 41, 42, 43, 44, 45, 46, 47, 48, 49, 50, 51, 52, 53, 54, 55])],
 [(0, [10, 26, 27, 28, 29, 30, 31, 32, 33, 34, 35, 36, 37, 38, 39, 40, 41, 42, 43, 44, 45, 46, 47, 48, 49, 50, 51, 52, 53, 54, 55, 56, 57, 58, 59, 60, 61, 62, 63, 64])],
 [],
 [(0, [11, 12, 13, 14, 15, 16, 17, 18, 19, 20, 21, 22, 23, 24, 25, 26, 27, 28, 29, 30, 31])],
 [(0, [9, 10, 13, 14, 15, 16, 17, 18, 19, 20, 21, 22, 23, 24, 25, 26, 27, 28, 29, 30, 31, 32, 33, 34, 35, 36, 37, 38, 39, 40, 41, 42, 43, 44, 45, 46, 47, 48, 49, 50, 51, 52, 53, 54, 55, 56, 57, 58, 59, 60, 61, 62, 63, 64, 65, 66, 67, 68, 69, 70, 71, 72, 73, 74, 75, 76, 77, 78, 79, 80, 81, 82, 83, 84, 85, 86, 87, 88, 89, 90, 91, 92, 93, 94, 95, 96, 97, 98, 99, 100, 101, 102, 103, 104, 105, 106, 107, 108, 109, 110, 111, 112, 113, 114, 115, 116, 117, 118, 119, 120, 121, 122, 123, 124, 125, 126, 127, 128, 129, 130, 131, 132]), (2, [17, 18, 19, 20, 21, 22, 23, 24, 25, 26, 27, 28, 29, 30, 31, 32, 33, 34]), (4, [64, 65, 66, 67, 68, 69, 70, 71, 72, 73, 74, 75, 76, 77, 78, 79, 80, 81, 82, 83, 84, 85, 86, 87, 88, 89, 90, 91, 92, 93, 94]), (6, [101, 102, 103, 104, 105, 106, 107, 108, 109, 110, 111, 112, 113, 114, 115, 116, 117, 118, 119, 120, 121, 122, 123, 124, 125, 126, 127, 128, 129, 130, 131, 132])],
 [(0, [29, 30, 31, 32, 33, 34, 35, 36, 37, 38, 39, 40, 41, 42, 43, 44, 45, 46, 47, 48, 49, 50, 51, 52, 53, 54, 55, 56, 57, 58, 59, 60, 61, 62, 63, 64, 65, 66, 67, 68, 69, 70, 71, 72, 73, 74, 75, 76, 77, 78, 79, 80, 81, 82]), (2, [29, 30, 31, 32, 33, 34, 35, 36, 37, 38, 39, 40, 41, 42, 43, 44, 45]), (4, [46, 47, 48, 49, 50, 51, 52, 53, 54, 55, 56, 57, 58, 59, 60, 61])],
 [(0, [30, 31, 32, 33, 34, 35, 36, 37, 38, 39, 40, 41, 42, 43, 44, 45]), (2, [46, 47, 48, 49, 50, 51, 52, 53, 54, 55, 56, 57, 58, 59, 60, 61, 62]), (4, [99, 100, 101, 102, 103, 104, 105, 106, 107, 108, 109, 110, 111, 112, 113, 114, 115, 116, 117, 118, 119, 120, 121, 122, 123, 124, 125, 126, 127, 128, 129, 130, 131, 132, 133, 134, 135, 136, 137, 138, 139, 140, 141, 142, 143, 144, 145, 146, 147, 148, 149, 150, 151, 152]), (6, [99, 100, 101, 102, 103, 104, 105, 106, 107, 108, 109, 110, 111, 112, 113, 114]), (8, [115, 116, 117, 118, 119, 120, 121, 122, 123, 124, 125, 126, 127, 128, 129, 130, 131])],
 [],
 [],
 [(0, [5, 9, 10, 11, 12, 13, 14, 15, 16])],
 [(0, [9, 11, 12, 13, 14, 15, 16, 17, 18, 19, 20, 21, 22, 23, 24, 25, 26, 27, 28, 29, 30, 31, 32, 33, 34, 35, 36, 37, 38, 39, 40, 41, 42, 43, 44, 45, 46, 47, 48, 49, 50, 51, 52, 53, 54, 55, 56, 57, 58, 59, 60, 61, 62, 63, 64, 65, 66, 67, 68, 69, 70, 71, 72, 73, 74, 75])],
 [],
 [],
 [],
 [],
 [],
 [],
 [],
 [],
 [],
 [],
 [],
 [],
 [],
 [],
 [],
 [],
 [],
 [],
 [],
 [],
 [],
 []]
def linkT : List (List Nat) := [[], [], [], [], [], [], [], [], [], [], [], [], [19, 21, 22], [], [], [], [], [], [], [], [], [], [], [], [], [], [], [], [], [], [], [], [], [], [], [], [], [], [], [], [], [], [], [40, 44, 108, 112], [], [], [], [], [], [], [], [], [], [], [], [], [], [], [], [], [], [], [], [], [], [], [], [], [], [], [], [], [], [], [], [], [], [], [], [], [], [], [], [], [], [], [], [], [], [], [], [], [], [], [], [], [], [], [], [], [], [], [], [], [], [], [], [], [], [], [], [], [], [], [], [], [], [], [], [], [], [], [], [], [], [], [], [], [], [], [14, 16, 26, 27], [], [], [], [], [], [], [], [], [], [], [], [], [], [], [], [], [], [], [], [], [], [], [], [], [], [], [], [], [], [], [33, 35, 47, 48], [33, 35, 49, 50], [47, 49, 63, 64], [], [14, 16, 26, 27], [42, 44, 56, 57, 79, 81, 93, 94, 117, 119, 131, 132], [11, 13, 23, 24, 65, 67, 77, 78], [12, 14, 24, 25, 66, 68, 78, 79, 81, 83, 93, 94, 135, 137, 147, 148, 153, 155, 165, 166], [], [], [], [53, 57, 73, 74], [], [], [], [], [], [], [], [], [], [], [], [], [], [], [], [], [], [], [], [], [], []]
def preciseT : List Nat := []
def peekT : List Nat := [73]
def mapsT : List Nat := [195, 202, 211]
def bornT : List Nat := [81]
def preT : List (Nat × List (Nat × List Nat)) := [(66, [(14, [12, 35, 36, 37, 38, 39, 40, 41, 42, 43, 44, 45, 46, 47])]), (126, [(14, [9, 18, 19, 20, 21, 22, 23, 24, 25, 26, 27, 28, 29, 30, 31, 32, 33, 34, 35, 36, 37, 38])])]
def turnF (f : Nat) : Option (List Int -> Option (List Int)) := if f = 127 then some Ab.sortO else if f = 130 then some Ab.revO else none
def pairsT : List (List (Nat × List (Nat × Nat))) := [[],
 [],
 [],
 [(30, [(4, 10), (4, 16), (10, 16), (23, 29), (23, 35), (29, 35)])],
 [],
 [(10, [(9, 14)]), (16, [(10, 15)])],
 [],
 [(8, [(0, 1), (0, 3), (1, 3)])],
 [],
 [(5, [(0, 2)]), (12, [(0, 2)]), (21, [(4, 11), (4, 16), (11, 16), (4, 21), (11, 21), (16, 21), (4, 24), (4, 27), (11, 27), (16, 27), (21, 27), (24, 27)])],
 [(7, [(0, 1), (0, 3), (1, 3)]), (18, [(0, 1), (0, 5), (1, 5), (0, 10), (1, 10), (5, 10), (6, 10)]), (29, [(0, 1), (0, 3), (1, 3)]), (40, [(0, 1), (0, 5), (1, 5), (0, 10), (1, 10), (5, 10), (6, 10)]), (41, [(9, 14)])],
 [],
 [],
 [],
 [],
 [],
 [],
 [(7, [(3, 7), (3, 13), (7, 13)])],
 [],
 [],
 [],
 [],
 [],
 [(5, [(5, 10), (5, 15), (10, 15), (5, 16), (10, 16)])],
 [],
 [],
 [],
 [(13, [(4, 9)]), (22, [(4, 11), (4, 14)])],
 [(13, [(3, 7)])],
 [(6, [(3, 7)])],
 [(9, [(14, 19), (14, 22)])],
 [(4, [(9, 14)])],
 [],
 [],
 [],
 [],
 [],
 [(2, [(1, 4), (1, 7), (4, 7)])],
 [],
 [],
 [],
 [],
 [],
 [(2, [(1, 5)]), (18, [(0, 5), (0, 11), (5, 11), (7, 11)])],
 [(6, [(0, 1), (0, 5), (1, 5), (0, 10), (1, 10), (5, 10), (6, 10)])],
 [],
 [],
 [(5, [(1, 3), (1, 7), (1, 9), (3, 9), (7, 9), (1, 13), (3, 13), (7, 13), (1, 14), (3, 14), (7, 14), (1, 16), (3, 16), (7, 16), (9, 16), (13, 16), (14, 16), (1, 20), (3, 20), (7, 20), (9, 20), (13, 20), (14, 20), (1, 21), (3, 21), (7, 21)]), (9, [(1, 3), (1, 6), (1, 7)])],
 [],
 [],
 [],
 [(10, [(1, 5), (1, 8)]), (21, [(1, 7), (5, 7)]), (32, [(1, 6), (4, 6)])],
 [],
 [],
 [],
 [],
 [],
 [(10, [(4, 9)])],
 [(5, [(4, 6)]), (7, [(4, 6)])],
 [],
 [],
 [],
 [],
 [(4, [(0, 4)]), (6, [(6, 11)]), (13, [(0, 4)]), (18, [(0, 4)])],
 [],
 [],
 [],
 [],
 [],
 [],
 [(1, [(2, 5), (2, 8), (5, 8), (2, 11), (5, 11), (8, 11), (2, 17), (5, 17), (8, 17), (11, 17), (13, 17), (14, 17), (2, 20), (5, 20), (8, 20), (11, 20), (13, 20), (14, 20), (17, 20), (25, 28)])],
 [],
 [],
 [],
 [],
 [],
 [],
 [],
 [(8, [(0, 1), (0, 3), (1, 3), (2, 3), (0, 4), (1, 4), (2, 4), (3, 4)])],
 [],
 [(8, [(1, 3), (1, 8), (3, 8), (1, 10), (3, 10), (8, 10), (1, 14), (3, 14), (8, 14), (10, 14), (1, 16), (3, 16), (8, 16), (10, 16), (14, 16), (1, 21), (3, 21), (8, 21), (10, 21), (14, 21), (16, 21), (1, 23), (3, 23), (8, 23), (10, 23), (14, 23), (16, 23), (21, 23)])],
 [],
 [],
 [(2, [(0, 2), (0, 5), (2, 5), (3, 5)])],
 [],
 [],
 [],
 [(6, [(2, 5), (5, 6)])],
 [],
 [],
 [],
 [],
 [(5, [(0, 2), (0, 4), (2, 4), (0, 5), (0, 8), (0, 11), (8, 11), (0, 14), (8, 14), (11, 14), (0, 15)])],
 [(17, [(0, 5), (0, 11), (5, 11), (7, 11)])],
 [],
 [],
 [],
 [],
 [],
 [],
 [],
 [(1, [(0, 2), (0, 5), (2, 5), (3, 5), (0, 6), (2, 6), (3, 6), (5, 6), (0, 9), (2, 9), (3, 9), (5, 9), (6, 9), (7, 9), (0, 10), (2, 10), (3, 10), (5, 10), (6, 10), (7, 10), (9, 10)])],
 [(2, [(1, 5), (3, 5)])],
 [],
 [],
 [(1, [(1, 4), (2, 4)])],
 [(2, [(0, 5), (0, 7), (0, 8), (0, 10)])],
 [],
 [],
 [],
 [(10, [(1, 3), (1, 6)])],
 [],
 [],
 [],
 [],
 [],
 [(5, [(1, 10), (2, 10), (5, 10), (6, 10), (8, 10), (1, 12), (2, 12), (5, 12), (6, 12), (8, 12), (10, 12)])],
 [],
 [],
 [(1, [(2, 7), (4, 7), (5, 7)])],
 [],
 [],
 [],
 [],
 [],
 [],
 [(6, [(0, 1), (0, 2), (1, 2), (0, 5)]), (7, [(0, 1), (0, 2), (1, 2), (0, 5)])],
 [],
 [],
 [],
 [(3, [(7, 11)])],
 [],
 [],
 [],
 [],
 [],
 [],
 [(1, [(1, 3), (2, 3), (1, 5), (2, 5), (1, 7), (2, 7), (3, 7), (5, 7)])],
 [],
 [],
 [(1, [(1, 2), (1, 7), (2, 7), (4, 7), (5, 7), (1, 15), (2, 15), (4, 15), (5, 15), (7, 15), (8, 15), (11, 15), (12, 15), (14, 15), (1, 18), (2, 18), (4, 18), (5, 18), (7, 18), (8, 18), (11, 18), (12, 18), (14, 18), (15, 18)])],
 [],
 [],
 [],
 [],
 [(8, [(1, 3), (1, 4), (1, 8), (3, 8), (4, 8), (1, 10), (3, 10), (4, 10), (8, 10), (8, 11)]), (13, [(1, 2), (1, 3)])],
 [(3, [(6, 7), (14, 18), (17, 18)])],
 [(6, [(6, 11)])],
 [],
 [],
 [],
 [],
 [(17, [(7, 11)])],
 [],
 [],
 [(4, [(0, 4)])],
 [],
 [(1, [(1, 6), (3, 6), (4, 6)])],
 [(1, [(1, 4), (2, 4)])],
 [],
 [],
 [(4, [(7, 12)]), (6, [(9, 13)])],
 [(10, [(11, 15)])],
 [(10, [(11, 15)])],
 [],
 [(3, [(7, 11)])],
 [(5, [(7, 12)]), (11, [(9, 13)]), (16, [(3, 8)]), (17, [(9, 13)]), (22, [(3, 8)]), (23, [(9, 13)])],
 [(1, [(7, 11)]), (3, [(7, 11)]), (5, [(7, 11)]), (8, [(7, 11)])],
 [(1, [(7, 11)]), (3, [(7, 11)]), (5, [(7, 11)]), (8, [(7, 11)]), (10, [(7, 11)]), (13, [(7, 11)]), (15, [(7, 11)]), (18, [(7, 11)]), (21, [(7, 11)])],
 [],
 [],
 [],
 [(3, [(10, 17)]), (5, [(5, 11)]), (6, [(13, 19)])],
 [],
 [(1, [(2, 5)]), (2, [(2, 5)]), (3, [(2, 5)])],
 [],
 [],
 [(1, [(3, 7)])],
 [],
 [],
 [],
 [],
 [],
 [],
 [],
 [],
 [],
 [],
 [],
 [],
 [],
 [],
 [],
 [],
 []]
def lookP : List (Nat × List (Nat × Nat)) -> Nat -> List (Nat × Nat)
 | [], _ => []
 | (k, c) :: l, b => if k = b then c else lookP l b
def look : List (Nat × List Nat) -> Nat -> List Nat
 | [], _ => []
 | (k, c) :: l, b => if k = b then c else look l b
def lookF : List (Nat × List (Nat × List Nat)) -> Nat -> List (Nat × List Nat)
 | [], _ => []
 | (k, c) :: l, b => if k = b then c else lookF l b
def hints : Ab.Hints := {
 take := fun f t => (takeT.getD f []).contains t
 clear := fun f b => look (clearT.getD f []) b
 precise := fun f => preciseT.contains f
 pairs := fun f b => lookP (pairsT.getD f []) b
 link := fun f t => (linkT.getD f []).contains t
 peek := fun f => peekT.contains f
 mapT := fun t => mapsT.contains t
 born := fun f => bornT.contains f
 turn := turnF
 pre := fun f b => look (lookF preT f) b }
end Go.Proofs.YtkcaaaiihhhnmaaGreat.Hn
end
section
namespace Go.Ab
open Go
variable {P : Program}
def sameVal : Value -> Value -> Bool
 | .int k n, .int k' n' => decide (k = k') && decide (n = n')
 | .bool b, .bool b' => b == b'
 | .slice none 0 0, .slice none 0 0 => true
 | .string s, .string s' => decide (s.data.toList = s'.data.toList)
 | _, _ => false
mutual
def V.same : V -> V -> Bool
 | .val a, .val b => sameVal a b
 | .sl f c l, .sl f' c' l' => decide (f = f') && c == c' && sameL l l'
 | .agg l, .agg l' => sameL l l'
 | .tuple l, .tuple l' => sameL l l'
 | _, _ => false
def sameL : List V -> List V -> Bool
 | [], [] => true
 | x :: l, y :: l' => x.same y && sameL l l'
 | _, _ => false
end
theorem sameVal_eq {a b : Value} (h : sameVal a b = true) : a = b := by
 unfold sameVal at h;split at h
 ·simp_all
 ·simp_all
 ·rfl
 ·rename_i s s';have h1 := of_decide_eq_true h;obtain ⟨⟨l⟩⟩ := s;obtain ⟨⟨l'⟩⟩ := s';simp only at h1;rw [h1]
 ·cases h
mutual
theorem same_eq : ∀ (x y : V), x.same y = true -> x = y
 | .val a, y, h => by cases y <;> simp only [V.same] at h <;> first | (rw [sameVal_eq h]) | cases h
 | .sl f c l, y, h => by
  cases y <;> simp only [V.same] at h <;> try (cases h; done)
  simp only [Bool.and_eq_true, decide_eq_true_eq, beq_iff_eq] at h;rw [h.1.1, h.1.2, sameL_eq _ _ h.2]
 | .agg l, y, h => by
  cases y <;> simp only [V.same] at h <;> try (cases h; done)
  rw [sameL_eq _ _ h]
 | .tuple l, y, h => by
  cases y <;> simp only [V.same] at h <;> try (cases h; done)
  rw [sameL_eq _ _ h]
 | .undef, y, h | .ptr .., y, h | .cptr .., y, h | .fn .., y, h | .yld _, y, h | .mref _, y, h | .bsl .., y, h | .mp _, y, h | .iface .., y, h | .lp .., y, h | .room .., y, h => by cases y <;> simp [V.same] at h
theorem sameL_eq : ∀ (l m : List V), sameL l m = true -> l = m
 | [], [], _ => rfl
 | [], y :: m, h => by simp [sameL] at h
 | x :: l, [], h => by simp [sameL] at h
 | x :: l, y :: m, h => by
  simp only [sameL, Bool.and_eq_true] at h;rw [same_eq x y h.1, sameL_eq l m h.2]
end
structure Ran where
 g : FuncId
 args : List V
 r : V
def libOf (t : List Ran) (g : FuncId) : Option (List V -> Option V) :=
 if t.any (fun e => decide (e.g = g)) then some (fun args => (t.find? fun e => decide (e.g = g) && sameL e.args args).map (·.r)) else none
theorem libOf_ok {t : List Ran} (h : ∀ e ∈ t, CallOk P e.g e.args [] e.r []) : ∀ g f args r, libOf t g = some f -> f args = some r -> CallOk P g args [] r [] := by
 intro g f args r hf hr;unfold libOf at hf;split at hf
 ·cases hf;obtain ⟨e, he, rfl⟩ := Option.map_eq_some_iff.1 hr;have h1 := List.find?_some he;simp only [Bool.and_eq_true, decide_eq_true_eq] at h1;rw [<- h1.1, <- sameL_eq _ _ h1.2];exact h e (List.mem_of_find?_eq_some he)
 ·cases hf
theorem ran_ok {H : Hints} (hm : P.follows .mixedOrders = true) (hname : NameOk P H) {t : List Ran} (ht : ∀ e ∈ t, CallOk P e.g e.args [] e.r []) (n : Nat) (e : Ran)
  (h : (match (orcN P H (libOf t) n).call e.g e.args [] with | some (r, []) => r.same e.r | _ => false) = true) : CallOk P e.g e.args [] e.r [] := by
 split at h
 ·rename_i r hr;rw [<- same_eq _ _ h];exact (orcN_ok hm hname (libOf_ok ht) n).call _ _ _ _ _ hr
 ·cases h
end Go.Ab
end
section
namespace Go.Proofs.YtkcaaaiihhhnmaaGreat.Tn
open Go Go.Ab Go.Sort
def l112_ren : Go.Shelf.Ren := ⟨fun | 112 => 130 | n => n, fun | 28 => 46 | 3 => 3 | 4 => 4 | 0 => 0 | n => n, fun n => n⟩
theorem l112 : Lays.n112 Tryz.prog l112_ren where
 mixed := by kernel_rfl
 f112 := Tryz.func130.trans (congrArg some (by kernel_rfl))
 t0 := Tryz.underlying0
 a0 := Tryz.isAgg0
 z0 := Tryz.sizeOf0
 v0 := Tryz.zeroValue0
 t3 := Tryz.underlying3
 a3 := Tryz.isAgg3
 z3 := Tryz.sizeOf3
 v3 := Tryz.zeroValue3
 t4 := Tryz.underlying4
 a4 := Tryz.isAgg4
 z4 := Tryz.sizeOf4
 v4 := Tryz.zeroValue4
 t28 := Tryz.underlying46
 a28 := Tryz.isAgg46
 z28 := Tryz.sizeOf46
 v28 := Tryz.zeroValue46
def l189_ren : Go.Shelf.Ren := ⟨fun | 189 => 127 | 125 => 153 | 257 => 152 | 128 => 169 | 129 => 170 | 294 => 161 | 295 => 162 | 296 => 163 | 297 => 164 | 298 => 165 | 299 => 166 | 216 => 148 | 300 => 167 | 301 => 168 | 328 => 172 | 329 => 173 | 330 => 174 | 331 => 175 | 332 => 176 | 215 => 159 | 343 => 177 | n => n, fun | 28 => 46 | 3 => 3 | 46 => 208 | 0 => 0 | 51 => 226 | 53 => 228 | 4 => 4 | 183 => 220 | 182 => 219 | 131 => 96 | 5 => 5 | 9 => 9 | 218 => 230 | 222 => 234 | 228 => 236 | 229 => 51 | n => n, fun n => n⟩
theorem l189 : Lays.n189 Tryz.prog l189_ren where
 mixed := by kernel_rfl
 f125 := Tryz.func153.trans (congrArg some (by kernel_rfl))
 f128 := Tryz.func169.trans (congrArg some (by kernel_rfl))
 f129 := Tryz.func170.trans (congrArg some (by kernel_rfl))
 f189 := Tryz.func127.trans (congrArg some (by kernel_rfl))
 f215 := Tryz.func159.trans (congrArg some (by kernel_rfl))
 f216 := Tryz.func148.trans (congrArg some (by kernel_rfl))
 f257 := Tryz.func152.trans (congrArg some (by kernel_rfl))
 f294 := Tryz.func161.trans (congrArg some (by kernel_rfl))
 f295 := Tryz.func162.trans (congrArg some (by kernel_rfl))
 f296 := Tryz.func163.trans (congrArg some (by kernel_rfl))
 f297 := Tryz.func164.trans (congrArg some (by kernel_rfl))
 f298 := Tryz.func165.trans (congrArg some (by kernel_rfl))
 f299 := Tryz.func166.trans (congrArg some (by kernel_rfl))
 f300 := Tryz.func167.trans (congrArg some (by kernel_rfl))
 f301 := Tryz.func168.trans (congrArg some (by kernel_rfl))
 f328 := Tryz.func172.trans (congrArg some (by kernel_rfl))
 f329 := Tryz.func173.trans (congrArg some (by kernel_rfl))
 f330 := Tryz.func174.trans (congrArg some (by kernel_rfl))
 f331 := Tryz.func175.trans (congrArg some (by kernel_rfl))
 f332 := Tryz.func176.trans (congrArg some (by kernel_rfl))
 f343 := Tryz.func177.trans (congrArg some (by kernel_rfl))
 t0 := Tryz.underlying0
 a0 := Tryz.isAgg0
 z0 := Tryz.sizeOf0
 v0 := Tryz.zeroValue0
 t3 := Tryz.underlying3
 a3 := Tryz.isAgg3
 z3 := Tryz.sizeOf3
 v3 := Tryz.zeroValue3
 t4 := Tryz.underlying4
 a4 := Tryz.isAgg4
 z4 := Tryz.sizeOf4
 v4 := Tryz.zeroValue4
 t5 := Tryz.underlying5
 a5 := Tryz.isAgg5
 z5 := Tryz.sizeOf5
 v5 := Tryz.zeroValue5
 t9 := Tryz.underlying9
 a9 := Tryz.isAgg9
 z9 := Tryz.sizeOf9
 v9 := Tryz.zeroValue9
 t28 := Tryz.underlying46
 a28 := Tryz.isAgg46
 z28 := Tryz.sizeOf46
 v28 := Tryz.zeroValue46
 t46 := Tryz.underlying208
 a46 := Tryz.isAgg208
 z46 := Tryz.sizeOf208
 v46 := Tryz.zeroValue208
 t51 := Tryz.underlying226
 a51 := Tryz.isAgg226
 z51 := Tryz.sizeOf226
 v51 := Tryz.zeroValue226
 t53 := Tryz.underlying228
 a53 := Tryz.isAgg228
 z53 := Tryz.sizeOf228
 v53 := Tryz.zeroValue228
 t131 := Tryz.underlying96
 a131 := Tryz.isAgg96
 z131 := Tryz.sizeOf96
 v131 := Tryz.zeroValue96
 t182 := Tryz.underlying219
 a182 := Tryz.isAgg219
 z182 := Tryz.sizeOf219
 v182 := Tryz.zeroValue219
 t183 := Tryz.underlying220
 a183 := Tryz.isAgg220
 z183 := Tryz.sizeOf220
 v183 := Tryz.zeroValue220
 t218 := Tryz.underlying230
 a218 := Tryz.isAgg230
 z218 := Tryz.sizeOf230
 v218 := Tryz.zeroValue230
 t222 := Tryz.underlying234
 a222 := Tryz.isAgg234
 z222 := Tryz.sizeOf234
 v222 := Tryz.zeroValue234
 t228 := Tryz.underlying236
 a228 := Tryz.isAgg236
 z228 := Tryz.sizeOf236
 v228 := Tryz.zeroValue236
 t229 := Tryz.underlying51
 a229 := Tryz.isAgg51
 z229 := Tryz.sizeOf51
 v229 := Tryz.zeroValue51
theorem enters {g : FuncId} {fn : Func} (hfn : Tryz.prog.funcs[g]? = some fn) (hb : fn.body.isSome = true) (hn : (fn.name == "runtime.NumGoroutine") = false) (args : Array Value) (w : World) : (callFunc g args).run Tryz.prog w = .ok (.enter g args) w := by
 have hbs : fn.body.isNone = false := by cases h : fn.body <;> simp_all
 simp only [callFunc, Sem.run_bind, run_program, Result.andThen_ok, hfn, hn, hbs, Bool.false_eq_true, if_false, Sem.run_pure]
theorem holds_of {w : World} {b off : Nat} {arr : Array Value} {ty : TypeId} {zs : List Int} (hw : w.heap[b]? = some (.cells arr ty (0, 0))) (hs : Seg w b off (zs.map (Value.int .i64))) : Holds (Value.int .i64) w b off zs.toArray := by
 intro j hj;have hj' : j < zs.length := by simpa using hj
 refine ⟨?_, ?_⟩
 ·have := hs j (.int .i64 zs[j]) (by simp [hj']);rw [this];simp [getElem!_pos, hj']
 ·simp [World.frozen?, hw]
theorem putRow_turned {w : World} {b off n : Nat} {arr : Array Value} {ty : TypeId} {zs : List Int} (os : Array Obj) (hw : w.heap[b]? = some (.cells arr ty (0, 0))) (hle : off + zs.length <= arr.size) :
  Turned w b off (zs.map (Value.int .i64)) (grow (putRow (Value.int .i64) (Sort.ahead w n) b off zs.toArray) os) := by
 refine ⟨putRow (Value.int .i64) w b off zs.toArray, n, os, rfl, by simp [putRow, mapBlock], fun k hk => ?_, fun arr' ty' hw' => ?_, rfl, rfl, rfl⟩
 ·simp only [putRow, mapBlock, Array.getElem?_modify];rw [if_neg (Ne.symm hk)]
 ·rw [hw] at hw'; cases hw';simp only [putRow, mapBlock, Array.getElem?_modify, if_true, hw, Option.map_some, onCells];congr 2
  apply Array.ext_getElem?;intro i;have e1 : (Ab.rowAt arr off (zs.map (Value.int .i64)))[i]? = (Ab.rowAt arr off (zs.map (Value.int .i64))).toList[i]? := by simp
  rw [e1];unfold Ab.rowAt;rw [spliceV_at (by simpa using hle)];unfold putCells;simp only [Array.getElem?_mapIdx, List.length_map, List.size_toArray];by_cases hi : off <= i /\ i < off + zs.length
  ·rw [if_pos hi];have hlt : i < arr.size := by omega
   have h2 : i - off < zs.length := by omega
   rw [Array.getElem?_eq_getElem hlt];simp only [Option.map_some, hi, and_self, if_true, List.getElem?_map, List.getElem?_eq_getElem h2];simp [getElem!_pos, h2]
  ·rw [if_neg hi];cases h3 : arr[i]? with
   | none =>
    have : arr.toList[i]? = none := by simpa using h3
    rw [this]; rfl
   | some x =>
    have : arr.toList[i]? = some x := by simpa using h3
    rw [this]; simp [hi]
theorem rev_ok : TurnOk Tryz.prog 130 revO := by
 intro zs zs' hz;unfold revO at hz;split at hz
 ·rename_i hle;simp only [Option.some.injEq] at hz;subst hz;refine ⟨by simp, fun hne w b off cap arr ty hw hfit hs hcap => ?_, fun h0 w a cap => ?_⟩
  ·refine .inl ⟨enters Tryz.func130 (by kernel_rfl) (by kernel_rfl) _ _, ?_⟩;refine (Any.slices_Reverse_int l112 b off cap zs w (holds_of hw hs) (by omega)).mono ?_;rintro e w' ⟨rfl, n, rfl⟩;have h := putRow_turned (n := n) #[] hw (zs := zs.reverse) (by simpa using hfit);exact ⟨_, rfl, by simpa using h⟩
  ·refine .inl ⟨enters Tryz.func130 (by kernel_rfl) (by kernel_rfl) _ _, ?_⟩;refine (Any.slices_Reverse_int_empty l112 a cap w).mono ?_;rintro e w' ⟨rfl, rfl⟩;exact ⟨_, rfl, 0, #[], by simp⟩
 ·cases hz
theorem insI_perm (x : Int) : ∀ l : List Int, (insI x l).Perm (x :: l)
 | [] => .refl _
 | y :: l => by
  unfold insI;split
  ·exact .refl _
  ·exact ((insI_perm x l).cons y).trans (.swap x y l)
theorem isort_perm : ∀ l : List Int, (isortI l).Perm l
 | [] => .refl _
 | x :: l => (insI_perm x _).trans ((isort_perm l).cons x)
theorem insI_sorted (x : Int) : ∀ l : List Int, l.Pairwise (· <= ·) -> (insI x l).Pairwise (· <= ·)
 | [], _ => by simp [insI]
 | y :: l, h => by
  unfold insI;rw [List.pairwise_cons] at h;split
  ·rename_i hxy;refine List.pairwise_cons.2 ⟨fun z hz => ?_, List.pairwise_cons.2 h⟩;rcases List.mem_cons.1 hz with rfl | hz
   ·exact hxy
   ·exact Int.le_trans hxy (h.1 z hz)
  ·rename_i hxy;refine List.pairwise_cons.2 ⟨fun z hz => ?_, insI_sorted x l h.2⟩;rcases List.mem_cons.1 ((insI_perm x l).mem_iff.1 hz) with rfl | hz
   ·omega
   ·exact h.1 z hz
theorem isort_sorted : ∀ l : List Int, (isortI l).Pairwise (· <= ·)
 | [] => .nil
 | x :: l => insI_sorted x _ (isort_sorted l)
theorem sorted_uniq : ∀ {l m : List Int}, l.Pairwise (· <= ·) -> m.Pairwise (· <= ·) -> l.Perm m -> l = m
 | [], m, _, _, h => (List.nil_perm.1 h).symm
 | x :: l, [], _, _, h => absurd (List.perm_nil.1 h) (by simp)
 | x :: l, y :: m, hl, hm, h => by
  rw [List.pairwise_cons] at hl hm;have h1 : x <= y := by
   rcases List.mem_cons.1 (h.mem_iff.2 (List.mem_cons_self : y ∈ y :: m)) with e | e
   ·omega
   ·exact hl.1 y e
  have h2 : y <= x := by
   rcases List.mem_cons.1 (h.mem_iff.1 (List.mem_cons_self : x ∈ x :: l)) with e | e
   ·omega
   ·exact hm.1 x e
  have e : x = y := by omega
  subst e;rw [sorted_uniq hl.2 hm.2 (List.Perm.cons_inv h)]
theorem isort_eq (zs : List Int) : zs.mergeSort (fun x y => decide (x <= y)) = isortI zs := by
 refine sorted_uniq ?_ (isort_sorted zs) ((List.mergeSort_perm zs _).trans (isort_perm zs).symm);have := List.pairwise_mergeSort (le := fun x y : Int => decide (x <= y)) (fun a b c h1 h2 => by simp only [decide_eq_true_eq] at *; omega) (fun a b => by simp only [Bool.or_eq_true, decide_eq_true_eq]; omega) zs;exact this.imp fun h => by simpa using h
theorem sort_ok : TurnOk Tryz.prog 127 sortO := by
 intro zs zs' hz;unfold sortO at hz;split at hz
 ·rename_i hle;simp only [Option.some.injEq] at hz;subst hz;have hlen : (isortI zs).length = zs.length := (isort_perm zs).length_eq;refine ⟨hlen, fun hne w b off cap arr ty hw hfit hs hcap => ?_, fun h0 w a cap => ?_⟩
  ·refine .inl ⟨enters Tryz.func127 (by kernel_rfl) (by kernel_rfl) _ _, ?_⟩;refine (Any.slices_Sort_int l189 b off cap zs w (holds_of hw hs) (Array.getElem?_eq_some_iff.1 hw).1 (by omega)).mono ?_;rintro e w' ⟨rfl, n, os, rfl⟩;rw [isort_eq];exact ⟨_, rfl, putRow_turned os hw (by rw [hlen]; exact hfit)⟩
  ·refine .inl ⟨enters Tryz.func127 (by kernel_rfl) (by kernel_rfl) _ _, ?_⟩;refine (Any.slices_Sort_int_none l189 a cap w).mono ?_;rintro e w' ⟨rfl, rfl⟩;exact ⟨_, rfl, 0, #[], by simp⟩
 ·cases hz
end Go.Proofs.YtkcaaaiihhhnmaaGreat.Tn
namespace Go.Proofs.YtkcaaaiihhhnmaaGreat
open Go Go.Ab
theorem turns : TurnsOk Tryz.prog Hn.hints := by
 intro g F h;simp only [Hn.hints, Hn.turnF] at h;split at h
 ·rename_i e; subst e; cases h; exact Tn.sort_ok
 split at h
 ·rename_i e; subst e; cases h; exact Tn.rev_ok
 cases h
end Go.Proofs.YtkcaaaiihhhnmaaGreat
end
section
set_option maxRecDepth 100000
namespace Go.Proofs.YtkcaaaiihhhnmaaGreat.St0
open Go Go.Ab Go.Tx
noncomputable section
@[reducible] def I : Ty := .int .i64
@[reducible] def w64 (n : Int) : Int := IntKind.wrap .i64 n
def lookJ : List (List Tmp × FuncId × Kind × Join) -> List Tmp -> FuncId -> Kind -> Option Join
 | [], _, _, _ => none
 | (c, f, k, j) :: l, c', f', k' => if f = f' then (if k = k' then (if c = c' then some j else lookJ l c' f' k') else lookJ l c' f' k') else lookJ l c' f' k'
def mkTH (js : List (List Tmp × FuncId × Kind × Join)) (inl : List (List Tmp × FuncId × Tmp)) : TH where
 lib := fun _ => false
 join := lookJ js
 inl := fun c f d => inl.any fun (c', f', d') => decide (f = f') && decide (d = d') && decide (c = c')
def Lb : FuncId -> Option (List V -> Option V) := fun _ => none
theorem hJ {js : List (List Tmp × FuncId × Kind × Join)} {inl : List (List Tmp × FuncId × Tmp)} : ∀ g, (mkTH js inl).lib g = false -> Lb g = none := fun g h => rfl
def safety_within (a0 : Int) (a1 : Int) (a2 : Int) : Option Bool :=
 (bif decide (a1 <= a0) then
   some (decide (a0 <= a2))
  else
   some false).bind fun (p1 : Bool) =>
 some p1
def e_safety_within : Entry := ⟨84, [.ty I, .ty I, .ty I], [(.bool, 0)], fun x => safety_within x.1 x.2.1 x.2.2⟩
def j_safety_within : TH := mkTH [([], 84, .region 1, { lv := [⟨none, 6, 0⟩], ps := [(.bool, 0)], D := ⟨32704⟩ })] []
theorem k_safety_within (x : denP e_safety_within.ps) : fnT Tryz.prog Hn.hints j_safety_within (tabT []) 40 84 (ofPms e_safety_within.ps x) e_safety_within.rs = e_safety_within.F x := by kernel_rfl
theorem o_safety_within : EntryOk Tryz.prog Hn.hints Lb e_safety_within := entry_ok tab_nil hJ 40 _ _ _ _ k_safety_within
def safety_isSized (a0 : Int) (a1 : Int) : Option Bool :=
 (safety_within a0 (w64 (0 - a1)) a1).bind fun x1 =>
 some x1
def e_safety_isSized : Entry := ⟨94, [.ty I, .ty I], [(.bool, 0)], fun x => safety_isSized x.1 x.2⟩
def j_safety_isSized : TH := mkTH [] []
theorem k_safety_isSized (x : denP e_safety_isSized.ps) : fnT Tryz.prog Hn.hints j_safety_isSized (tabT [e_safety_within]) 40 94 (ofPms e_safety_isSized.ps x) e_safety_isSized.rs = e_safety_isSized.F x := by kernel_rfl
theorem o_safety_isSized : EntryOk Tryz.prog Hn.hints Lb e_safety_isSized := entry_ok (tab_cons o_safety_within tab_nil) hJ 40 _ _ _ _ k_safety_isSized
def safety_unless (a0 : Bool) (a1 : Int) : Option Int :=
 bif a0 then
  some 0
 else
  some a1
def e_safety_unless : Entry := ⟨72, [.ty .bool, .ty I], [(I, 0)], fun x => safety_unless x.1 x.2⟩
def j_safety_unless : TH := mkTH [] []
theorem k_safety_unless (x : denP e_safety_unless.ps) : fnT Tryz.prog Hn.hints j_safety_unless (tabT []) 40 72 (ofPms e_safety_unless.ps x) e_safety_unless.rs = e_safety_unless.F x := by kernel_rfl
theorem o_safety_unless : EntryOk Tryz.prog Hn.hints Lb e_safety_unless := entry_ok tab_nil hJ 40 _ _ _ _ k_safety_unless
def safety_first (a0 : (List Int)) : Option Int :=
 (loopO (fun (s2 : Int) =>
   bif decide (s2 < (a0.length : Int)) then
    (idx a0 s2).bind fun x3 =>
    bif !(decide (x3 = 0)) then
     some (.inr (.inr x3))
    else
     some (.inl (w64 (s2 + 1)))
   else
    some (.inr (.inl ()))) 0).bind (Sum.elim (fun (p4 : Unit) =>
 some 0) some)
def e_safety_first : Entry := ⟨71, [.ty (.sl I)], [(I, 0)], fun x => safety_first x⟩
def j_safety_first : TH := mkTH [([], 71, .block 0, { lv := [], ps := [], abn := true, D := ⟨32656⟩ }),
 ([], 71, .loop 0, { lv := [⟨none, 7, 0⟩], ps := [(I, 0)], D := ⟨32656⟩ })] []
theorem k_safety_first (x : denP e_safety_first.ps) : fnT Tryz.prog Hn.hints j_safety_first (tabT []) 40 71 (ofPms e_safety_first.ps x) e_safety_first.rs = e_safety_first.F x := by kernel_rfl
theorem o_safety_first : EntryOk Tryz.prog Hn.hints Lb e_safety_first := entry_ok tab_nil hJ 40 _ _ _ _ k_safety_first
def safety_CheckLimits (a0 : (Int × Int × Int × Int × Int × Unit)) : Option Int :=
 ((safety_isSized a0.1 (60 : Int)).bind fun x1 =>
  bif x1 then
   (safety_isSized a0.2.1 (60 : Int)).bind fun x2 =>
   bif x2 then
    (safety_within a0.2.2.1 (1 : Int) (8 : Int)).bind fun x3 =>
    bif x3 then
     (safety_within a0.2.2.2.1 (1 : Int) (3 : Int)).bind fun x4 =>
     bif x4 then
      (safety_within a0.2.2.2.2.1 (1 : Int) (6 : Int)).bind fun x5 =>
      some x5
     else
      some false
    else
     some false
   else
    some false
  else
   some false).bind fun (p6 : Bool) =>
 (safety_unless p6 (2 : Int)).bind fun x7 =>
 (safety_unless (decide (a0.1 <= a0.2.1)) (9 : Int)).bind fun x8 =>
 (safety_first ([x7, x8])).bind fun x9 =>
 some x9
def e_safety_CheckLimits : Entry := ⟨37, [.ty (.pair I (.pair I (.pair I (.pair I (.pair I .unit)))))], [(I, 0)], fun x => safety_CheckLimits x⟩
def j_safety_CheckLimits : TH := mkTH [([], 37, .region 1, { lv := [⟨none, 3, 0⟩], ps := [(.bool, 0)], D := ⟨536870904⟩, rs := [⟨0, 1⟩], Dn := ⟨502233544⟩ })] []
theorem k_safety_CheckLimits (x : denP e_safety_CheckLimits.ps) : fnT Tryz.prog Hn.hints j_safety_CheckLimits (tabT [e_safety_first, e_safety_isSized, e_safety_unless, e_safety_within]) 40 37 (ofPms e_safety_CheckLimits.ps x) e_safety_CheckLimits.rs = e_safety_CheckLimits.F x := by kernel_rfl
theorem o_safety_CheckLimits : EntryOk Tryz.prog Hn.hints Lb e_safety_CheckLimits := entry_ok (tab_cons o_safety_first (tab_cons o_safety_isSized (tab_cons o_safety_unless (tab_cons o_safety_within tab_nil)))) hJ 40 _ _ _ _ k_safety_CheckLimits
def safety_openMotion (a0 : (Int × Int × Int × Int × Int × Unit)) (a1 : (Int × Int × Int × Unit)) : Option Int :=
 ((safety_within a1.1 a0.1 a0.2.1).bind fun x1 =>
  bif x1 then
   (safety_isSized a1.2.1 a0.2.2.1).bind fun x2 =>
   bif x2 then
    (safety_isSized a1.2.2.1 a0.2.2.2.1).bind fun x3 =>
    some x3
   else
    some false
  else
   some false).bind fun (p4 : Bool) =>
 (safety_CheckLimits a0).bind fun x5 =>
 (safety_unless p4 (2 : Int)).bind fun x6 =>
 (safety_first ([x5, x6])).bind fun x7 =>
 some x7
def e_safety_openMotion : Entry := ⟨91, [.ty (.pair I (.pair I (.pair I (.pair I (.pair I .unit))))), .ty (.pair I (.pair I (.pair I .unit)))], [(I, 0)], fun x => safety_openMotion x.1 x.2⟩
def j_safety_openMotion : TH := mkTH [([], 91, .region 1, { lv := [⟨none, 5, 0⟩], ps := [(.bool, 0)], D := ⟨536870880⟩, rs := [⟨0, 2⟩, ⟨0, 3⟩], Dn := ⟨494593184⟩ })] []
theorem k_safety_openMotion (x : denP e_safety_openMotion.ps) : fnT Tryz.prog Hn.hints j_safety_openMotion (tabT [e_safety_CheckLimits, e_safety_first, e_safety_isSized, e_safety_unless, e_safety_within]) 40 91 (ofPms e_safety_openMotion.ps x) e_safety_openMotion.rs = e_safety_openMotion.F x := by kernel_rfl
theorem o_safety_openMotion : EntryOk Tryz.prog Hn.hints Lb e_safety_openMotion := entry_ok (tab_cons o_safety_CheckLimits (tab_cons o_safety_first (tab_cons o_safety_isSized (tab_cons o_safety_unless (tab_cons o_safety_within tab_nil))))) hJ 40 _ _ _ _ k_safety_openMotion
def safety_atRest (a0 : (Int × Int × Int × Unit)) : Option Bool :=
 (bif decide (a0.2.1 = 0) then
   some (decide (a0.2.2.1 = 0))
  else
   some false).bind fun (p1 : Bool) =>
 some p1
def e_safety_atRest : Entry := ⟨95, [.ty (.pair I (.pair I (.pair I .unit)))], [(.bool, 0)], fun x => safety_atRest x⟩
def j_safety_atRest : TH := mkTH [([], 95, .region 1, { lv := [⟨none, 2, 0⟩], ps := [(.bool, 0)], D := ⟨2044⟩, rs := [⟨0, 1⟩], Dn := ⟨1908⟩ })] []
theorem k_safety_atRest (x : denP e_safety_atRest.ps) : fnT Tryz.prog Hn.hints j_safety_atRest (tabT []) 40 95 (ofPms e_safety_atRest.ps x) e_safety_atRest.rs = e_safety_atRest.F x := by kernel_rfl
theorem o_safety_atRest : EntryOk Tryz.prog Hn.hints Lb e_safety_atRest := entry_ok tab_nil hJ 40 _ _ _ _ k_safety_atRest
def safety_pushed (a0 : (Int × Int × Int × Int × Int × Unit)) (a1 : (Int × Int × Int × Unit)) (a2 : Int) : Option ((Int × Int × Int × Unit) × Bool) :=
 ((safety_isSized a2 a0.2.2.2.1).bind fun x1 =>
  bif !x1 then
   some true
  else
   (safety_isSized (w64 (a2 - a1.2.2.1)) a0.2.2.2.2.1).bind fun x2 =>
   some (!x2)).bind fun (p3 : Bool) =>
 bif p3 then
  some (a1, false)
 else
  ((safety_isSized (w64 (a1.2.1 + a2)) a0.2.2.1).bind fun x4 =>
   bif x4 then
    (safety_within (w64 (a1.1 + (w64 (a1.2.1 + a2)))) a0.1 a0.2.1).bind fun x5 =>
    some (x5, w64 (a1.1 + (w64 (a1.2.1 + a2))), w64 (a1.2.1 + a2), a2)
   else
    some (false, w64 (a1.1 + (w64 (a1.2.1 + a2))), w64 (a1.2.1 + a2), a2)).bind fun (p6 : (Bool × Int × Int × Int)) =>
  some ((p6.2.1, p6.2.2.1, p6.2.2.2, ()), p6.1)
def e_safety_pushed : Entry := ⟨92, [.ty (.pair I (.pair I (.pair I (.pair I (.pair I .unit))))), .ty (.pair I (.pair I (.pair I .unit))), .ty I], [((.pair I (.pair I (.pair I .unit))), 0), (.bool, 0)], fun x => safety_pushed x.1 x.2.1 x.2.2⟩
def j_safety_pushed : TH := mkTH [([], 92, .region 1, { lv := [⟨none, 22, 0⟩], ps := [(.bool, 0)], D := ⟨8388352⟩, rs := [⟨0, 3⟩, ⟨0, 4⟩], Dn := ⟨8092928⟩ }),
 ([], 92, .region 5, { lv := [⟨none, 7, 0⟩, ⟨some 0, 6, 0⟩, ⟨some 0, 6, 1⟩, ⟨some 0, 6, 2⟩], ps := [(.bool, 0), (I, 0), (I, 0), (I, 0)], D := ⟨18014261070528640⟩, wr := [⟨0, 6⟩], rs := [⟨0, 3⟩, ⟨0, 4⟩], Dn := ⟨16095338402152576⟩ })] []
theorem k_safety_pushed (x : denP e_safety_pushed.ps) : fnT Tryz.prog Hn.hints j_safety_pushed (tabT [e_safety_isSized, e_safety_within]) 40 92 (ofPms e_safety_pushed.ps x) e_safety_pushed.rs = e_safety_pushed.F x := by kernel_rfl
theorem o_safety_pushed : EntryOk Tryz.prog Hn.hints Lb e_safety_pushed := entry_ok (tab_cons o_safety_isSized (tab_cons o_safety_within tab_nil)) hJ 40 _ _ _ _ k_safety_pushed
def safety_stop (a0 : (Int × Int × Int × Int × Int × Unit)) (a1 : (Int × Int × Int × Unit)) : Option ((List Int) × Bool) :=
 (loopO (fun (s2 : ((List (Int × Int × Int × Int × Unit)) × Int × (List (Int × Int × Int × Unit)))) =>
   bif decide (s2.2.1 < (s2.1.length : Int)) then
    (idx s2.1 s2.2.1).bind fun x3 =>
    (safety_atRest (x3.1, x3.2.1, x3.2.2.1, ())).bind fun x4 =>
    bif x4 then
     (loopO (fun (s7 : ((List Int) × Int)) =>
       (idx s2.1 s7.2).bind fun x8 =>
       bif decide (x8.2.2.2.1 >= 0) then
        (idx s2.1 s7.2).bind fun x9 =>
        (app s7.1 ([x9.2.2.1])).bind fun x10 =>
        (idx s2.1 s7.2).bind fun x11 =>
        some (.inl (x10, x11.2.2.2.1))
       else
        some (.inr s7.1)) ([], s2.2.1)).bind fun (p12 : (List Int)) =>
     (revO p12).bind fun x13 =>
     some (.inr (.inr (x13, true)))
    else
     (loopO (fun (s15 : ((List (Int × Int × Int × Int × Unit)) × Int × (List (Int × Int × Int × Unit)))) =>
       bif decide (s15.2.1 <= a0.2.2.2.1) then
        (idx s15.1 s2.2.1).bind fun x16 =>
        (safety_pushed a0 (x16.1, x16.2.1, x16.2.2.1, ()) s15.2.1).bind fun x17 =>
        (bif x17.2 then
          some (!(memK (.pair I (.pair I (.pair I .unit))) s15.2.2 x17.1))
         else
          some false).bind fun (p18 : Bool) =>
        (bif p18 then
          (app s15.1 ([(x17.1.1, x17.1.2.1, x17.1.2.2.1, s2.2.1, ())])).bind fun x19 =>
          some (x19, insK (.pair I (.pair I (.pair I .unit))) s15.2.2 x17.1)
         else
          some (s15.1, s15.2.2)).bind fun (p20 : ((List (Int × Int × Int × Int × Unit)) × (List (Int × Int × Int × Unit)))) =>
        some (.inl (p20.1, w64 (s15.2.1 + 1), p20.2))
       else
        some (.inr (s15.1, s15.2.2))) (s2.1, w64 (0 - a0.2.2.2.1), s2.2.2)).bind fun (p21 : ((List (Int × Int × Int × Int × Unit)) × (List (Int × Int × Int × Unit)))) =>
     some (.inl (p21.1, w64 (s2.2.1 + 1), p21.2))
   else
    some (.inr (.inl ()))) ([(a1.1, a1.2.1, a1.2.2.1, (-1), ())], 0, insK (.pair I (.pair I (.pair I .unit))) [] a1)).bind (Sum.elim (fun (p22 : Unit) =>
 some ([], false)) some)
def e_safety_stop : Entry := ⟨93, [.ty (.pair I (.pair I (.pair I (.pair I (.pair I .unit))))), .ty (.pair I (.pair I (.pair I .unit)))], [((.sl I), 1), (.bool, 0)], fun x => safety_stop x.1 x.2⟩
def j_safety_stop : TH := mkTH [([], 93, .block 0, { lv := [], ps := [], abn := true, D := ⟨2475880078570760549797216064⟩, wr := [⟨0, 12⟩, ⟨0, 16401⟩] }),
 ([], 93, .loop 0, { lv := [⟨none, 6, 0⟩, ⟨none, 8, 0⟩, ⟨some 0, 16401, 0⟩], ps := [((.sl (.pair I (.pair I (.pair I (.pair I .unit))))), 1), (I, 0), ((.mset (.pair I (.pair I (.pair I .unit)))), 0)], D := ⟨2475880078570760549797216064⟩, wr := [⟨0, 12⟩, ⟨0, 16401⟩], rs := [⟨0, 2⟩], Dn := ⟨2475880077345781451152441152⟩ }),
 ([], 93, .block 2, { lv := [⟨none, 9, 0⟩], ps := [((.sl I), 1)], D := ⟨9007190664807936⟩ }),
 ([], 93, .loop 2, { lv := [⟨none, 9, 0⟩, ⟨none, 10, 0⟩], ps := [((.sl I), 1), (I, 0)], D := ⟨9007190664807936⟩ }),
 ([], 93, .block 4, { lv := [⟨none, 6, 0⟩, ⟨some 0, 16401, 0⟩], ps := [((.sl (.pair I (.pair I (.pair I (.pair I .unit))))), 1), ((.mset (.pair I (.pair I (.pair I .unit)))), 0)], D := ⟨2475880077994299797494839872⟩, wr := [⟨0, 12⟩, ⟨0, 16401⟩], rs := [⟨0, 2⟩], Dn := ⟨2475880076841378292887992896⟩ }),
 ([], 93, .loop 4, { lv := [⟨none, 6, 0⟩, ⟨none, 11, 0⟩, ⟨some 0, 16401, 0⟩], ps := [((.sl (.pair I (.pair I (.pair I (.pair I .unit))))), 1), (I, 0), ((.mset (.pair I (.pair I (.pair I .unit)))), 0)], D := ⟨2475880077994299797494839872⟩, wr := [⟨0, 12⟩, ⟨0, 16401⟩], rs := [⟨0, 2⟩, ⟨0, 12⟩, ⟨0, 16401⟩], Dn := ⟨2465906438829557602196662848⟩ }),
 ([], 93, .region 18, { lv := [⟨none, 82, 0⟩], ps := [(.bool, 0)], D := ⟨9595848693191119074230272⟩, rs := [⟨0, 16401⟩], Dn := ⟨9293617238287461780553728⟩ }),
 ([], 93, .cond 82, { lv := [⟨none, 6, 0⟩, ⟨some 0, 16401, 0⟩], ps := [((.sl (.pair I (.pair I (.pair I (.pair I .unit))))), 1), ((.mset (.pair I (.pair I (.pair I .unit)))), 0)], D := ⟨2466208672013843516400599104⟩, wr := [⟨0, 16401⟩], rs := [⟨0, 16401⟩], Dn := ⟨2456537265456926483002949696⟩ })] []
theorem k_safety_stop (x : denP e_safety_stop.ps) : fnT Tryz.prog Hn.hints j_safety_stop (tabT [e_safety_atRest, e_safety_pushed]) 40 93 (ofPms e_safety_stop.ps x) e_safety_stop.rs = e_safety_stop.F x := by kernel_rfl
theorem o_safety_stop : EntryOk Tryz.prog Hn.hints Lb e_safety_stop := entry_ok (tab_cons o_safety_atRest (tab_cons o_safety_pushed tab_nil)) hJ 40 _ _ _ _ k_safety_stop
def safety_StopFrom (a0 : (Int × Int × Int × Int × Int × Unit)) (a1 : (Int × Int × Int × Unit)) : Option ((List Int) × Int) :=
 (safety_openMotion a0 a1).bind fun x1 =>
 bif !(decide (x1 = 0)) then
  some ([], x1)
 else
  (safety_stop a0 a1).bind fun x2 =>
  (safety_unless x2.2 (12 : Int)).bind fun x3 =>
  some (x2.1, x3)
def e_safety_StopFrom : Entry := ⟨38, [.ty (.pair I (.pair I (.pair I (.pair I (.pair I .unit))))), .ty (.pair I (.pair I (.pair I .unit)))], [((.sl I), 1), (I, 0)], fun x => safety_StopFrom x.1 x.2⟩
def j_safety_StopFrom : TH := mkTH [] []
theorem k_safety_StopFrom (x : denP e_safety_StopFrom.ps) : fnT Tryz.prog Hn.hints j_safety_StopFrom (tabT [e_safety_openMotion, e_safety_stop, e_safety_unless]) 40 38 (ofPms e_safety_StopFrom.ps x) e_safety_StopFrom.rs = e_safety_StopFrom.F x := by kernel_rfl
theorem o_safety_StopFrom : EntryOk Tryz.prog Hn.hints Lb e_safety_StopFrom := entry_ok (tab_cons o_safety_openMotion (tab_cons o_safety_stop (tab_cons o_safety_unless tab_nil))) hJ 40 _ _ _ _ k_safety_StopFrom
end
end Go.Proofs.YtkcaaaiihhhnmaaGreat.St0
end
section
namespace Go.Proofs.YtkcaaaiihhhnmaaGreat.St0
open Go Go.Ab Go.Tx
def Le {α : Type} (a b : Option α) : Prop := ∀ r, a = some r -> b = some r
theorem Le.refl {α : Type} (a : Option α) : Le a a := fun _ h => h
theorem Le.bind {α β : Type} {a a' : Option α} {f f' : α -> Option β} (h : Le a a') (hf : ∀ x, Le (f x) (f' x)) : Le (a.bind f) (a'.bind f') := fun r hr => by
 obtain ⟨x, hx, hr⟩ := Option.bind_eq_some_iff.1 hr;rw [h x hx]; exact hf x r hr
theorem Le.cond {α : Type} {c : Bool} {a a' b b' : Option α} (h : Le a a') (h' : Le b b') : Le (bif c then a else b) (bif c then a' else b') := by cases c <;> assumption
theorem Le.elim {α β γ : Type} {f f' : α -> Option γ} {g : β -> Option γ} (hf : ∀ x, Le (f x) (f' x)) (x : α ⊕ β) : Le (Sum.elim f g x) (Sum.elim f' g x) := by
 cases x with
 | inl x => exact hf x
 | inr y => exact Le.refl _
theorem Le.map {α β : Type} {a a' : Option α} {f : α -> β} (h : Le a a') : Le (a.map f) (a'.map f) := fun r hr => by
 obtain ⟨x, hx, rfl⟩ := Option.map_eq_some_iff.1 hr;rw [h x hx]; rfl
theorem loopN_le {σ ρ : Type} {f g : σ -> Option (σ ⊕ ρ)} (h : ∀ s, Le (f s) (g s)) : ∀ n s, Le (loopN f n s) (loopN g n s)
 | 0, s => Le.refl _
 | n + 1, s => fun r hr => by
  simp only [loopN] at hr ⊢;cases hf : f s with
  | none => rw [hf] at hr; cases hr
  | some x =>
   rw [hf] at hr;rw [h s x hf];cases x with
   | inl s' => exact loopN_le h n s' r hr
   | inr q => exact hr
theorem loopN_more {σ ρ : Type} {f : σ -> Option (σ ⊕ ρ)} : ∀ {n m : Nat} {s : σ} {r : ρ}, n <= m -> loopN f n s = some r -> loopN f m s = some r
 | 0, _, _, _, _, h => by simp [loopN] at h
 | n + 1, 0, _, _, hle, _ => by omega
 | n + 1, m + 1, s, r, hle, h => by
  simp only [loopN] at h ⊢;cases hf : f s with
  | none => rw [hf] at h; cases h
  | some x =>
   rw [hf] at h;cases x with
   | inl s' => exact loopN_more (by omega) h
   | inr q => exact h
theorem loopO_of {σ ρ : Type} {f : σ -> Option (σ ⊕ ρ)} {n : Nat} {s : σ} {r : ρ} (h : loopN f n s = some r) : loopO f s = some r := by
 unfold loopO;rw [dif_pos ⟨n, r, h⟩];have h2 := Classical.choose_spec (Classical.choose_spec (⟨n, r, h⟩ : ∃ n r, loopN f n s = some r));have h3 := loopN_more (Nat.le_max_left n (Classical.choose (⟨n, r, h⟩ : ∃ n r, loopN f n s = some r))) h;have h4 := loopN_more (Nat.le_max_right n (Classical.choose (⟨n, r, h⟩ : ∃ n r, loopN f n s = some r))) h2;rw [h3] at h4;exact h4.symm
theorem Le.loop {σ ρ : Type} {f g : σ -> Option (σ ⊕ ρ)} {n : Nat} {s : σ} (h : ∀ s, Le (f s) (g s)) : Le (loopN f n s) (loopO g s) := fun r hr => loopO_of (loopN_le h n s r hr)
def loopF {σ ρ : Type} (f : σ -> Option (σ ⊕ ρ)) (s : σ) : Option ρ := loopN f 400 s
theorem Le.loopF {σ ρ : Type} {f g : σ -> Option (σ ⊕ ρ)} {s : σ} (h : ∀ s, Le (f s) (g s)) : Le (St0.loopF f s) (loopO g s) := Le.loop h
def safety_within_f (a0 : Int) (a1 : Int) (a2 : Int) : Option Bool :=
 (bif decide (a1 <= a0) then
   some (decide (a0 <= a2))
  else
   some false).bind fun (p1 : Bool) =>
 some p1
theorem safety_within_le (a0 : Int) (a1 : Int) (a2 : Int) : Le (safety_within_f a0 a1 a2) (safety_within a0 a1 a2) := by
 unfold safety_within_f safety_within;repeat' first | exact Le.refl _ | refine Le.loopF fun _ => ?_ | refine Le.elim (fun _ => ?_) _ | refine Le.bind ?_ fun _ => ?_ | refine Le.cond ?_ ?_ | refine Le.map ?_
def safety_isSized_f (a0 : Int) (a1 : Int) : Option Bool :=
 (safety_within_f a0 (w64 (0 - a1)) a1).bind fun x1 =>
 some x1
theorem safety_isSized_le (a0 : Int) (a1 : Int) : Le (safety_isSized_f a0 a1) (safety_isSized a0 a1) := by
 unfold safety_isSized_f safety_isSized;repeat' first | exact Le.refl _ | exact safety_within_le _ _ _ | refine Le.loopF fun _ => ?_ | refine Le.elim (fun _ => ?_) _ | refine Le.bind ?_ fun _ => ?_ | refine Le.cond ?_ ?_ | refine Le.map ?_
def safety_unless_f (a0 : Bool) (a1 : Int) : Option Int :=
 bif a0 then
  some 0
 else
  some a1
theorem safety_unless_le (a0 : Bool) (a1 : Int) : Le (safety_unless_f a0 a1) (safety_unless a0 a1) := by
 unfold safety_unless_f safety_unless;repeat' first | exact Le.refl _ | refine Le.loopF fun _ => ?_ | refine Le.elim (fun _ => ?_) _ | refine Le.bind ?_ fun _ => ?_ | refine Le.cond ?_ ?_ | refine Le.map ?_
def safety_first_f (a0 : (List Int)) : Option Int :=
 (loopF (fun (s2 : Int) =>
   bif decide (s2 < (a0.length : Int)) then
    (idx a0 s2).bind fun x3 =>
    bif !(decide (x3 = 0)) then
     some (.inr (.inr x3))
    else
     some (.inl (w64 (s2 + 1)))
   else
    some (.inr (.inl ()))) 0).bind (Sum.elim (fun (p4 : Unit) =>
 some 0) some)
theorem safety_first_le (a0 : (List Int)) : Le (safety_first_f a0) (safety_first a0) := by
 unfold safety_first_f safety_first;repeat' first | exact Le.refl _ | refine Le.loopF fun _ => ?_ | refine Le.elim (fun _ => ?_) _ | refine Le.bind ?_ fun _ => ?_ | refine Le.cond ?_ ?_ | refine Le.map ?_
def safety_CheckLimits_f (a0 : (Int × Int × Int × Int × Int × Unit)) : Option Int :=
 ((safety_isSized_f a0.1 (60 : Int)).bind fun x1 =>
  bif x1 then
   (safety_isSized_f a0.2.1 (60 : Int)).bind fun x2 =>
   bif x2 then
    (safety_within_f a0.2.2.1 (1 : Int) (8 : Int)).bind fun x3 =>
    bif x3 then
     (safety_within_f a0.2.2.2.1 (1 : Int) (3 : Int)).bind fun x4 =>
     bif x4 then
      (safety_within_f a0.2.2.2.2.1 (1 : Int) (6 : Int)).bind fun x5 =>
      some x5
     else
      some false
    else
     some false
   else
    some false
  else
   some false).bind fun (p6 : Bool) =>
 (safety_unless_f p6 (2 : Int)).bind fun x7 =>
 (safety_unless_f (decide (a0.1 <= a0.2.1)) (9 : Int)).bind fun x8 =>
 (safety_first_f ([x7, x8])).bind fun x9 =>
 some x9
theorem safety_CheckLimits_le (a0 : (Int × Int × Int × Int × Int × Unit)) : Le (safety_CheckLimits_f a0) (safety_CheckLimits a0) := by
 unfold safety_CheckLimits_f safety_CheckLimits;repeat' first | exact Le.refl _ | exact safety_within_le _ _ _ | exact safety_isSized_le _ _ | exact safety_unless_le _ _ | exact safety_first_le _ | refine Le.loopF fun _ => ?_ | refine Le.elim (fun _ => ?_) _ | refine Le.bind ?_ fun _ => ?_ | refine Le.cond ?_ ?_ | refine Le.map ?_
def safety_openMotion_f (a0 : (Int × Int × Int × Int × Int × Unit)) (a1 : (Int × Int × Int × Unit)) : Option Int :=
 ((safety_within_f a1.1 a0.1 a0.2.1).bind fun x1 =>
  bif x1 then
   (safety_isSized_f a1.2.1 a0.2.2.1).bind fun x2 =>
   bif x2 then
    (safety_isSized_f a1.2.2.1 a0.2.2.2.1).bind fun x3 =>
    some x3
   else
    some false
  else
   some false).bind fun (p4 : Bool) =>
 (safety_CheckLimits_f a0).bind fun x5 =>
 (safety_unless_f p4 (2 : Int)).bind fun x6 =>
 (safety_first_f ([x5, x6])).bind fun x7 =>
 some x7
theorem safety_openMotion_le (a0 : (Int × Int × Int × Int × Int × Unit)) (a1 : (Int × Int × Int × Unit)) : Le (safety_openMotion_f a0 a1) (safety_openMotion a0 a1) := by
 unfold safety_openMotion_f safety_openMotion;repeat' first | exact Le.refl _ | exact safety_within_le _ _ _ | exact safety_isSized_le _ _ | exact safety_unless_le _ _ | exact safety_first_le _ | exact safety_CheckLimits_le _ | refine Le.loopF fun _ => ?_ | refine Le.elim (fun _ => ?_) _ | refine Le.bind ?_ fun _ => ?_ | refine Le.cond ?_ ?_ | refine Le.map ?_
def safety_atRest_f (a0 : (Int × Int × Int × Unit)) : Option Bool :=
 (bif decide (a0.2.1 = 0) then
   some (decide (a0.2.2.1 = 0))
  else
   some false).bind fun (p1 : Bool) =>
 some p1
theorem safety_atRest_le (a0 : (Int × Int × Int × Unit)) : Le (safety_atRest_f a0) (safety_atRest a0) := by
 unfold safety_atRest_f safety_atRest;repeat' first | exact Le.refl _ | refine Le.loopF fun _ => ?_ | refine Le.elim (fun _ => ?_) _ | refine Le.bind ?_ fun _ => ?_ | refine Le.cond ?_ ?_ | refine Le.map ?_
def safety_pushed_f (a0 : (Int × Int × Int × Int × Int × Unit)) (a1 : (Int × Int × Int × Unit)) (a2 : Int) : Option ((Int × Int × Int × Unit) × Bool) :=
 ((safety_isSized_f a2 a0.2.2.2.1).bind fun x1 =>
  bif !x1 then
   some true
  else
   (safety_isSized_f (w64 (a2 - a1.2.2.1)) a0.2.2.2.2.1).bind fun x2 =>
   some (!x2)).bind fun (p3 : Bool) =>
 bif p3 then
  some (a1, false)
 else
  ((safety_isSized_f (w64 (a1.2.1 + a2)) a0.2.2.1).bind fun x4 =>
   bif x4 then
    (safety_within_f (w64 (a1.1 + (w64 (a1.2.1 + a2)))) a0.1 a0.2.1).bind fun x5 =>
    some (x5, w64 (a1.1 + (w64 (a1.2.1 + a2))), w64 (a1.2.1 + a2), a2)
   else
    some (false, w64 (a1.1 + (w64 (a1.2.1 + a2))), w64 (a1.2.1 + a2), a2)).bind fun (p6 : (Bool × Int × Int × Int)) =>
  some ((p6.2.1, p6.2.2.1, p6.2.2.2, ()), p6.1)
theorem safety_pushed_le (a0 : (Int × Int × Int × Int × Int × Unit)) (a1 : (Int × Int × Int × Unit)) (a2 : Int) : Le (safety_pushed_f a0 a1 a2) (safety_pushed a0 a1 a2) := by
 unfold safety_pushed_f safety_pushed;repeat' first | exact Le.refl _ | exact safety_within_le _ _ _ | exact safety_isSized_le _ _ | refine Le.loopF fun _ => ?_ | refine Le.elim (fun _ => ?_) _ | refine Le.bind ?_ fun _ => ?_ | refine Le.cond ?_ ?_ | refine Le.map ?_
def safety_stop_f (a0 : (Int × Int × Int × Int × Int × Unit)) (a1 : (Int × Int × Int × Unit)) : Option ((List Int) × Bool) :=
 (loopF (fun (s2 : ((List (Int × Int × Int × Int × Unit)) × Int × (List (Int × Int × Int × Unit)))) =>
   bif decide (s2.2.1 < (s2.1.length : Int)) then
    (idx s2.1 s2.2.1).bind fun x3 =>
    (safety_atRest_f (x3.1, x3.2.1, x3.2.2.1, ())).bind fun x4 =>
    bif x4 then
     (loopF (fun (s7 : ((List Int) × Int)) =>
       (idx s2.1 s7.2).bind fun x8 =>
       bif decide (x8.2.2.2.1 >= 0) then
        (idx s2.1 s7.2).bind fun x9 =>
        (app s7.1 ([x9.2.2.1])).bind fun x10 =>
        (idx s2.1 s7.2).bind fun x11 =>
        some (.inl (x10, x11.2.2.2.1))
       else
        some (.inr s7.1)) ([], s2.2.1)).bind fun (p12 : (List Int)) =>
     (revO p12).bind fun x13 =>
     some (.inr (.inr (x13, true)))
    else
     (loopF (fun (s15 : ((List (Int × Int × Int × Int × Unit)) × Int × (List (Int × Int × Int × Unit)))) =>
       bif decide (s15.2.1 <= a0.2.2.2.1) then
        (idx s15.1 s2.2.1).bind fun x16 =>
        (safety_pushed_f a0 (x16.1, x16.2.1, x16.2.2.1, ()) s15.2.1).bind fun x17 =>
        (bif x17.2 then
          some (!(memK (.pair I (.pair I (.pair I .unit))) s15.2.2 x17.1))
         else
          some false).bind fun (p18 : Bool) =>
        (bif p18 then
          (app s15.1 ([(x17.1.1, x17.1.2.1, x17.1.2.2.1, s2.2.1, ())])).bind fun x19 =>
          some (x19, insK (.pair I (.pair I (.pair I .unit))) s15.2.2 x17.1)
         else
          some (s15.1, s15.2.2)).bind fun (p20 : ((List (Int × Int × Int × Int × Unit)) × (List (Int × Int × Int × Unit)))) =>
        some (.inl (p20.1, w64 (s15.2.1 + 1), p20.2))
       else
        some (.inr (s15.1, s15.2.2))) (s2.1, w64 (0 - a0.2.2.2.1), s2.2.2)).bind fun (p21 : ((List (Int × Int × Int × Int × Unit)) × (List (Int × Int × Int × Unit)))) =>
     some (.inl (p21.1, w64 (s2.2.1 + 1), p21.2))
   else
    some (.inr (.inl ()))) ([(a1.1, a1.2.1, a1.2.2.1, (-1), ())], 0, insK (.pair I (.pair I (.pair I .unit))) [] a1)).bind (Sum.elim (fun (p22 : Unit) =>
 some ([], false)) some)
theorem safety_stop_le (a0 : (Int × Int × Int × Int × Int × Unit)) (a1 : (Int × Int × Int × Unit)) : Le (safety_stop_f a0 a1) (safety_stop a0 a1) := by
 unfold safety_stop_f safety_stop;repeat' first | exact Le.refl _ | exact safety_atRest_le _ | exact safety_pushed_le _ _ _ | refine Le.loopF fun _ => ?_ | refine Le.elim (fun _ => ?_) _ | refine Le.bind ?_ fun _ => ?_ | refine Le.cond ?_ ?_ | refine Le.map ?_
def safety_StopFrom_f (a0 : (Int × Int × Int × Int × Int × Unit)) (a1 : (Int × Int × Int × Unit)) : Option ((List Int) × Int) :=
 (safety_openMotion_f a0 a1).bind fun x1 =>
 bif !(decide (x1 = 0)) then
  some ([], x1)
 else
  (safety_stop_f a0 a1).bind fun x2 =>
  (safety_unless_f x2.2 (12 : Int)).bind fun x3 =>
  some (x2.1, x3)
theorem safety_StopFrom_le (a0 : (Int × Int × Int × Int × Int × Unit)) (a1 : (Int × Int × Int × Unit)) : Le (safety_StopFrom_f a0 a1) (safety_StopFrom a0 a1) := by
 unfold safety_StopFrom_f safety_StopFrom;repeat' first | exact Le.refl _ | exact safety_unless_le _ _ | exact safety_openMotion_le _ _ | exact safety_stop_le _ _ | refine Le.loopF fun _ => ?_ | refine Le.elim (fun _ => ?_) _ | refine Le.bind ?_ fun _ => ?_ | refine Le.cond ?_ ?_ | refine Le.map ?_
end Go.Proofs.YtkcaaaiihhhnmaaGreat.St0
namespace Go.Proofs.YtkcaaaiihhhnmaaGreat.St0
open Go Go.Ab Go.Tx
theorem stop_ex : safety_StopFrom (-10, 10, 4, 2, 1, ()) (0, 3, 0, ()) = some ([-1, -1, -1, 0], 0) := safety_StopFrom_le _ _ _ (by kernel_rfl)
end Go.Proofs.YtkcaaaiihhhnmaaGreat.St0
end
section
namespace Go.Proofs.YtkcaaaiihhhnmaaGreat
open Go Go.Ab
theorem follows : Tryz.prog.follows .mixedOrders = true := by kernel_rfl
theorem namesOk : (Tryz.prog.funcs.toList.all fun fn => !fn.body.isSome || !(fn.name == "runtime.NumGoroutine")) = true := by kernel_rfl
theorem hname : NameOk Tryz.prog Hn.hints := ⟨fun g fn h hb => by
 have := List.all_eq_true.1 namesOk fn (by rw [Array.mem_toList_iff]; exact Array.mem_of_getElem? h);rw [hb] at this;simpa using this, turns⟩
def vi (n : Int) : V := .val (.int .i64 n)
def r0 : Ran := ⟨64, [.agg [.sl .shared false [.val (.string ⟨#[107, 101, 121]⟩), .val (.string ⟨#[100, 111, 111, 114]⟩), .val (.string ⟨#[114, 117, 110]⟩)], .sl .shared false [.agg [.val (.string ⟨#[111, 112, 101, 110]⟩), .sl .shared false [], .sl .shared false [vi (2)], .sl .shared false [vi (1)], .sl .shared false []], .agg [.val (.string ⟨#[115, 104, 117, 116]⟩), .sl .shared false [], .sl .shared false [], .sl .shared false [], .sl .shared false [vi (1)]], .agg [.val (.string ⟨#[116, 117, 114, 110]⟩), .sl .shared false [], .sl .shared false [], .sl .shared false [vi (0)], .sl .shared false []], .agg [.val (.string ⟨#[115, 116, 97, 114, 116]⟩), .sl .shared false [vi (0)], .sl .shared false [vi (1)], .sl .shared false [vi (2)], .sl .shared false []], .agg [.val (.string ⟨#[104, 97, 108, 116]⟩), .sl .shared false [], .sl .shared false [], .sl .shared false [], .sl .shared false [vi (2)]]], .sl .shared false [.agg [.sl .shared false [vi (1), vi (2)], .sl .shared false []]]], vi (0)], .tuple [.sl .own false [vi (0), vi (1), vi (2), vi (3), vi (5)], vi (0)]⟩
theorem r0_ok : CallOk Tryz.prog r0.g r0.args [] r0.r [] := ran_ok (t := []) (H := Hn.hints) follows hname (by simp) 200 r0 (by kernel_rfl)
def r1 : Ran := ⟨66, [.agg [.sl .shared false [.val (.string ⟨#[107, 101, 121]⟩), .val (.string ⟨#[100, 111, 111, 114]⟩), .val (.string ⟨#[114, 117, 110]⟩)], .sl .shared false [.agg [.val (.string ⟨#[111, 112, 101, 110]⟩), .sl .shared false [], .sl .shared false [], .sl .shared false [vi (1)], .sl .shared false []], .agg [.val (.string ⟨#[115, 104, 117, 116]⟩), .sl .shared false [], .sl .shared false [], .sl .shared false [], .sl .shared false [vi (1)]], .agg [.val (.string ⟨#[116, 117, 114, 110]⟩), .sl .shared false [], .sl .shared false [], .sl .shared false [vi (0)], .sl .shared false []], .agg [.val (.string ⟨#[115, 116, 97, 114, 116]⟩), .sl .shared false [vi (0)], .sl .shared false [vi (1)], .sl .shared false [vi (2)], .sl .shared false []], .agg [.val (.string ⟨#[104, 97, 108, 116]⟩), .sl .shared false [], .sl .shared false [], .sl .shared false [], .sl .shared false [vi (2)]]], .sl .shared false [.agg [.sl .shared false [vi (1), vi (2)], .sl .shared false []]]], vi (0)], .tuple [.sl .own false [vi (2), vi (3), vi (0)], vi (0)]⟩
theorem r1_ok : CallOk Tryz.prog r1.g r1.args [] r1.r [] := ran_ok (t := []) (H := Hn.hints) follows hname (by simp) 200 r1 (by kernel_rfl)
def r2 (c : Bool) : Ran := ⟨38, [.agg [vi (-10), vi (10), vi (4), vi (2), vi (1)], .agg [vi (0), vi (3), vi (0)]], .tuple [.sl .own c [vi (-1), vi (-1), vi (-1), vi (0)], vi (0)]⟩
theorem r2_ok : ∃ c, CallOk Tryz.prog (r2 c).g (r2 c).args [] (r2 c).r [] := by
 obtain ⟨v, h1, h2⟩ := Tx.entry_call follows hname (lib := St0.Lb) (fun g h args r hl _ => by cases hl) St0.o_safety_StopFrom (x := ((-10, 10, 4, 2, 1, ()), (0, 3, 0, ()))) St0.stop_ex (vs := (r2 false).args) (by
  simp [r2, vi, St0.e_safety_StopFrom, Tx.ofPms, Tx.ofTy, Tx.ofTyC, Tx.RVL, Tx.RV, Tx.RTy, Tx.ofPm])
 simp only [St0.e_safety_StopFrom, Tx.packT, Tx.ofL, Tx.packedT, Tx.ofTy, Tx.RV, Tx.RVL, Tx.RTy] at h2;obtain ⟨l', rfl, v1, m1, rfl, ⟨f, c, l2, rfl, hf, hall⟩, v2, m2, rfl, rfl, rfl⟩ := h2;have hf1 : f = .own := hf.own rfl;subst hf1;have hl : l2 = [vi (-1), vi (-1), vi (-1), vi 0] := by
  cases hall with | cons a1 hall => cases hall with | cons a2 hall => cases hall with | cons a3 hall => cases hall with | cons a4 hall => cases hall with | nil =>
   rw [a1, a2, a3, a4]; rfl
 subst hl;exact ⟨c, h1⟩
def r3 : Ran := ⟨26, [.sl .shared false [.agg [.val (.string ⟨#[108, 111, 119]⟩), .sl .shared false [.val (.string ⟨#[99, 104, 105, 101, 102]⟩)], vi (1)], .agg [.val (.string ⟨#[104, 105, 103, 104]⟩), .sl .shared false [.val (.string ⟨#[99, 104, 105, 101, 102]⟩), .val (.string ⟨#[111, 119, 110, 101, 114]⟩)], vi (2)]], .sl .shared false [.agg [vi (0), .val (.string ⟨#[97, 110, 110]⟩), .val (.string ⟨#[99, 104, 105, 101, 102]⟩)], .agg [vi (1), .val (.string ⟨#[97, 110, 110]⟩), .val (.string ⟨#[99, 104, 105, 101, 102]⟩)]]], .tuple [vi (1), vi (0)]⟩
theorem r3_ok : CallOk Tryz.prog r3.g r3.args [] r3.r [] := ran_ok (t := []) (H := Hn.hints) follows hname (by simp) 200 r3 (by kernel_rfl)
def r4 : Ran := ⟨13, [.sl .shared false [.agg [vi (2), vi (4), vi (2), vi (4)]], .sl .shared false [.agg [vi (0), vi (0)], .agg [vi (2), vi (2)]]], .tuple [vi (0), vi (13)]⟩
theorem r4_ok : CallOk Tryz.prog r4.g r4.args [] r4.r [] := ran_ok (t := []) (H := Hn.hints) follows hname (by simp) 200 r4 (by kernel_rfl)
def rs (c : Bool) : List Ran := [r0, r1, r2 c, r3, r4]
theorem rs_ok {c : Bool} (h2 : CallOk Tryz.prog (r2 c).g (r2 c).args [] (r2 c).r []) : ∀ e ∈ rs c, CallOk Tryz.prog e.g e.args [] e.r [] := by
 intro e he;simp only [rs, List.mem_cons, List.mem_nil_iff, or_false] at he;rcases he with rfl | rfl | rfl | rfl | rfl
 ·exact r0_ok
 ·exact r1_ok
 ·exact h2
 ·exact r3_ok
 ·exact r4_ok
def aw : Ran := ⟨12, [], .val (.bool true)⟩
theorem awake_ok : CallOk Tryz.prog 12 [] [] (.val (.bool true)) [] := by
 obtain ⟨c, h2⟩ := r2_ok;cases c with
 | true => exact ran_ok (t := rs true) (H := Hn.hints) follows hname (rs_ok h2) 200 aw (by kernel_rfl)
 | false => exact ran_ok (t := rs false) (H := Hn.hints) follows hname (rs_ok h2) 200 aw (by kernel_rfl)
end Go.Proofs.YtkcaaaiihhhnmaaGreat
end
section
namespace Go.Tx
open Go Go.Ab Go.RowKit Go.ChangeShapes Go.WideShapes Go.Deep
section
variable {H : Type} {enc : TypeId × Value -> H} {P : Program}
theorem post_of_below {f : Func} {s : ChangeSpec} {apart fresh handsOn again : Bool} {W W' : World} {args : Array Value} {v : Value} {ds gs : List (DataW H)} {before pa pv : List MemPlace}
  (hW : DataW.Whole enc P f.params.toList s.vars apart W args.toList ds gs before)
  (hres : ∀ (b : Nat) (sp : Nat -> Bool) (hd : Bool), DataW.TrodAll enc P W' b sp hd f.resultTypes.toList (v.resultList f.resultTypes.size) (s.fn H (ds ++ gs)).results [])
  (hargs : ∀ sp : Nat -> Bool, (∀ p ∈ before, sp p.block = true) -> DataW.TrodAll enc P W' 0 sp true f.params.toList args.toList (s.fn H (ds ++ gs)).args pa)
  (hvars : ∀ sp : Nat -> Bool, (∀ p ∈ before, sp p.block = true) -> DataW.TrodVars enc P W' sp s.vars (s.fn H (ds ++ gs)).vars pv)
  (hps : before = pa ++ pv) (hb : Below W.heap.size W W')
  (hok : ∀ (j : Nat) (t : TypeId) (r : Value), f.resultTypes[j]? = some t -> (v.resultList f.resultTypes.size)[j]? = some r -> Value.okWide P W' .any 0 t r) :
  s.post enc P f apart fresh handsOn again W args v W' := by
 have hlt : ∀ p ∈ before, p.block < W.heap.size := fun p hp => hW.lt p hp;have hold : ∀ p ∈ before, (fun b => decide (b < W.heap.size)) p.block = true := fun p hp => by simpa using hlt p hp
 refine ⟨ds, gs, before, [], pa, pv, hW, hres _ _ _, hargs _ hold, hvars _ hold, World.keptBut_mono (fun p hp => ⟨hp, ?_⟩) (hb.frame (· ∈ before)), fun _ => ?_⟩
 ·rw [hps, List.mem_append] at hp;exact Or.inr hp
 ·obtain ⟨_, _, _, _, _, hz, hn⟩ := hW;refine ⟨hok, _, _, ([] ++ pa) ++ pv, ⟨[] ++ pa, pv, trodAll_append (hargs _ (fun _ _ => rfl)) (hres _ _ _), hvars _ (fun _ _ => rfl), rfl, ?_, ?_⟩, ?_⟩
  ·intro b off hp;have hin : MemPlace.cell b off ∈ before := by rw [hps]; simpa using hp
   rw [hb.frozen (hlt _ hin)];exact hz b off hin
  ·intro ha;have := hn ha;rw [hps] at this;simpa using this
  ·intro p hp _;rw [hps];simpa using hp
theorem trodAll_len : ∀ {ts : List TypeId} {vs : List Value} {ds : List (DataW H)} {ps : List MemPlace} {w : World} {b : Nat} {sp : Nat -> Bool} {hd : Bool}, DataW.TrodAll enc P w b sp hd ts vs ds ps -> ds.length = ts.length
 | [], [], [], _, _, _, _, _, _ => rfl
 | [], [], d :: ds, _, _, _, _, _, h => h.elim
 | [], v :: vs, _, _, _, _, _, _, h => by cases h
 | t :: ts, [], _, _, _, _, _, _, h => by cases h
 | t :: ts, v :: vs, [], _, _, _, _, _, h => by cases h
 | t :: ts, v :: vs, d :: ds, ps, w, b, sp, hd, ⟨p, q, h1, h2, e⟩ => by simp [trodAll_len h2]
end
theorem sm_all {H : Type} : Sm (H := H) maxLen (fun _ => True) where
 slice := fun es sp _ h => ⟨h, fun _ _ => trivial⟩
 agg := fun _ _ _ _ => trivial
 str := fun _ _ h => h
theorem law_contract {P : Program} {H0 : Hints} {lib : FuncId -> Option (List V -> Option V)} (hm : P.follows .mixedOrders = true) (hname : NameOk P H0)
  (hlib : ∀ g h args r, lib g = some h -> h args = some r -> CallOk P g args [] r []) (hl : laidOutB P = true) {k : FuncId} {fn : Func} (hfn : P.funcs[k]? = some fn) (hbody : fn.body.isSome = true)
  {ts : List TypeId} {τs : List Ty} (hps : fn.params.toList = ts) (hts : ts.mapM (tyOf P) = some τs) (hok : ts.all (okT P 10) = true) (hrd : ts.all (fun t => P.readableRec t && decide (t < P.types.size)) = true)
  {tb : TypeId} (hres : fn.resultTypes = #[tb]) (htb : P.underlying tb = some .bool) {F : denP (τs.map .ty) -> Option Bool}
  (he : EntryOk P H0 lib ⟨k, τs.map .ty, [(.bool, 0)], F⟩) (hF : ∀ x, RngP maxLen τs x -> F x = some true)
  {s : ChangeSpec} (hv : s.vars = []) (hs : ∀ (H : Type) (ds : List (DataW H)), ds.length = ts.length -> s.fn H ds = { results := [.lit (.bool true)], args := ds })
  (H : Type) (enc : TypeId × Value -> H) (W : World) (base : Nat) (args : Array Value) (ds gs : List (DataW H)) (before : List MemPlace)
  (hval : ∀ (j : Nat) t v, fn.params[j]? = some t -> args[j]? = some v -> Value.okWide P W .any base t v)
  (hW : DataW.Whole enc P fn.params.toList s.vars false W args.toList ds gs before) :
  Calls P k args W fun e W' => ∃ v, e = .returned v /\ s.post enc P fn false true false false W args v W' := by
 have hW' := hW;have hlt : ∀ p ∈ before, p.block < W.heap.size := fun p hp => hW.lt p hp;obtain ⟨p, q, hA, hV, rfl, hfz, hnd⟩ := hW;rw [hv] at hV;obtain ⟨rfl, rfl⟩ := trodVars_none hV;rw [hps] at hA;have hlen := trodAll_len hA;have hval' : ∀ (j : Nat) t v, ts[j]? = some t -> args.toList[j]? = some v -> Value.okWide P W .any base t v := fun j t v h1 h2 =>
  hval j t v (by rw [<- hps] at h1; simpa using h1) (by simpa using h2)
 refine (law_calls hm hname hlib hl sm_all hfn hbody hts hok he hF hval' hA (fun _ _ => trivial)).mono fun e W' ⟨h1, hb⟩ => ?_;subst h1;have hfs : s.fn H (ds ++ []) = { results := [.lit (.bool true)], args := ds } := by rw [List.append_nil]; exact hs H ds hlen
 refine ⟨_, rfl, post_of_below (pa := p) (pv := []) hW' ?_ ?_ ?_ rfl hb ?_⟩
 ·intro b sp hd;rw [hfs, hres];exact trodAll_mk1 (shut_bool htb true)
 ·intro sp hsp;rw [hfs, hps];exact trodAll_below hl hb hrd hA (fun x hx => hlt x (by simpa using hx)) sp (fun x hx => hsp x (by simpa using hx))
 ·intro sp _;rw [hfs, hv];rfl
 ·exact ok_one hres rfl (okWide_bool_mk htb true)
end Go.Tx
namespace Go.Proofs.YtkcaaaiihhhnmaaGreat
open Go Go.Ab Go.Tx
theorem own : ownKnob Tryz.prog.godebug = none := by kernel_rfl
theorem laid_out : laidOutB Tryz.prog = true := by kernel_rfl
end Go.Proofs.YtkcaaaiihhhnmaaGreat
end
section
namespace Go.Tx
open Go
theorem wrap_id {n : Int} (h1 : -9223372036854775808 <= n) (h2 : n <= 9223372036854775807) : IntKind.wrap .i64 n = n := by
 rw [IntKind.wrap_i64]; omega
theorem idx_of {α : Type} {l : List α} {i : Nat} {a : α} (h : l[i]? = some a) : idx l (i : Int) = some a := by simp [idx, h]
theorem app_of {α : Type} {l l2 : List α} (h : l.length + l2.length <= 4294967296) : app l l2 = some (l ++ l2) := by simp [app, h]
section
variable {σ ρ : Type} {f : σ -> Option (σ ⊕ ρ)}
theorem loopN_mono : ∀ {n m : Nat} {s : σ} {r : ρ}, loopN f n s = some r -> n <= m -> loopN f m s = some r
 | 0, m, s, r, h, _ => by simp [loopN] at h
 | n + 1, 0, s, r, h, hm => by omega
 | n + 1, m + 1, s, r, h, hm => by
  simp only [loopN] at h ⊢;cases hf : f s with
  | none => rw [hf] at h; cases h
  | some x =>
   rw [hf] at h;cases x with
   | inl s' => exact loopN_mono h (by omega)
   | inr r' => exact h
theorem loopO_of {n : Nat} {s : σ} {r : ρ} (h : loopN f n s = some r) : loopO f s = some r := by
 have hex : ∃ n r, loopN f n s = some r := ⟨n, r, h⟩
 cases hl : loopO f s with
 | none => exfalso; unfold loopO at hl; rw [dif_pos hex] at hl; cases hl
 | some r' =>
  obtain ⟨m, hm⟩ := loopO_some hl;have h1 := loopN_mono h (Nat.le_max_left n m);have h2 := loopN_mono hm (Nat.le_max_right n m);rw [<- h1, <- h2]
theorem loopO_inl {s s' : σ} (h : f s = some (.inl s')) : loopO f s = loopO f s' := by
 cases hl : loopO f s' with
 | some r =>
  obtain ⟨n, hn⟩ := loopO_some hl;exact loopO_of (n := n + 1) (by simp [loopN, h, hn])
 | none =>
  cases hl2 : loopO f s with
  | none => rfl
  | some r =>
   obtain ⟨n, hn⟩ := loopO_some hl2;cases n with
   | zero => simp [loopN] at hn
   | succ n =>
    simp only [loopN, h] at hn;rw [loopO_of hn] at hl;cases hl
theorem loopO_inr {s : σ} {r : ρ} (h : f s = some (.inr r)) : loopO f s = some r := loopO_of (n := 1) (by simp [loopN, h])
theorem loop_inv (n : Nat) (I : Nat -> σ -> Prop) (Q : ρ -> Prop)
  (hs : ∀ i s, i <= n -> I i s -> (∃ s', f s = some (.inl s') /\ i < n /\ I (i + 1) s') \/ (∃ r, f s = some (.inr r) /\ Q r)) {s : σ} (h0 : I 0 s) : ∃ r, loopO f s = some r /\ Q r := by
 have h : ∀ k i s, n - i = k -> i <= n -> I i s -> ∃ r, loopO f s = some r /\ Q r := by
  intro k;induction k with
  | zero =>
   intro i s hk hi hI;rcases hs i s hi hI with ⟨s', _, h, _⟩ | ⟨r, h, hq⟩
   ·omega
   ·exact ⟨r, loopO_inr h, hq⟩
  | succ k ih =>
   intro i s hk hi hI;rcases hs i s hi hI with ⟨s', h, hlt, hI'⟩ | ⟨r, h, hq⟩
   ·obtain ⟨r, hr, hq⟩ := ih (i + 1) s' (by omega) (by omega) hI';exact ⟨r, by rw [loopO_inl h, hr], hq⟩
   ·exact ⟨r, loopO_inr h, hq⟩
 exact h n 0 s (by omega) (by omega) h0
end
def findI {α ρ : Type} (g : Nat -> α -> Option ρ) : Nat -> List α -> Option ρ
 | _, [] => none
 | k, a :: l => match g k a with
  | some r => some r
  | none => findI g (k + 1) l
def toSum {ρ : Type} : Option ρ -> Unit ⊕ ρ
 | some r => .inr r
 | none => .inl ()
def stp {ρ : Type} (i : Nat) : Option ρ -> Int ⊕ (Unit ⊕ ρ)
 | some r => .inr (.inr r)
 | none => .inl ((i : Int) + 1)
theorem loop_list {α ρ : Type} (l : List α) {f : Int -> Option (Int ⊕ (Unit ⊕ ρ))} (g : Nat -> α -> Option ρ)
  (h : ∀ (i : Nat) (a : α), l[i]? = some a -> f i = some (stp i (g i a)))
  (he : f l.length = some (.inr (.inl ()))) : loopO f 0 = some (toSum (findI g 0 l)) := by
 have key : ∀ (l2 l1 : List α), l1 ++ l2 = l -> loopO f (l1.length : Nat) = some (toSum (findI g l1.length l2)) := by
  intro l2;induction l2 with
  | nil =>
   intro l1 e;have : l1 = l := by simpa using e
   subst this;rw [loopO_inr he]; rfl
  | cons a l2 ih =>
   intro l1 e;have hi : l[l1.length]? = some a := by rw [<- e]; simp
   have hf := h _ _ hi;simp only [findI];cases hg : g l1.length a with
   | some r => rw [hg] at hf; rw [loopO_inr hf]; rfl
   | none =>
    rw [hg] at hf;rw [loopO_inl hf];have := ih (l1 ++ [a]) (by simp [e]);simpa using this
 simpa using key l [] rfl
end Go.Tx
end
section
namespace Go.Tx
open Go
def Ok {α : Type} (o : Option α) (Q : α -> Prop) : Prop := ∃ a, o = some a /\ Q a
section
variable {α β σ ρ τ : Type}
theorem ok_some {a : α} {Q : α -> Prop} : Ok (some a) Q ↔ Q a := ⟨fun ⟨_, h, hq⟩ => by cases h; exact hq, fun h => ⟨a, rfl, h⟩⟩
theorem ok_eq {o : Option α} {a : α} : Ok o (fun r => r = a) ↔ o = some a := ⟨fun ⟨_, h, hq⟩ => by rw [h, hq], fun h => ⟨a, h, rfl⟩⟩
theorem Ok.eq {o : Option α} {a : α} (h : Ok o (fun r => r = a)) : o = some a := ok_eq.1 h
theorem Ok.mono {o : Option α} {P Q : α -> Prop} (h : Ok o P) (hq : ∀ a, P a -> Q a) : Ok o Q := by obtain ⟨a, h1, h2⟩ := h; exact ⟨a, h1, hq a h2⟩
theorem Ok.bind {o : Option α} {k : α -> Option β} {P : α -> Prop} {Q : β -> Prop} (h : Ok o P) (hk : ∀ a, P a -> Ok (k a) Q) : Ok (o.bind k) Q := by
 obtain ⟨a, h1, h2⟩ := h; rw [h1]; exact hk a h2
theorem app_in {l l2 : List α} (h : l.length + l2.length <= 4294967296) : app l l2 = some (l ++ l2) := app_of h
theorem app_one {l : List α} {a : α} (h : l.length <= 4294967295) : app l [a] = some (l ++ [a]) := app_of (by simp; omega)
theorem app_nil {l2 : List α} (h : l2.length <= 4294967296) : app [] l2 = some l2 := by rw [app_of (by simpa using h)]; rfl
theorem slc_in {l : List α} {a b : Int} (h : 0 <= a /\ a <= b /\ b <= l.length) : slc l a b = some ((l.take b.toNat).drop a.toNat) := by unfold slc; rw [if_pos h]
def Rnd (o : Option (σ ⊕ ρ)) (I : σ -> Prop) (Q : ρ -> Prop) : Prop := Ok o fun x => match x with
 | .inl s => I s
 | .inr r => Q r
theorem rnd_inl {s : σ} {I : σ -> Prop} {Q : ρ -> Prop} : Rnd (some (.inl s)) I Q ↔ I s := ok_some
theorem rnd_inr {r : ρ} {I : σ -> Prop} {Q : ρ -> Prop} : Rnd (some (.inr r) : Option (σ ⊕ ρ)) I Q ↔ Q r := ok_some
theorem loop_up {f : σ -> Option (σ ⊕ ρ)} (n : Nat) (I : Nat -> σ -> Prop) (Q : ρ -> Prop) {s : σ} (h0 : I 0 s)
  (hs : ∀ i s, i <= n -> I i s -> Rnd (f s) (fun s' => i < n /\ I (i + 1) s') Q) : Ok (loopO f s) Q := by
 obtain ⟨r, h1, h2⟩ := loop_inv n I Q (fun i s hi hI => by
  obtain ⟨x, hx, h⟩ := hs i s hi hI;cases x with
  | inl s' => exact .inl ⟨s', hx, h⟩
  | inr r => exact .inr ⟨r, hx, h⟩) h0
 exact ⟨r, h1, h2⟩
end
theorem getD_at {α : Type} {l : List α} {i : Nat} {a d : α} (h : l[i]? = some a) : l.getD i d = a := by simp [h]
theorem take_next {α : Type} {l : List α} {i : Nat} (d : α) (h : i < l.length) : l.take (i + 1) = l.take i ++ [l.getD i d] := by
 rw [List.take_add_one]; simp [h]
end Go.Tx
end
section
namespace Go.Tx
open Go
section
variable {α β ρ τ : Type}
theorem len_lt {l : List α} {i : Nat} {a : α} (h : l[i]? = some a) : i < l.length := (List.getElem?_eq_some_iff.1 h).1
theorem for_find (l : List α) (K : Int -> Option (Int ⊕ (Unit ⊕ ρ))) (g : Nat -> α -> Option ρ) (h : ∀ (i : Nat) (a : α), l[i]? = some a -> K i = some (stp i (g i a))) :
  loopO (fun s => bif decide (s < (l.length : Int)) then K s else some (.inr (.inl ()))) 0 = some (toSum (findI g 0 l)) := by
 refine loop_list l g (fun i a hi => ?_) ?_
 ·have := len_lt hi;have e : decide ((i : Int) < (l.length : Int)) = true := by simp <;> omega
  simp only [e, cond_true];exact h i a hi
 ·simp
theorem elim_toSum {o : Option ρ} {k : Unit -> Option ρ} : (some (toSum o)).bind (Sum.elim k some) = (match o with
  | some r => some r
  | none => k ()) := by cases o <;> rfl
theorem findI_none {g : Nat -> α -> Option ρ} : ∀ {l : List α} {k : Nat}, findI g k l = none ↔ ∀ i a, l[i]? = some a -> g (k + i) a = none
 | [], k => by simp [findI]
 | a :: l, k => by
  simp only [findI];cases hg : g k a with
  | some r =>
   simp only [reduceCtorEq, false_iff];intro h;have := h 0 a rfl;simp [hg] at this
  | none =>
   simp only
   rw [findI_none (l := l) (k := k + 1)];constructor
   ·intro h i b hb;cases i with
    | zero => simp at hb; subst hb; simpa using hg
    | succ i => have := h i b (by simpa using hb); rw [<- this]; congr 1; omega
   ·intro h i b hb;have := h (i + 1) b (by simpa using hb);rw [<- this]; congr 1; omega
theorem findI_some {g : Nat -> α -> Option ρ} {r : ρ} : ∀ {l : List α} {k : Nat}, findI g k l = some r -> ∃ i a, l[i]? = some a /\ g (k + i) a = some r /\ ∀ j b, j < i -> l[j]? = some b -> g (k + j) b = none
 | [], k, h => by simp [findI] at h
 | a :: l, k, h => by
  simp only [findI] at h;cases hg : g k a with
  | some r' =>
   rw [hg] at h;simp only [Option.some.injEq] at h;subst h;exact ⟨0, a, rfl, by simpa using hg, fun j b hj => by omega⟩
  | none =>
   rw [hg] at h;obtain ⟨i, b, h1, h2, h3⟩ := findI_some (l := l) (k := k + 1) h;refine ⟨i + 1, b, by simpa using h1, by rw [<- h2]; congr 1; omega, fun j c hj hc => ?_⟩;cases j with
   | zero => simp at hc; subst hc; simpa using hg
   | succ j => have := h3 j c (by omega) (by simpa using hc); rw [<- this]; congr 1; omega
theorem for_idx (l : List α) (p : α -> Bool) (hl : l.length <= 1000000000) :
  Ok ((loopO (fun (s2 : Int) =>
   bif decide (s2 < (l.length : Int)) then
    (idx l s2).bind fun x3 =>
    bif p x3 then
     some (.inr (.inr s2))
    else
     some (.inl (IntKind.wrap .i64 (s2 + 1)))
   else
    some (.inr (.inl ()))) 0).bind (Sum.elim (fun (p5 : Unit) =>
  some (-1)) some)) fun r => decide (r >= 0) = l.any p := by
 rw [for_find l _ (fun i a => if p a then some (i : Int) else none) (fun i a hi => by
  have := len_lt hi;rw [idx_of hi];simp only [Option.bind_some];cases hp : p a
  ·simp only [cond_false, Bool.false_eq_true, if_false, stp]; rw [wrap_id (by omega) (by omega)]
  ·simp [stp]), elim_toSum]
 cases hf : findI (fun i a => if p a then some (i : Int) else none) 0 l with
 | none =>
  rw [findI_none] at hf;have : l.any p = false := by
   rw [List.any_eq_false];intro x hx;obtain ⟨i, hi⟩ := List.mem_iff_getElem?.1 hx;have := hf i x hi;simpa using this
  exact ⟨_, rfl, by rw [this]; rfl⟩
 | some r =>
  obtain ⟨i, a, h1, h2, _⟩ := findI_some hf;have hp : p a = true := by
   cases hp : p a
   ·simp [hp] at h2
   ·rfl
  have : l.any p = true := List.any_eq_true.2 ⟨a, List.mem_of_getElem? h1, hp⟩;simp only [hp, if_true, Option.some.injEq] at h2;exact ⟨_, rfl, by rw [this]; simp; omega⟩
def fst0 : List Int -> Int
 | [] => 0
 | e :: l => if e = 0 then fst0 l else e
theorem findI_fst0 : ∀ (l : List Int) (k : Nat), findI (fun _ e => if e = 0 then none else some e) k l = if fst0 l = 0 then none else some (fst0 l)
 | [], k => rfl
 | e :: l, k => by
  simp only [findI, fst0];by_cases h : e = 0
  ·simp only [h, if_true]; exact findI_fst0 l (k + 1)
  ·simp [h]
theorem for_first (l : List Int) (hl : l.length <= 1000000000) :
  (loopO (fun (s2 : Int) =>
   bif decide (s2 < (l.length : Int)) then
    (idx l s2).bind fun x3 =>
    bif !(decide (x3 = 0)) then
     some (.inr (.inr x3))
    else
     some (.inl (IntKind.wrap .i64 (s2 + 1)))
   else
    some (.inr (.inl ()))) 0).bind (Sum.elim (fun (p4 : Unit) => some 0) some) = some (fst0 l) := by
 rw [for_find l _ (fun _ e => if e = 0 then none else some e) (fun i a hi => by
  have := len_lt hi;rw [idx_of hi];simp only [Option.bind_some];by_cases h : a = 0
  ·simp only [h, decide_true, Bool.not_true, cond_false, if_true, stp]; rw [wrap_id (by omega) (by omega)]
  ·simp [h, stp]), elim_toSum, findI_fst0]
 by_cases h : fst0 l = 0
 ·simp [h]
 ·simp [h]
def eachE (g : Nat -> α -> Int) : Nat -> List α -> Int × Int
 | _, [] => (0, 0)
 | k, a :: l => if g k a = 0 then eachE g (k + 1) l else ((k : Int), g k a)
theorem findI_each (g : Nat -> α -> Int) : ∀ (l : List α) (k : Nat), (match findI (fun i a => if g i a = 0 then none else some ((i : Int), g i a)) k l with
  | some r => some r
  | none => some (0, 0)) = some (eachE g k l)
 | [], k => rfl
 | a :: l, k => by
  simp only [findI, eachE];by_cases h : g k a = 0
  ·simp only [h, if_true]; exact findI_each g l (k + 1)
  ·simp [h]
theorem for_each (l : List α) (cb : Int -> α -> Option Int) (g : Nat -> α -> Int) (h : ∀ (i : Nat) a, l[i]? = some a -> cb i a = some (g i a)) (hl : l.length <= 1000000000) :
  (loopO (fun (s2 : Int) =>
   bif decide (s2 < (l.length : Int)) then
    (idx l s2).bind fun x3 =>
    (cb s2 x3).bind fun x4 =>
    bif !(decide (x4 = 0)) then
     some (.inr (.inr (s2, x4)))
    else
     some (.inl (IntKind.wrap .i64 (s2 + 1)))
   else
    some (.inr (.inl ()))) 0).bind (Sum.elim (fun (p5 : Unit) =>
  some (0, 0)) some) = some (eachE g 0 l) := by
 rw [for_find l _ (fun i a => if g i a = 0 then none else some ((i : Int), g i a)) (fun i a hi => by
  have := len_lt hi;rw [idx_of hi];simp only [Option.bind_some];rw [h i a hi];simp only [Option.bind_some];by_cases h : g i a = 0
  ·simp only [h, decide_true, Bool.not_true, cond_false, if_true, stp]; rw [wrap_id (by omega) (by omega)]
  ·simp [h, stp]), elim_toSum, <- findI_each g l 0]
 cases findI (fun i a => if g i a = 0 then none else some ((i : Int), g i a)) 0 l <;> rfl
end
end Go.Tx
end
section
namespace Go.Tx
open Go
end Go.Tx
end
section
namespace Go.Tx
open Go
section
variable {α : Type}
theorem abs_mul_le {a b A B : Int} (h1 : -A <= a /\ a <= A) (h2 : -B <= b /\ b <= B) : -(A * B) <= a * b /\ a * b <= A * B := by
 have hA : 0 <= A := by omega
 have hB : 0 <= B := by omega
 have e : (a * b).natAbs = a.natAbs * b.natAbs := Int.natAbs_mul a b;have h3 : a.natAbs * b.natAbs <= A.natAbs * B.natAbs := Nat.mul_le_mul (by omega) (by omega);have h4 : ((A.natAbs * B.natAbs : Nat) : Int) = A * B := by
  rw [Int.natCast_mul]; congr 1 <;> omega
 omega
end
end Go.Tx
end
section
namespace Go.Tx
open Go
section
variable {α β : Type}
end
end Go.Tx
end
section
set_option maxRecDepth 100000
namespace Go.Proofs.YtkcaaaiihhhnmaaGreat
open Go Go.Ab Go.Tx
noncomputable section
@[reducible] def I : Ty := .int .i64
@[reducible] def w64 (n : Int) : Int := IntKind.wrap .i64 n
def lookJ : List (List Tmp × FuncId × Kind × Join) -> List Tmp -> FuncId -> Kind -> Option Join
 | [], _, _, _ => none
 | (c, f, k, j) :: l, c', f', k' => if f = f' then (if k = k' then (if c = c' then some j else lookJ l c' f' k') else lookJ l c' f' k') else lookJ l c' f' k'
def awakeId : Nat := 12
def mkTH (js : List (List Tmp × FuncId × Kind × Join)) (inl : List (List Tmp × FuncId × Tmp)) : TH where
 lib := fun g => decide (g = awakeId)
 join := lookJ js
 inl := fun c f d => inl.any fun (c', f', d') => decide (f = f') && decide (d = d') && decide (c = c')
def Lb : FuncId -> Option (List V -> Option V) := fun g => if g = awakeId then some (fun args => match args with
  | [] => some (.val (.bool true))
  | _ => none) else none
theorem hJ {js : List (List Tmp × FuncId × Kind × Join)} {inl : List (List Tmp × FuncId × Tmp)} : ∀ g, (mkTH js inl).lib g = false -> Lb g = none := fun g h => by
 simp only [mkTH, decide_eq_false_iff_not] at h;simp [Lb, h]
def KT (e : Entry) (j : TH) (l : List Entry) (n : Nat) : Prop := ∀ x : denP e.ps, fnT Tryz.prog Hn.hints j (tabT l) n e.g (ofPms e.ps x) e.rs = e.F x
abbrev OT (e : Entry) : Prop := EntryOk Tryz.prog Hn.hints Lb e
theorem entK {e : Entry} {j : TH} {l : List Entry} {n : Nat} (h : TOk Tryz.prog Hn.hints Lb (tabT l)) (hj : ∀ g, j.lib g = false -> Lb g = none) (k : KT e j l n) : OT e := entry_ok h hj n e.g e.ps e.rs e.F k
abbrev gT : Ty := .pair I (.pair I .unit)
def law09_awake : Option Bool := some true
def e_law09_awake : Entry := ⟨12, [], [(.bool, 0)], fun _ => law09_awake⟩
theorem o_law09_awake : EntryOk Tryz.prog Hn.hints Lb e_law09_awake := fun x y h vs hv => by
 obtain rfl : true = y := Option.some.inj h;simp only [e_law09_awake, ofPms, RVL] at hv;subst hv;refine ⟨.val (.bool true), ⟨1, fun m hm => ?_⟩, by simp [packT, e_law09_awake, ofL, packedT, ofTy, RV, RTy]⟩;obtain ⟨m', rfl⟩ : ∃ m', m = m' + 1 := ⟨m - 1, by omega⟩
 simp [orcN, Lb, awakeId, e_law09_awake]
def safety_within (a0 : Int) (a1 : Int) (a2 : Int) : Option Bool :=
 (bif decide (a1 <= a0) then
   some (decide (a0 <= a2))
  else
   some false).bind fun (p1 : Bool) =>
 some p1
def e_safety_within : Entry := ⟨84, [.ty I, .ty I, .ty I], [(.bool, 0)], fun x => safety_within x.1 x.2.1 x.2.2⟩
def j_safety_within : TH := mkTH [([], 84, .region 1, { lv := [⟨none, 6, 0⟩], ps := [(.bool, 0)], D := ⟨32704⟩ })] []
theorem k_safety_within : KT e_safety_within j_safety_within [] 40 := fun x => by kernel_rfl
theorem o_safety_within : OT e_safety_within := entK tab_nil hJ k_safety_within
def safety_isSized (a0 : Int) (a1 : Int) : Option Bool :=
 (safety_within a0 (w64 (0 - a1)) a1).bind fun x1 =>
 some x1
def e_safety_isSized : Entry := ⟨94, [.ty I, .ty I], [(.bool, 0)], fun x => safety_isSized x.1 x.2⟩
def j_safety_isSized : TH := mkTH [] []
theorem k_safety_isSized : KT e_safety_isSized j_safety_isSized [e_safety_within] 40 := fun x => by kernel_rfl
theorem o_safety_isSized : OT e_safety_isSized := entK (tab_cons o_safety_within tab_nil) hJ k_safety_isSized
def safety_unless (a0 : Bool) (a1 : Int) : Option Int :=
 bif a0 then
  some 0
 else
  some a1
def e_safety_unless : Entry := ⟨72, [.ty .bool, .ty I], [(I, 0)], fun x => safety_unless x.1 x.2⟩
def j_safety_unless : TH := mkTH [] []
theorem k_safety_unless : KT e_safety_unless j_safety_unless [] 40 := fun x => by kernel_rfl
theorem o_safety_unless : OT e_safety_unless := entK tab_nil hJ k_safety_unless
def safety_first (a0 : (List Int)) : Option Int :=
 (loopO (fun (s2 : Int) =>
   bif decide (s2 < (a0.length : Int)) then
    (idx a0 s2).bind fun x3 =>
    bif !(decide (x3 = 0)) then
     some (.inr (.inr x3))
    else
     some (.inl (w64 (s2 + 1)))
   else
    some (.inr (.inl ()))) 0).bind (Sum.elim (fun (p4 : Unit) =>
 some 0) some)
def e_safety_first : Entry := ⟨71, [.ty (.sl I)], [(I, 0)], fun x => safety_first x⟩
def j_safety_first : TH := mkTH [([], 71, .block 0, { lv := [], ps := [], abn := true, D := ⟨32656⟩ }),
 ([], 71, .loop 0, { lv := [⟨none, 7, 0⟩], ps := [(I, 0)], D := ⟨32656⟩ })] []
theorem k_safety_first : KT e_safety_first j_safety_first [] 40 := fun x => by kernel_rfl
theorem o_safety_first : OT e_safety_first := entK tab_nil hJ k_safety_first
def base_Within (a0 : Int) (a1 : Int) (a2 : Int) : Option Bool :=
 (bif decide (a1 <= a0) then
   some (decide (a0 <= a2))
  else
   some false).bind fun (p1 : Bool) =>
 some p1
def e_base_Within : Entry := ⟨18, [.ty I, .ty I, .ty I], [(.bool, 0)], fun x => base_Within x.1 x.2.1 x.2.2⟩
def j_base_Within : TH := mkTH [([], 18, .region 1, { lv := [⟨none, 6, 0⟩], ps := [(.bool, 0)], D := ⟨32704⟩ })] []
theorem k_base_Within : KT e_base_Within j_base_Within [] 40 := fun x => by kernel_rfl
theorem o_base_Within : OT e_base_Within := entK tab_nil hJ k_base_Within
def base_Mod (a0 : Int) (a1 : Int) : Option Int :=
 bif decide (a1 = 0) then
  none
 else
  (bif decide (a0.tmod a1 < 0) then
    some (w64 ((a0.tmod a1) + a1))
   else
    some (a0.tmod a1)).bind fun (p1 : Int) =>
  some p1
def e_base_Mod : Entry := ⟨19, [.ty I, .ty I], [(I, 0)], fun x => base_Mod x.1 x.2⟩
def j_base_Mod : TH := mkTH [([], 19, .cond 9, { lv := [⟨none, 0, 0⟩], ps := [(I, 0)], D := ⟨7169⟩ })] []
theorem k_base_Mod : KT e_base_Mod j_base_Mod [] 40 := fun x => by kernel_rfl
theorem o_base_Mod : OT e_base_Mod := entK tab_nil hJ k_base_Mod
def ref09_CopyZones (a0 : (List (Int × Int × Int × Int × Unit))) : Option (List (Int × Int × Int × Int × Unit)) :=
 (app [] a0).bind fun x1 =>
 some x1
def e_ref09_CopyZones : Entry := ⟨14, [.ty (.sl (.pair I (.pair I gT)))], [((.sl (.pair I (.pair I gT))), 1)], fun x => ref09_CopyZones x⟩
def j_ref09_CopyZones : TH := mkTH [] []
theorem k_ref09_CopyZones : KT e_ref09_CopyZones j_ref09_CopyZones [] 40 := fun x => by kernel_rfl
theorem o_ref09_CopyZones : OT e_ref09_CopyZones := entK tab_nil hJ k_ref09_CopyZones
def ref09_CopyPath (a0 : (List (Int × Int × Unit))) : Option (List (Int × Int × Unit)) :=
 (app [] a0).bind fun x1 =>
 some x1
def e_ref09_CopyPath : Entry := ⟨15, [.ty (.sl gT)], [((.sl gT), 1)], fun x => ref09_CopyPath x⟩
def j_ref09_CopyPath : TH := mkTH [] []
theorem k_ref09_CopyPath : KT e_ref09_CopyPath j_ref09_CopyPath [] 40 := fun x => by kernel_rfl
theorem o_ref09_CopyPath : OT e_ref09_CopyPath := entK tab_nil hJ k_ref09_CopyPath
def safety_isPlace_1 (a0 : Int) : Option Bool :=
 (safety_isSized a0 (1000 : Int)).bind fun x1 =>
 some (!x1)
def e_safety_isPlace_1 : Entry := ⟨132, [.ty I], [(.bool, 0)], fun x => safety_isPlace_1 x⟩
def j_safety_isPlace_1 : TH := mkTH [] []
theorem k_safety_isPlace_1 : KT e_safety_isPlace_1 j_safety_isPlace_1 [e_safety_isSized] 40 := fun x => by kernel_rfl
theorem o_safety_isPlace_1 : OT e_safety_isPlace_1 := entK (tab_cons o_safety_isSized tab_nil) hJ k_safety_isPlace_1
def slices_IndexFunc_Lint_int_of_safety_isPlace_1 (a0 : (List Int)) : Option Int :=
 (loopO (fun (s2 : Int) =>
   bif decide (s2 < (a0.length : Int)) then
    (idx a0 s2).bind fun x3 =>
    (safety_isPlace_1 x3).bind fun x4 =>
    bif x4 then
     some (.inr (.inr s2))
    else
     some (.inl (w64 (s2 + 1)))
   else
    some (.inr (.inl ()))) 0).bind (Sum.elim (fun (p5 : Unit) =>
 some (-1)) some)
def e_slices_IndexFunc_Lint_int_of_safety_isPlace_1 : Entry := ⟨154, [.ty (.sl I), .fn 132 []], [(I, 0)], fun x => slices_IndexFunc_Lint_int_of_safety_isPlace_1 x.1⟩
def j_slices_IndexFunc_Lint_int_of_safety_isPlace_1 : TH := mkTH [([], 154, .block 0, { lv := [], ps := [], abn := true, D := ⟨524064⟩ }),
 ([], 154, .loop 0, { lv := [⟨none, 8, 0⟩], ps := [(I, 0)], D := ⟨524064⟩ })] []
theorem k_slices_IndexFunc_Lint_int_of_safety_isPlace_1 : KT e_slices_IndexFunc_Lint_int_of_safety_isPlace_1 j_slices_IndexFunc_Lint_int_of_safety_isPlace_1 [e_safety_isPlace_1] 40 := fun x => by kernel_rfl
theorem o_slices_IndexFunc_Lint_int_of_safety_isPlace_1 : OT e_slices_IndexFunc_Lint_int_of_safety_isPlace_1 := entK (tab_cons o_safety_isPlace_1 tab_nil) hJ k_slices_IndexFunc_Lint_int_of_safety_isPlace_1
def slices_ContainsFunc_Lint_int_of_safety_isPlace_1 (a0 : (List Int)) : Option Bool :=
 (slices_IndexFunc_Lint_int_of_safety_isPlace_1 a0).bind fun x1 =>
 some (decide (x1 >= 0))
def e_slices_ContainsFunc_Lint_int_of_safety_isPlace_1 : Entry := ⟨131, [.ty (.sl I), .fn 132 []], [(.bool, 0)], fun x => slices_ContainsFunc_Lint_int_of_safety_isPlace_1 x.1⟩
def j_slices_ContainsFunc_Lint_int_of_safety_isPlace_1 : TH := mkTH [] []
theorem k_slices_ContainsFunc_Lint_int_of_safety_isPlace_1 : KT e_slices_ContainsFunc_Lint_int_of_safety_isPlace_1 j_slices_ContainsFunc_Lint_int_of_safety_isPlace_1 [e_slices_IndexFunc_Lint_int_of_safety_isPlace_1] 40 := fun x => by kernel_rfl
theorem o_slices_ContainsFunc_Lint_int_of_safety_isPlace_1 : OT e_slices_ContainsFunc_Lint_int_of_safety_isPlace_1 := entK (tab_cons o_slices_IndexFunc_Lint_int_of_safety_isPlace_1 tab_nil) hJ k_slices_ContainsFunc_Lint_int_of_safety_isPlace_1
def safety_isPlace (a0 : (List Int)) : Option Bool :=
 (slices_ContainsFunc_Lint_int_of_safety_isPlace_1 a0).bind fun x1 =>
 some (!x1)
def e_safety_isPlace : Entry := ⟨73, [.ty (.sl I)], [(.bool, 0)], fun x => safety_isPlace x⟩
def j_safety_isPlace : TH := mkTH [] []
theorem k_safety_isPlace : KT e_safety_isPlace j_safety_isPlace [e_slices_ContainsFunc_Lint_int_of_safety_isPlace_1] 40 := fun x => by kernel_rfl
theorem o_safety_isPlace : OT e_safety_isPlace := entK (tab_cons o_slices_ContainsFunc_Lint_int_of_safety_isPlace_1 tab_nil) hJ k_safety_isPlace
def safety_ClearOf_1 (a0 : Int) (a1 : (Int × Int × Int × Int × Unit)) : Option Int :=
 ((safety_isPlace ([a1.1, a1.2.1, a1.2.2.1, a1.2.2.2.1])).bind fun x1 =>
  (safety_unless x1 (2 : Int)).bind fun x2 =>
  bif decide (a1.1 <= a1.2.1) then
   (safety_unless (decide (a1.2.2.1 <= a1.2.2.2.1)) (9 : Int)).bind fun x3 =>
   (safety_first ([x2, x3])).bind fun x4 =>
   some x4
  else
   (safety_unless false (9 : Int)).bind fun x5 =>
   (safety_first ([x2, x5])).bind fun x6 =>
   some x6).bind fun (p7 : Int) =>
 some p7
def e_safety_ClearOf_1 : Entry := ⟨70, [.ty I, .ty (.pair I (.pair I gT))], [(I, 0)], fun x => safety_ClearOf_1 x.1 x.2⟩
def j_safety_ClearOf_1 : TH := mkTH [([], 70, .region 1, { lv := [⟨none, 4, 0⟩], ps := [(I, 0)], D := ⟨549755813872⟩, rs := [⟨0, 3⟩], Dn := ⟨542479688848⟩ })] []
theorem k_safety_ClearOf_1 : KT e_safety_ClearOf_1 j_safety_ClearOf_1 [e_safety_first, e_safety_isPlace, e_safety_unless] 40 := fun x => by kernel_rfl
theorem o_safety_ClearOf_1 : OT e_safety_ClearOf_1 := entK (tab_cons o_safety_first (tab_cons o_safety_isPlace (tab_cons o_safety_unless tab_nil))) hJ k_safety_ClearOf_1
def safety_each_api_SafetyZone_of_safety_ClearOf_1 (a0 : (List (Int × Int × Int × Int × Unit))) : Option (Int × Int) :=
 (loopO (fun (s2 : Int) =>
   bif decide (s2 < (a0.length : Int)) then
    (idx a0 s2).bind fun x3 =>
    (safety_ClearOf_1 s2 x3).bind fun x4 =>
    bif !(decide (x4 = 0)) then
     some (.inr (.inr (s2, x4)))
    else
     some (.inl (w64 (s2 + 1)))
   else
    some (.inr (.inl ()))) 0).bind (Sum.elim (fun (p5 : Unit) =>
 some (0, 0)) some)
def e_safety_each_api_SafetyZone_of_safety_ClearOf_1 : Entry := ⟨69, [.ty (.sl (.pair I (.pair I gT))), .fn 70 []], [(I, 0), (I, 0)], fun x => safety_each_api_SafetyZone_of_safety_ClearOf_1 x.1⟩
def j_safety_each_api_SafetyZone_of_safety_ClearOf_1 : TH := mkTH [([], 69, .block 0, { lv := [], ps := [], abn := true, D := ⟨33552832⟩, wr := [⟨0, 7⟩] }),
 ([], 69, .loop 0, { lv := [⟨none, 11, 0⟩], ps := [(I, 0)], D := ⟨33552832⟩, wr := [⟨0, 7⟩], rs := [⟨0, 7⟩], Dn := ⟨33552704⟩ })] []
theorem k_safety_each_api_SafetyZone_of_safety_ClearOf_1 : KT e_safety_each_api_SafetyZone_of_safety_ClearOf_1 j_safety_each_api_SafetyZone_of_safety_ClearOf_1 [e_safety_ClearOf_1] 40 := fun x => by kernel_rfl
theorem o_safety_each_api_SafetyZone_of_safety_ClearOf_1 : OT e_safety_each_api_SafetyZone_of_safety_ClearOf_1 := entK (tab_cons o_safety_ClearOf_1 tab_nil) hJ k_safety_each_api_SafetyZone_of_safety_ClearOf_1
def safety_ClearOf_2 (a0 : Int) (a1 : (Int × Int × Unit)) : Option Int :=
 (safety_isPlace ([a1.1, a1.2.1])).bind fun x1 =>
 (safety_unless x1 (2 : Int)).bind fun x2 =>
 some x2
def e_safety_ClearOf_2 : Entry := ⟨75, [.ty I, .ty gT], [(I, 0)], fun x => safety_ClearOf_2 x.1 x.2⟩
def j_safety_ClearOf_2 : TH := mkTH [] []
theorem k_safety_ClearOf_2 : KT e_safety_ClearOf_2 j_safety_ClearOf_2 [e_safety_isPlace, e_safety_unless] 40 := fun x => by kernel_rfl
theorem o_safety_ClearOf_2 : OT e_safety_ClearOf_2 := entK (tab_cons o_safety_isPlace (tab_cons o_safety_unless tab_nil)) hJ k_safety_ClearOf_2
def safety_each_2_int_of_safety_ClearOf_2 (a0 : (List (Int × Int × Unit))) : Option (Int × Int) :=
 (loopO (fun (s2 : Int) =>
   bif decide (s2 < (a0.length : Int)) then
    (idx a0 s2).bind fun x3 =>
    (safety_ClearOf_2 s2 x3).bind fun x4 =>
    bif !(decide (x4 = 0)) then
     some (.inr (.inr (s2, x4)))
    else
     some (.inl (w64 (s2 + 1)))
   else
    some (.inr (.inl ()))) 0).bind (Sum.elim (fun (p5 : Unit) =>
 some (0, 0)) some)
def e_safety_each_2_int_of_safety_ClearOf_2 : Entry := ⟨74, [.ty (.sl gT), .fn 75 []], [(I, 0), (I, 0)], fun x => safety_each_2_int_of_safety_ClearOf_2 x.1⟩
def j_safety_each_2_int_of_safety_ClearOf_2 : TH := mkTH [([], 74, .block 0, { lv := [], ps := [], abn := true, D := ⟨33552832⟩, wr := [⟨0, 7⟩] }),
 ([], 74, .loop 0, { lv := [⟨none, 11, 0⟩], ps := [(I, 0)], D := ⟨33552832⟩, wr := [⟨0, 7⟩], rs := [⟨0, 7⟩], Dn := ⟨33552704⟩ })] []
theorem k_safety_each_2_int_of_safety_ClearOf_2 : KT e_safety_each_2_int_of_safety_ClearOf_2 j_safety_each_2_int_of_safety_ClearOf_2 [e_safety_ClearOf_2] 40 := fun x => by kernel_rfl
theorem o_safety_each_2_int_of_safety_ClearOf_2 : OT e_safety_each_2_int_of_safety_ClearOf_2 := entK (tab_cons o_safety_ClearOf_2 tab_nil) hJ k_safety_each_2_int_of_safety_ClearOf_2
def safety_touches_1 (a0 : (Int × Int × Unit)) (a1 : Int) (a2 : Int) : Option Bool :=
 (bif decide (max a1 a2 < a0.1) then
   some true
  else
   some (decide (a0.2.1 < min a1 a2))).bind fun (p1 : Bool) =>
 some p1
def e_safety_touches_1 : Entry := ⟨134, [.ty gT, .ty I, .ty I], [(.bool, 0)], fun x => safety_touches_1 x.1 x.2.1 x.2.2⟩
def j_safety_touches_1 : TH := mkTH [([], 134, .region 1, { lv := [⟨none, 6, 0⟩], ps := [(.bool, 0)], D := ⟨2097088⟩, rs := [⟨0, 3⟩], Dn := ⟨2079680⟩ })] []
theorem k_safety_touches_1 : KT e_safety_touches_1 j_safety_touches_1 [] 40 := fun x => by kernel_rfl
theorem o_safety_touches_1 : OT e_safety_touches_1 := entK tab_nil hJ k_safety_touches_1
def safety_place_minus (a0 : (Int × Int × Unit)) (a1 : (Int × Int × Unit)) : Option (Int × Int × Unit) :=
 some (w64 (a0.1 - a1.1), w64 (a0.2.1 - a1.2.1), ())
def e_safety_place_minus : Entry := ⟨135, [.ty gT, .ty gT], [(gT, 0)], fun x => safety_place_minus x.1 x.2⟩
def j_safety_place_minus : TH := mkTH [] []
theorem k_safety_place_minus : KT e_safety_place_minus j_safety_place_minus [] 40 := fun x => by kernel_rfl
theorem o_safety_place_minus : OT e_safety_place_minus := entK tab_nil hJ k_safety_place_minus
def safety_place_cross (a0 : (Int × Int × Unit)) (a1 : (Int × Int × Unit)) : Option Int :=
 some (w64 ((w64 (a0.1 * a1.2.1)) - (w64 (a0.2.1 * a1.1))))
def e_safety_place_cross : Entry := ⟨136, [.ty gT, .ty gT], [(I, 0)], fun x => safety_place_cross x.1 x.2⟩
def j_safety_place_cross : TH := mkTH [] []
theorem k_safety_place_cross : KT e_safety_place_cross j_safety_place_cross [] 40 := fun x => by kernel_rfl
theorem o_safety_place_cross : OT e_safety_place_cross := entK tab_nil hJ k_safety_place_cross
def safety_touches (a0 : (Int × Int × Int × Int × Unit)) (a1 : (Int × Int × Unit)) (a2 : (Int × Int × Unit)) : Option Bool :=
 ((safety_touches_1 (a0.1, a0.2.1, ()) a1.1 a2.1).bind fun x1 =>
  bif x1 then
   some true
  else
   (safety_touches_1 (a0.2.2.1, a0.2.2.2.1, ()) a1.2.1 a2.2.1).bind fun x2 =>
   some x2).bind fun (p3 : Bool) =>
 bif p3 then
  some false
 else
  (safety_place_minus a2 a1).bind fun x4 =>
  (safety_place_minus (a0.1, a0.2.2.1, ()) a1).bind fun x5 =>
  (safety_place_cross x4 x5).bind fun x6 =>
  (safety_place_minus a2 a1).bind fun x7 =>
  (safety_place_minus (a0.1, a0.2.2.2.1, ()) a1).bind fun x8 =>
  (safety_place_cross x7 x8).bind fun x9 =>
  (bif decide (x6 >= 0) then
    bif decide (x6 <= 0) then
     some (true, true)
    else
     some (true, decide (x9 <= 0))
   else
    bif decide (x6 <= 0) then
     some (decide (x9 >= 0), true)
    else
     some (decide (x9 >= 0), decide (x9 <= 0))).bind fun (p10 : (Bool × Bool)) =>
  (safety_place_minus a2 a1).bind fun x11 =>
  (safety_place_minus (a0.2.1, a0.2.2.1, ()) a1).bind fun x12 =>
  (safety_place_cross x11 x12).bind fun x13 =>
  (bif p10.1 then
    bif p10.2 then
     some (true, true)
    else
     some (true, decide (x13 <= 0))
   else
    bif p10.2 then
     some (decide (x13 >= 0), true)
    else
     some (decide (x13 >= 0), decide (x13 <= 0))).bind fun (p14 : (Bool × Bool)) =>
  (safety_place_minus a2 a1).bind fun x15 =>
  (safety_place_minus (a0.2.1, a0.2.2.2.1, ()) a1).bind fun x16 =>
  (safety_place_cross x15 x16).bind fun x17 =>
  (bif p14.1 then
    bif p14.2 then
     some (true, true)
    else
     some (true, decide (x17 <= 0))
   else
    bif p14.2 then
     some (decide (x17 >= 0), true)
    else
     some (decide (x17 >= 0), decide (x17 <= 0))).bind fun (p18 : (Bool × Bool)) =>
  (bif p18.1 then
    some p18.2
   else
    some false).bind fun (p19 : Bool) =>
  some p19
def e_safety_touches : Entry := ⟨78, [.ty (.pair I (.pair I gT)), .ty gT, .ty gT], [(.bool, 0)], fun x => safety_touches x.1 x.2.1 x.2.2⟩
def j_safety_touches : TH := mkTH [([], 78, .region 2, { lv := [⟨none, 30, 0⟩], ps := [(.bool, 0)], D := ⟨2147475456⟩, rs := [⟨0, 3⟩, ⟨0, 4⟩, ⟨0, 5⟩], Dn := ⟨1970970624⟩ }),
 ([], 78, .region 9, { lv := [⟨none, 8, 0⟩, ⟨none, 9, 0⟩], ps := [(.bool, 0), (.bool, 0)], D := ⟨1207745227993911763403520⟩ }),
 ([], 78, .region 11, { lv := [⟨none, 6, 0⟩], ps := [(.bool, 0)], D := ⟨36267774588438875241185344⟩ })] []
theorem k_safety_touches : KT e_safety_touches j_safety_touches [e_safety_place_cross, e_safety_place_minus, e_safety_touches_1] 40 := fun x => by kernel_rfl
theorem o_safety_touches : OT e_safety_touches := entK (tab_cons o_safety_place_cross (tab_cons o_safety_place_minus (tab_cons o_safety_touches_1 tab_nil))) hJ k_safety_touches
def safety_ClearOf (a0 : (List (Int × Int × Int × Int × Unit))) (a1 : (List (Int × Int × Unit))) : Option (Int × Int) :=
 bif decide ((a0.length : Int) > 8) then
  some (0, 8)
 else
  (safety_each_api_SafetyZone_of_safety_ClearOf_1 a0).bind fun x1 =>
  (safety_unless (decide ((a1.length : Int) <= 20)) (8 : Int)).bind fun x2 =>
  (safety_first ([x1.2, x2])).bind fun x3 =>
  bif !(decide (x3 = 0)) then
   some (0, x3)
  else
   (safety_each_2_int_of_safety_ClearOf_2 a1).bind fun x4 =>
   bif !(decide (x4.2 = 0)) then
    some (0, x4.2)
   else
    (loopO (fun (s6 : Int) =>
      bif decide (s6 < (a1.length : Int)) then
       (idx a1 s6).bind fun x7 =>
       (idx a1 (max (0 : Int) (w64 (s6 - 1)))).bind fun x8 =>
       ((loopO (fun (s10 : Int) =>
          bif decide (s10 < (a0.length : Int)) then
           (idx a0 s10).bind fun x11 =>
           (safety_touches x11 x8 x7).bind fun x12 =>
           bif x12 then
            some (.inr (.inr s10))
           else
            some (.inl (w64 (s10 + 1)))
          else
           some (.inr (.inl ()))) 0).bind (Sum.elim (fun (p13 : Unit) =>
        some (-1)) some)).bind fun (p14 : Int) =>
       bif decide (p14 >= 0) then
        some (.inr (.inr (0, 13)))
       else
        some (.inl (w64 (s6 + 1)))
      else
       some (.inr (.inl ()))) 0).bind (Sum.elim (fun (p15 : Unit) =>
    some ((a1.length : Int), 0)) some)
def e_safety_ClearOf : Entry := ⟨13, [.ty (.sl (.pair I (.pair I gT))), .ty (.sl gT)], [(I, 0), (I, 0)], fun x => safety_ClearOf x.1 x.2⟩
def j_safety_ClearOf : TH := mkTH [([], 13, .block 0, { lv := [], ps := [], abn := true, D := ⟨72055395014679552⟩, wr := [⟨0, 11⟩, ⟨0, 12⟩] }),
 ([], 13, .loop 0, { lv := [⟨none, 41, 0⟩], ps := [(I, 0)], D := ⟨72055395014679552⟩, wr := [⟨0, 11⟩, ⟨0, 12⟩], rs := [⟨0, 11⟩, ⟨0, 12⟩], Dn := ⟨63048195759932416⟩ }),
 ([7, 54], 133, .inl 0, { lv := [⟨none, 4, 0⟩], ps := [(I, 0)], D := ⟨524272⟩, rs := [⟨0, 11⟩, ⟨0, 12⟩], Dn := ⟨522224⟩ }),
 ([7, 54], 133, .block 0, { lv := [], ps := [], abn := true, D := ⟨524064⟩ }),
 ([7, 54], 133, .loop 0, { lv := [⟨none, 8, 0⟩], ps := [(I, 0)], D := ⟨524064⟩, rs := [⟨0, 11⟩, ⟨0, 12⟩], Dn := ⟨522016⟩ })] []
theorem k_safety_ClearOf : KT e_safety_ClearOf j_safety_ClearOf [e_safety_each_2_int_of_safety_ClearOf_2, e_safety_each_api_SafetyZone_of_safety_ClearOf_1, e_safety_first, e_safety_touches, e_safety_unless] 40 := fun x => by kernel_rfl
theorem o_safety_ClearOf : OT e_safety_ClearOf := entK (tab_cons o_safety_each_2_int_of_safety_ClearOf_2 (tab_cons o_safety_each_api_SafetyZone_of_safety_ClearOf_1 (tab_cons o_safety_first (tab_cons o_safety_touches (tab_cons o_safety_unless tab_nil))))) hJ k_safety_ClearOf
def ref09_isPlace (a0 : Int) : Option Bool :=
 (base_Within a0 (-1000 : Int) (1000 : Int)).bind fun x1 =>
 some x1
def e_ref09_isPlace : Entry := ⟨79, [.ty I], [(.bool, 0)], fun x => ref09_isPlace x⟩
def j_ref09_isPlace : TH := mkTH [] []
theorem k_ref09_isPlace : KT e_ref09_isPlace j_ref09_isPlace [e_base_Within] 40 := fun x => by kernel_rfl
theorem o_ref09_isPlace : OT e_ref09_isPlace := entK (tab_cons o_base_Within tab_nil) hJ k_ref09_isPlace
def ref09_ZonesErr (a0 : (List (Int × Int × Int × Int × Unit))) (a1 : (List (Int × Int × Unit))) : Option Int :=
 bif decide ((a0.length : Int) > 8) then
  some 8
 else
  (loopO (fun (s2 : Int) =>
    bif decide (s2 < (a0.length : Int)) then
     (idx a0 s2).bind fun x3 =>
     ((ref09_isPlace x3.1).bind fun x4 =>
      bif !x4 then
       some true
      else
       (ref09_isPlace x3.2.1).bind fun x5 =>
       bif !x5 then
        some true
       else
        (ref09_isPlace x3.2.2.1).bind fun x6 =>
        bif !x6 then
         some true
        else
         (ref09_isPlace x3.2.2.2.1).bind fun x7 =>
         some (!x7)).bind fun (p8 : Bool) =>
     bif p8 then
      some (.inr (.inr 2))
     else
      (bif decide (x3.1 > x3.2.1) then
        some true
       else
        some (decide (x3.2.2.1 > x3.2.2.2.1))).bind fun (p9 : Bool) =>
      bif p9 then
       some (.inr (.inr 9))
      else
       some (.inl (w64 (s2 + 1)))
    else
     some (.inr (.inl ()))) 0).bind (Sum.elim (fun (p10 : Unit) =>
  bif decide ((a1.length : Int) > 20) then
   some 8
  else
   (loopO (fun (s12 : Int) =>
     bif decide (s12 < (a1.length : Int)) then
      ((idx a1 s12).bind fun x13 =>
       (ref09_isPlace x13.1).bind fun x14 =>
       bif !x14 then
        some true
       else
        (idx a1 s12).bind fun x15 =>
        (ref09_isPlace x15.2.1).bind fun x16 =>
        some (!x16)).bind fun (p17 : Bool) =>
      bif p17 then
       some (.inr (.inr 2))
      else
       some (.inl (w64 (s12 + 1)))
     else
      some (.inr (.inl ()))) 0).bind (Sum.elim (fun (p18 : Unit) =>
   some 0) some)) some)
def e_ref09_ZonesErr : Entry := ⟨16, [.ty (.sl (.pair I (.pair I gT))), .ty (.sl gT)], [(I, 0)], fun x => ref09_ZonesErr x.1 x.2⟩
def j_ref09_ZonesErr : TH := mkTH [([], 16, .block 0, { lv := [], ps := [], abn := true, D := ⟨9223372036854773856⟩, wr := [⟨0, 6⟩] }),
 ([], 16, .loop 0, { lv := [⟨none, 5, 0⟩], ps := [(I, 0)], D := ⟨9223372036854773856⟩, wr := [⟨0, 6⟩], rs := [⟨0, 6⟩], Dn := ⟨8246787956138833952⟩ }),
 ([], 16, .region 7, { lv := [⟨none, 46, 0⟩], ps := [(.bool, 0)], D := ⟨140737486258176⟩, rs := [⟨0, 6⟩], Dn := ⟨134088467939328⟩ }),
 ([], 16, .region 9, { lv := [⟨none, 62, 0⟩], ps := [(.bool, 0)], D := ⟨9223231299366420480⟩, rs := [⟨0, 6⟩], Dn := ⟨8246653867668799488⟩ }),
 ([], 16, .block 2, { lv := [], ps := [], abn := true, D := ⟨309484936034368773886574720⟩ }),
 ([], 16, .loop 2, { lv := [⟨none, 7, 0⟩], ps := [(I, 0)], D := ⟨309484936034368773886574720⟩ }),
 ([], 16, .region 16, { lv := [⟨none, 87, 0⟩], ps := [(.bool, 0)], D := ⟨309480287454862199079567360⟩ })] []
theorem k_ref09_ZonesErr : KT e_ref09_ZonesErr j_ref09_ZonesErr [e_ref09_isPlace] 40 := fun x => by kernel_rfl
theorem o_ref09_ZonesErr : OT e_ref09_ZonesErr := entK (tab_cons o_ref09_isPlace tab_nil) hJ k_ref09_ZonesErr
def ref09_Touches (a0 : (Int × Int × Int × Int × Unit)) (a1 : (Int × Int × Unit)) (a2 : (Int × Int × Unit)) : Option Bool :=
 (bif decide (max a1.1 a2.1 < a0.1) then
   some true
  else
   bif decide (min a1.1 a2.1 > a0.2.1) then
    some true
   else
    bif decide (max a1.2.1 a2.2.1 < a0.2.2.1) then
     some true
    else
     some (decide (min a1.2.1 a2.2.1 > a0.2.2.2.1))).bind fun (p1 : Bool) =>
 bif p1 then
  some false
 else
  let v2 : Int := w64 ((w64 ((w64 (a2.1 - a1.1)) * (w64 (a0.2.2.1 - a1.2.1)))) - (w64 ((w64 (a2.2.1 - a1.2.1)) * (w64 (a0.1 - a1.1)))))
  (bif decide (v2 > 0) then
    some 1
   else
    some 0).bind fun (p3 : Int) =>
  (bif decide (v2 < 0) then
    some 1
   else
    some 0).bind fun (p4 : Int) =>
  let v5 : Int := w64 ((w64 ((w64 (a2.1 - a1.1)) * (w64 (a0.2.2.2.1 - a1.2.1)))) - (w64 ((w64 (a2.2.1 - a1.2.1)) * (w64 (a0.1 - a1.1)))))
  (bif decide (v5 > 0) then
    some (w64 (p3 + 1))
   else
    some p3).bind fun (p6 : Int) =>
  (bif decide (v5 < 0) then
    some (w64 (p4 + 1))
   else
    some p4).bind fun (p7 : Int) =>
  let v8 : Int := w64 ((w64 ((w64 (a2.1 - a1.1)) * (w64 (a0.2.2.1 - a1.2.1)))) - (w64 ((w64 (a2.2.1 - a1.2.1)) * (w64 (a0.2.1 - a1.1)))))
  (bif decide (v8 > 0) then
    some (w64 (p6 + 1))
   else
    some p6).bind fun (p9 : Int) =>
  (bif decide (v8 < 0) then
    some (w64 (p7 + 1))
   else
    some p7).bind fun (p10 : Int) =>
  let v11 : Int := w64 ((w64 ((w64 (a2.1 - a1.1)) * (w64 (a0.2.2.2.1 - a1.2.1)))) - (w64 ((w64 (a2.2.1 - a1.2.1)) * (w64 (a0.2.1 - a1.1)))))
  (bif decide (v11 > 0) then
    some (w64 (p9 + 1))
   else
    some p9).bind fun (p12 : Int) =>
  (bif decide (v11 < 0) then
    some (w64 (p10 + 1))
   else
    some p10).bind fun (p13 : Int) =>
  (bif decide (p12 < 4) then
    some (decide (p13 < 4))
   else
    some false).bind fun (p14 : Bool) =>
  some p14
def e_ref09_Touches : Entry := ⟨80, [.ty (.pair I (.pair I gT)), .ty gT, .ty gT], [(.bool, 0)], fun x => ref09_Touches x.1 x.2.1 x.2.2⟩
def j_ref09_Touches : TH := mkTH [([], 80, .region 1, { lv := [⟨none, 53, 0⟩], ps := [(.bool, 0)], D := ⟨18014398509477888⟩, rs := [⟨0, 3⟩, ⟨0, 4⟩, ⟨0, 5⟩], Dn := ⟨16236719711559680⟩ }),
 ([], 80, .cond 115, { lv := [⟨none, 8, 0⟩], ps := [(I, 0)], D := ⟨249230249209671726169463823802564864⟩ }),
 ([], 80, .cond 119, { lv := [⟨none, 9, 0⟩], ps := [(I, 0)], D := ⟨3987683987354747618711421180841034240⟩ }),
 ([], 80, .region 13, { lv := [⟨none, 6, 0⟩], ps := [(.bool, 0)], D := ⟨334965454937798799971759379190646833216⟩ })] []
theorem k_ref09_Touches : KT e_ref09_Touches j_ref09_Touches [] 40 := fun x => by kernel_rfl
theorem o_ref09_Touches : OT e_ref09_Touches := entK tab_nil hJ k_ref09_Touches
def ref09_Clear (a0 : (List (Int × Int × Int × Int × Unit))) (a1 : (List (Int × Int × Unit))) : Option Bool :=
 (loopO (fun (s2 : Int) =>
   bif decide (s2 < (a0.length : Int)) then
    (loopO (fun (s4 : Int) =>
      bif decide (s4 < (a1.length : Int)) then
       (idx a0 s2).bind fun x5 =>
       (idx a1 s4).bind fun x6 =>
       (idx a1 (max (0 : Int) (w64 (s4 - 1)))).bind fun x7 =>
       (ref09_Touches x5 x6 x7).bind fun x8 =>
       bif x8 then
        some (.inr (.inr (.inr (.inr false))))
       else
        some (.inl (w64 (s4 + 1)))
      else
       some (.inr (.inl ()))) 0).bind (Sum.elim (fun (p9 : Unit) =>
    some (.inl (w64 (s2 + 1)))) some)
   else
    some (.inr (.inl ()))) 0).bind (Sum.elim (fun (p10 : Unit) =>
 some true) some)
def e_ref09_Clear : Entry := ⟨17, [.ty (.sl (.pair I (.pair I gT))), .ty (.sl gT)], [(.bool, 0)], fun x => ref09_Clear x.1 x.2⟩
def j_ref09_Clear : TH := mkTH [([], 17, .block 0, { lv := [], ps := [], abn := true, D := ⟨17179869152⟩ }),
 ([], 17, .loop 0, { lv := [⟨none, 5, 0⟩], ps := [(I, 0)], D := ⟨17179869152⟩ }),
 ([], 17, .block 2, { lv := [], ps := [], abn := true, D := ⟨17179861056⟩ }),
 ([], 17, .loop 2, { lv := [⟨none, 6, 0⟩], ps := [(I, 0)], D := ⟨17179861056⟩ })] []
theorem k_ref09_Clear : KT e_ref09_Clear j_ref09_Clear [e_ref09_Touches] 40 := fun x => by kernel_rfl
theorem o_ref09_Clear : OT e_ref09_Clear := entK (tab_cons o_ref09_Touches tab_nil) hJ k_ref09_Clear
def law09_SafetyZones (a0 : (List (Int × Int × Int × Int × Unit))) (a1 : (List (Int × Int × Unit))) (a2 : Int) : Option Bool :=
 (law09_awake).bind fun x1 =>
 bif !x1 then
  some false
 else
  (bif decide ((a0.length : Int) > 10) then
    some true
   else
    some (decide ((a1.length : Int) > 22))).bind fun (p2 : Bool) =>
  bif p2 then
   some true
  else
   (ref09_CopyZones a0).bind fun x3 =>
   (ref09_CopyPath a1).bind fun x4 =>
   (safety_ClearOf x3 x4).bind fun x5 =>
   (ref09_ZonesErr a0 a1).bind fun x6 =>
   bif !(decide (x6 = 0)) then
    (bif decide (x5.2 = x6) then
      some (decide (x5.1 = 0))
     else
      some false).bind fun (p7 : Bool) =>
    some p7
   else
    (ref09_Clear a0 a1).bind fun x8 =>
    (bif x8 then
      (bif !(decide (x5.2 = 0)) then
        some true
       else
        some (!(decide (x5.1 = (a1.length : Int))))).bind fun (p9 : Bool) =>
      bif p9 then
       some (.inr false)
      else
       some (.inl ())
     else
      (bif !(decide (x5.2 = 13)) then
        some true
       else
        some (!(decide (x5.1 = 0)))).bind fun (p10 : Bool) =>
      bif p10 then
       some (.inr false)
      else
       some (.inl ())).bind (Sum.elim (fun (p11 : Unit) =>
    (loopO (fun (s14 : ((List (Int × Int × Unit)) × Int)) =>
      bif decide (s14.2 >= 0) then
       (idx a1 s14.2).bind fun x15 =>
       (app s14.1 ([x15])).bind fun x16 =>
       some (.inl (x16, w64 (s14.2 - 1)))
      else
       some (.inr s14.1)) ([], w64 ((a1.length : Int) - 1))).bind fun (p17 : (List (Int × Int × Unit))) =>
    (ref09_CopyZones a0).bind fun x18 =>
    (safety_ClearOf x18 p17).bind fun x19 =>
    (bif !(decide (x19.2 = x5.2)) then
      some true
     else
      some (!(decide (x19.1 = x5.1)))).bind fun (p20 : Bool) =>
    bif p20 then
     some false
    else
     bif !(decide (x5.2 = 0)) then
      some true
     else
      (loopO (fun (s22 : Int) =>
        bif decide (s22 < (a0.length : Int)) then
         (loopO (fun (s24 : Int) =>
           bif decide (s24 < (a1.length : Int)) then
            ((idx a1 s24).bind fun x25 =>
             (idx a0 s22).bind fun x26 =>
             (idx a0 s22).bind fun x27 =>
             (base_Within x25.1 x26.1 x27.2.1).bind fun x28 =>
             bif x28 then
              (idx a1 s24).bind fun x29 =>
              (idx a0 s22).bind fun x30 =>
              (idx a0 s22).bind fun x31 =>
              (base_Within x29.2.1 x30.2.2.1 x31.2.2.2.1).bind fun x32 =>
              some x32
             else
              some false).bind fun (p33 : Bool) =>
            bif p33 then
             some (.inr (.inr (.inr (.inr false))))
            else
             some (.inl (w64 (s24 + 1)))
           else
            some (.inr (.inl ()))) 0).bind (Sum.elim (fun (p34 : Unit) =>
         some (.inl (w64 (s22 + 1)))) some)
        else
         some (.inr (.inl ()))) 0).bind (Sum.elim (fun (p35 : Unit) =>
      (bif decide ((a0.length : Int) = 0) then
        some true
       else
        some (decide ((a1.length : Int) = 0))).bind fun (p36 : Bool) =>
      bif p36 then
       some true
      else
       (base_Mod a2 (a0.length : Int)).bind fun x37 =>
       (slc a0 0 x37).bind fun x38 =>
       (ref09_CopyZones x38).bind fun x39 =>
       (slc a0 (w64 (x37 + 1)) (a0.length : Int)).bind fun x40 =>
       (app x39 x40).bind fun x41 =>
       (ref09_CopyPath a1).bind fun x42 =>
       (safety_ClearOf x41 x42).bind fun x43 =>
       (ref09_CopyZones a0).bind fun x44 =>
       (slc a1 0 (w64 ((a1.length : Int) - 1))).bind fun x45 =>
       (ref09_CopyPath x45).bind fun x46 =>
       (safety_ClearOf x44 x46).bind fun x47 =>
       (bif decide (x43.2 = 0) then
         some (decide (x47.2 = 0))
        else
         some false).bind fun (p48 : Bool) =>
       some p48) some)) some)
def e_law09_SafetyZones : Entry := ⟨3, [.ty (.sl (.pair I (.pair I gT))), .ty (.sl gT), .ty I], [(.bool, 0)], fun x => law09_SafetyZones x.1 x.2.1 x.2.2⟩
def j_law09_SafetyZones : TH := mkTH [([], 3, .region 3, { lv := [⟨none, 30, 0⟩], ps := [(.bool, 0)], D := ⟨2139095040⟩ }),
 ([], 3, .region 8, { lv := [⟨none, 6, 0⟩], ps := [(.bool, 0)], D := ⟨2234207627640896⟩ }),
 ([], 3, .cond 53, { lv := [], ps := [], abn := true, D := ⟨295129890780843343872⟩ }),
 ([], 3, .region 10, { lv := [⟨none, 61, 0⟩], ps := [(.bool, 0)], D := ⟨4593671619917905920⟩ }),
 ([], 3, .region 12, { lv := [⟨none, 67, 0⟩], ps := [(.bool, 0)], D := ⟨290536219160925437952⟩ }),
 ([], 3, .block 0, { lv := [⟨none, 10, 0⟩], ps := [((.sl gT), 1)], D := ⟨4833342095217081876220928⟩ }),
 ([], 3, .loop 0, { lv := [⟨none, 10, 0⟩, ⟨none, 11, 0⟩], ps := [((.sl gT), 1), (I, 0)], D := ⟨4833342095217081876220928⟩ }),
 ([], 3, .region 20, { lv := [⟨none, 96, 0⟩], ps := [(.bool, 0)], D := ⟨157837355008885985049638338560⟩ }),
 ([], 3, .block 2, { lv := [], ps := [], abn := true, D := ⟨713623846352979306703842870610046819839820800⟩ }),
 ([], 3, .loop 2, { lv := [⟨none, 14, 0⟩], ps := [(I, 0)], D := ⟨713623846352979306703842870610046819839820800⟩ }),
 ([], 3, .block 4, { lv := [], ps := [], abn := true, D := ⟨713623846352939375709935681383899673688835072⟩ }),
 ([], 3, .loop 4, { lv := [⟨none, 15, 0⟩], ps := [(I, 0)], D := ⟨713623846352939375709935681383899673688835072⟩ }),
 ([], 3, .region 30, { lv := [⟨none, 148, 0⟩], ps := [(.bool, 0)], D := ⟨713623846350383792099875570910482320026763264⟩ }),
 ([], 3, .region 32, { lv := [⟨none, 156, 0⟩], ps := [(.bool, 0)], D := ⟨181974080820009884834931461104810629888800194560⟩ }),
 ([], 3, .region 37, { lv := [⟨none, 6, 0⟩], ps := [(.bool, 0)], D := ⟨24716088083085055507603420853880186513403024562577135894592⟩ })] []
theorem k_law09_SafetyZones : KT e_law09_SafetyZones j_law09_SafetyZones [e_base_Mod, e_base_Within, e_law09_awake, e_ref09_Clear, e_ref09_CopyPath, e_ref09_CopyZones, e_ref09_ZonesErr, e_safety_ClearOf] 40 := fun x => by kernel_rfl
theorem o_law09_SafetyZones : OT e_law09_SafetyZones := entK (tab_cons o_base_Mod (tab_cons o_base_Within (tab_cons o_law09_awake (tab_cons o_ref09_Clear (tab_cons o_ref09_CopyPath (tab_cons o_ref09_CopyZones (tab_cons o_ref09_ZonesErr (tab_cons o_safety_ClearOf tab_nil)))))))) hJ k_law09_SafetyZones
def safety_CheckLimits (a0 : (Int × Int × Int × Int × Int × Unit)) : Option Int :=
 ((safety_isSized a0.1 (60 : Int)).bind fun x1 =>
  bif x1 then
   (safety_isSized a0.2.1 (60 : Int)).bind fun x2 =>
   bif x2 then
    (safety_within a0.2.2.1 (1 : Int) (8 : Int)).bind fun x3 =>
    bif x3 then
     (safety_within a0.2.2.2.1 (1 : Int) (3 : Int)).bind fun x4 =>
     bif x4 then
      (safety_within a0.2.2.2.2.1 (1 : Int) (6 : Int)).bind fun x5 =>
      some x5
     else
      some false
    else
     some false
   else
    some false
  else
   some false).bind fun (p6 : Bool) =>
 (safety_unless p6 (2 : Int)).bind fun x7 =>
 (safety_unless (decide (a0.1 <= a0.2.1)) (9 : Int)).bind fun x8 =>
 (safety_first ([x7, x8])).bind fun x9 =>
 some x9
def e_safety_CheckLimits : Entry := ⟨37, [.ty (.pair I (.pair I (.pair I gT)))], [(I, 0)], fun x => safety_CheckLimits x⟩
def j_safety_CheckLimits : TH := mkTH [([], 37, .region 1, { lv := [⟨none, 3, 0⟩], ps := [(.bool, 0)], D := ⟨536870904⟩, rs := [⟨0, 1⟩], Dn := ⟨502233544⟩ })] []
theorem k_safety_CheckLimits : KT e_safety_CheckLimits j_safety_CheckLimits [e_safety_first, e_safety_isSized, e_safety_unless, e_safety_within] 40 := fun x => by kernel_rfl
theorem o_safety_CheckLimits : OT e_safety_CheckLimits := entK (tab_cons o_safety_first (tab_cons o_safety_isSized (tab_cons o_safety_unless (tab_cons o_safety_within tab_nil)))) hJ k_safety_CheckLimits
def safety_openMotion (a0 : (Int × Int × Int × Int × Int × Unit)) (a1 : (Int × Int × Int × Unit)) : Option Int :=
 ((safety_within a1.1 a0.1 a0.2.1).bind fun x1 =>
  bif x1 then
   (safety_isSized a1.2.1 a0.2.2.1).bind fun x2 =>
   bif x2 then
    (safety_isSized a1.2.2.1 a0.2.2.2.1).bind fun x3 =>
    some x3
   else
    some false
  else
   some false).bind fun (p4 : Bool) =>
 (safety_CheckLimits a0).bind fun x5 =>
 (safety_unless p4 (2 : Int)).bind fun x6 =>
 (safety_first ([x5, x6])).bind fun x7 =>
 some x7
def e_safety_openMotion : Entry := ⟨91, [.ty (.pair I (.pair I (.pair I gT))), .ty (.pair I gT)], [(I, 0)], fun x => safety_openMotion x.1 x.2⟩
def j_safety_openMotion : TH := mkTH [([], 91, .region 1, { lv := [⟨none, 5, 0⟩], ps := [(.bool, 0)], D := ⟨536870880⟩, rs := [⟨0, 2⟩, ⟨0, 3⟩], Dn := ⟨494593184⟩ })] []
theorem k_safety_openMotion : KT e_safety_openMotion j_safety_openMotion [e_safety_CheckLimits, e_safety_first, e_safety_isSized, e_safety_unless, e_safety_within] 40 := fun x => by kernel_rfl
theorem o_safety_openMotion : OT e_safety_openMotion := entK (tab_cons o_safety_CheckLimits (tab_cons o_safety_first (tab_cons o_safety_isSized (tab_cons o_safety_unless (tab_cons o_safety_within tab_nil))))) hJ k_safety_openMotion
def safety_atRest (a0 : (Int × Int × Int × Unit)) : Option Bool :=
 (bif decide (a0.2.1 = 0) then
   some (decide (a0.2.2.1 = 0))
  else
   some false).bind fun (p1 : Bool) =>
 some p1
def e_safety_atRest : Entry := ⟨95, [.ty (.pair I gT)], [(.bool, 0)], fun x => safety_atRest x⟩
def j_safety_atRest : TH := mkTH [([], 95, .region 1, { lv := [⟨none, 2, 0⟩], ps := [(.bool, 0)], D := ⟨2044⟩, rs := [⟨0, 1⟩], Dn := ⟨1908⟩ })] []
theorem k_safety_atRest : KT e_safety_atRest j_safety_atRest [] 40 := fun x => by kernel_rfl
theorem o_safety_atRest : OT e_safety_atRest := entK tab_nil hJ k_safety_atRest
def safety_pushed (a0 : (Int × Int × Int × Int × Int × Unit)) (a1 : (Int × Int × Int × Unit)) (a2 : Int) : Option ((Int × Int × Int × Unit) × Bool) :=
 ((safety_isSized a2 a0.2.2.2.1).bind fun x1 =>
  bif !x1 then
   some true
  else
   (safety_isSized (w64 (a2 - a1.2.2.1)) a0.2.2.2.2.1).bind fun x2 =>
   some (!x2)).bind fun (p3 : Bool) =>
 bif p3 then
  some (a1, false)
 else
  ((safety_isSized (w64 (a1.2.1 + a2)) a0.2.2.1).bind fun x4 =>
   bif x4 then
    (safety_within (w64 (a1.1 + (w64 (a1.2.1 + a2)))) a0.1 a0.2.1).bind fun x5 =>
    some (x5, w64 (a1.1 + (w64 (a1.2.1 + a2))), w64 (a1.2.1 + a2), a2)
   else
    some (false, w64 (a1.1 + (w64 (a1.2.1 + a2))), w64 (a1.2.1 + a2), a2)).bind fun (p6 : (Bool × Int × Int × Int)) =>
  some ((p6.2.1, p6.2.2.1, p6.2.2.2, ()), p6.1)
def e_safety_pushed : Entry := ⟨92, [.ty (.pair I (.pair I (.pair I gT))), .ty (.pair I gT), .ty I], [((.pair I gT), 0), (.bool, 0)], fun x => safety_pushed x.1 x.2.1 x.2.2⟩
def j_safety_pushed : TH := mkTH [([], 92, .region 1, { lv := [⟨none, 22, 0⟩], ps := [(.bool, 0)], D := ⟨8388352⟩, rs := [⟨0, 3⟩, ⟨0, 4⟩], Dn := ⟨8092928⟩ }),
 ([], 92, .region 5, { lv := [⟨none, 7, 0⟩, ⟨some 0, 6, 0⟩, ⟨some 0, 6, 1⟩, ⟨some 0, 6, 2⟩], ps := [(.bool, 0), (I, 0), (I, 0), (I, 0)], D := ⟨18014261070528640⟩, wr := [⟨0, 6⟩], rs := [⟨0, 3⟩, ⟨0, 4⟩], Dn := ⟨16095338402152576⟩ })] []
theorem k_safety_pushed : KT e_safety_pushed j_safety_pushed [e_safety_isSized, e_safety_within] 40 := fun x => by kernel_rfl
theorem o_safety_pushed : OT e_safety_pushed := entK (tab_cons o_safety_isSized (tab_cons o_safety_within tab_nil)) hJ k_safety_pushed
def safety_stop (a0 : (Int × Int × Int × Int × Int × Unit)) (a1 : (Int × Int × Int × Unit)) : Option ((List Int) × Bool) :=
 (loopO (fun (s2 : ((List (Int × Int × Int × Int × Unit)) × Int × (List (Int × Int × Int × Unit)))) =>
   bif decide (s2.2.1 < (s2.1.length : Int)) then
    (idx s2.1 s2.2.1).bind fun x3 =>
    (safety_atRest (x3.1, x3.2.1, x3.2.2.1, ())).bind fun x4 =>
    bif x4 then
     (loopO (fun (s7 : ((List Int) × Int)) =>
       (idx s2.1 s7.2).bind fun x8 =>
       bif decide (x8.2.2.2.1 >= 0) then
        (idx s2.1 s7.2).bind fun x9 =>
        (app s7.1 ([x9.2.2.1])).bind fun x10 =>
        (idx s2.1 s7.2).bind fun x11 =>
        some (.inl (x10, x11.2.2.2.1))
       else
        some (.inr s7.1)) ([], s2.2.1)).bind fun (p12 : (List Int)) =>
     (revO p12).bind fun x13 =>
     some (.inr (.inr (x13, true)))
    else
     (loopO (fun (s15 : ((List (Int × Int × Int × Int × Unit)) × Int × (List (Int × Int × Int × Unit)))) =>
       bif decide (s15.2.1 <= a0.2.2.2.1) then
        (idx s15.1 s2.2.1).bind fun x16 =>
        (safety_pushed a0 (x16.1, x16.2.1, x16.2.2.1, ()) s15.2.1).bind fun x17 =>
        (bif x17.2 then
          some (!(memK (.pair I gT) s15.2.2 x17.1))
         else
          some false).bind fun (p18 : Bool) =>
        (bif p18 then
          (app s15.1 ([(x17.1.1, x17.1.2.1, x17.1.2.2.1, s2.2.1, ())])).bind fun x19 =>
          some (x19, insK (.pair I gT) s15.2.2 x17.1)
         else
          some (s15.1, s15.2.2)).bind fun (p20 : ((List (Int × Int × Int × Int × Unit)) × (List (Int × Int × Int × Unit)))) =>
        some (.inl (p20.1, w64 (s15.2.1 + 1), p20.2))
       else
        some (.inr (s15.1, s15.2.2))) (s2.1, w64 (0 - a0.2.2.2.1), s2.2.2)).bind fun (p21 : ((List (Int × Int × Int × Int × Unit)) × (List (Int × Int × Int × Unit)))) =>
     some (.inl (p21.1, w64 (s2.2.1 + 1), p21.2))
   else
    some (.inr (.inl ()))) ([(a1.1, a1.2.1, a1.2.2.1, (-1), ())], 0, insK (.pair I gT) [] a1)).bind (Sum.elim (fun (p22 : Unit) =>
 some ([], false)) some)
def e_safety_stop : Entry := ⟨93, [.ty (.pair I (.pair I (.pair I gT))), .ty (.pair I gT)], [((.sl I), 1), (.bool, 0)], fun x => safety_stop x.1 x.2⟩
def j_safety_stop : TH := mkTH [([], 93, .block 0, { lv := [], ps := [], abn := true, D := ⟨2475880078570760549797216064⟩, wr := [⟨0, 12⟩, ⟨0, 16401⟩] }),
 ([], 93, .loop 0, { lv := [⟨none, 6, 0⟩, ⟨none, 8, 0⟩, ⟨some 0, 16401, 0⟩], ps := [((.sl (.pair I (.pair I gT))), 1), (I, 0), ((.mset (.pair I gT)), 0)], D := ⟨2475880078570760549797216064⟩, wr := [⟨0, 12⟩, ⟨0, 16401⟩], rs := [⟨0, 2⟩], Dn := ⟨2475880077345781451152441152⟩ }),
 ([], 93, .block 2, { lv := [⟨none, 9, 0⟩], ps := [((.sl I), 1)], D := ⟨9007190664807936⟩ }),
 ([], 93, .loop 2, { lv := [⟨none, 9, 0⟩, ⟨none, 10, 0⟩], ps := [((.sl I), 1), (I, 0)], D := ⟨9007190664807936⟩ }),
 ([], 93, .block 4, { lv := [⟨none, 6, 0⟩, ⟨some 0, 16401, 0⟩], ps := [((.sl (.pair I (.pair I gT))), 1), ((.mset (.pair I gT)), 0)], D := ⟨2475880077994299797494839872⟩, wr := [⟨0, 12⟩, ⟨0, 16401⟩], rs := [⟨0, 2⟩], Dn := ⟨2475880076841378292887992896⟩ }),
 ([], 93, .loop 4, { lv := [⟨none, 6, 0⟩, ⟨none, 11, 0⟩, ⟨some 0, 16401, 0⟩], ps := [((.sl (.pair I (.pair I gT))), 1), (I, 0), ((.mset (.pair I gT)), 0)], D := ⟨2475880077994299797494839872⟩, wr := [⟨0, 12⟩, ⟨0, 16401⟩], rs := [⟨0, 2⟩, ⟨0, 12⟩, ⟨0, 16401⟩], Dn := ⟨2465906438829557602196662848⟩ }),
 ([], 93, .region 18, { lv := [⟨none, 82, 0⟩], ps := [(.bool, 0)], D := ⟨9595848693191119074230272⟩, rs := [⟨0, 16401⟩], Dn := ⟨9293617238287461780553728⟩ }),
 ([], 93, .cond 82, { lv := [⟨none, 6, 0⟩, ⟨some 0, 16401, 0⟩], ps := [((.sl (.pair I (.pair I gT))), 1), ((.mset (.pair I gT)), 0)], D := ⟨2466208672013843516400599104⟩, wr := [⟨0, 16401⟩], rs := [⟨0, 16401⟩], Dn := ⟨2456537265456926483002949696⟩ })] []
theorem k_safety_stop : KT e_safety_stop j_safety_stop [e_safety_atRest, e_safety_pushed] 40 := fun x => by kernel_rfl
theorem o_safety_stop : OT e_safety_stop := entK (tab_cons o_safety_atRest (tab_cons o_safety_pushed tab_nil)) hJ k_safety_stop
def safety_StopFrom (a0 : (Int × Int × Int × Int × Int × Unit)) (a1 : (Int × Int × Int × Unit)) : Option ((List Int) × Int) :=
 (safety_openMotion a0 a1).bind fun x1 =>
 bif !(decide (x1 = 0)) then
  some ([], x1)
 else
  (safety_stop a0 a1).bind fun x2 =>
  (safety_unless x2.2 (12 : Int)).bind fun x3 =>
  some (x2.1, x3)
def e_safety_StopFrom : Entry := ⟨38, [.ty (.pair I (.pair I (.pair I gT))), .ty (.pair I gT)], [((.sl I), 1), (I, 0)], fun x => safety_StopFrom x.1 x.2⟩
def j_safety_StopFrom : TH := mkTH [] []
theorem k_safety_StopFrom : KT e_safety_StopFrom j_safety_StopFrom [e_safety_openMotion, e_safety_stop, e_safety_unless] 40 := fun x => by kernel_rfl
theorem o_safety_StopFrom : OT e_safety_StopFrom := entK (tab_cons o_safety_openMotion (tab_cons o_safety_stop (tab_cons o_safety_unless tab_nil))) hJ k_safety_StopFrom
end
end Go.Proofs.YtkcaaaiihhhnmaaGreat
end
section
namespace Go.Proofs.YtkcaaaiihhhnmaaGreat
open Go Go.Ab Go.Tx
theorem wit (n lo hi : Int) : safety_within n lo hi = some (decide (lo <= n /\ n <= hi)) := by
 unfold safety_within;by_cases h : lo <= n <;> by_cases h' : n <= hi <;> simp [h, h']
theorem Wit (n lo hi : Int) : base_Within n lo hi = some (decide (lo <= n /\ n <= hi)) := by
 unfold base_Within;by_cases h : lo <= n <;> by_cases h' : n <= hi <;> simp [h, h']
theorem wq {n : Int} (h1 : -9223372036854775808 <= n) (h2 : n <= 9223372036854775807) : w64 n = n := wrap_id h1 h2
theorem siz {n m : Int} (h : 0 <= m /\ m <= 4611686018427387904) : safety_isSized n m = some (decide (-m <= n /\ n <= m)) := by
 unfold safety_isSized;rw [wq (n := 0 - m) (by omega) (by omega), wit];simp
theorem unl (b : Bool) (e : Int) : safety_unless b e = some (if b then 0 else e) := by cases b <;> rfl
theorem fst_ (l : List Int) (h : l.length <= 1000000000) : safety_first l = some (fst0 l) := by
 unfold safety_first; exact for_first l h
theorem fst0_all {α : Type} {e : α -> Int} : ∀ {l : List α}, fst0 (l.map e) = 0 ↔ ∀ a ∈ l, e a = 0
 | [] => by simp [fst0]
 | x :: l => by
  simp only [List.map_cons, fst0, List.mem_cons, forall_eq_or_imp];by_cases h : e x = 0
  ·simp only [h, if_true, true_and]; exact fst0_all
  ·simp [h]
abbrev Rg := Int × Int × Unit
def wOk (w : Rg) : Prop := (-1000000 <= w.1 /\ w.1 <= 1000000) /\ (1 <= w.2.1 /\ w.2.1 <= 8)
instance (w : Rg) : Decidable (wOk w) := by unfold wOk; infer_instance
def hF (m : Int) (x : Rg) : Int := if x.2.1 > m then 1 else 0
theorem Mod_eq {a b : Int} (hb : 1 <= b /\ b <= 4611686018427387904) : ∃ m, base_Mod a b = some m /\ 0 <= m /\ m < b := by
 unfold base_Mod;have h0 : ¬ b = 0 := by omega
 simp only [h0, decide_false, cond_false];have h1 : a.tmod b < b := Int.tmod_lt_of_pos a (by omega);have h2 : -b < a.tmod b := by
  have := Int.lt_tmod_of_pos a (show 0 < b by omega);omega
 by_cases h3 : a.tmod b < 0
 ·refine ⟨a.tmod b + b, ?_, by omega, by omega⟩;simp only [h3, decide_true, cond_true, Option.bind_some];rw [wq (by omega) (by omega)]
 ·exact ⟨a.tmod b, by simp [h3], by omega, h1⟩
end Go.Proofs.YtkcaaaiihhhnmaaGreat
end
section
namespace Go.Proofs.YtkcaaaiihhhnmaaGreat
open Go Go.Ab Go.Tx
abbrev Gt := List UInt8 × List (List UInt8) × Int × Unit
theorem for_upto {ρ : Type} (n : Nat) (K : Int -> Option (Int ⊕ (Unit ⊕ ρ))) (q : Nat -> Prop) [∀ i, Decidable (q i)] (r : ρ) (c : Prop) [Decidable c] (hc : c ↔ ∃ j, j < n /\ q j)
  (h : ∀ i, i < n -> K (i : Int) = some (if q i then .inr (.inr r) else .inl ((i : Int) + 1))) :
  loopO (fun s => bif decide (s < (n : Int)) then K s else some (.inr (.inl ()))) 0 = some (if c then .inr r else .inl ()) := by
 refine Ok.eq (loop_up n (fun i (s : Int) => s = (i : Int) /\ ∀ j, j < i -> ¬ q j) _ ⟨rfl, by omega⟩ ?_);rintro i s hi ⟨rfl, hI⟩;by_cases hlt : i < n
 ·have h0 : decide ((i : Int) < (n : Int)) = true := by simp <;> omega
  simp only [h0, cond_true];rw [h i hlt];by_cases hq : q i
  ·rw [if_pos hq, rnd_inr, if_pos (hc.2 ⟨i, hlt, hq⟩)]
  ·rw [if_neg hq, rnd_inl];refine ⟨hlt, by simp, fun j hj => ?_⟩;by_cases e : j = i
   ·subst e; exact hq
   ·exact hI j (by omega)
 ·have h0 : decide ((i : Int) < (n : Int)) = false := by simp <;> omega
  simp only [h0, cond_false];rw [rnd_inr, if_neg (fun h => by
   obtain ⟨j, h1, h2⟩ := hc.1 h;exact hI j (by omega) h2)]
theorem mem_take {α : Type} {l : List α} {i : Nat} {a : α} : a ∈ l.take i ↔ ∃ j, j < i /\ l[j]? = some a := by
 rw [List.mem_iff_getElem?];constructor
 ·rintro ⟨j, h⟩;rw [List.getElem?_take] at h;split at h
  ·exact ⟨j, by assumption, h⟩
  ·cases h
 ·rintro ⟨j, h1, h2⟩;exact ⟨j, by rw [List.getElem?_take, if_pos h1]; exact h2⟩
structure GB (gs : List Gt) : Prop where
 len : gs.length <= 8
 nm : ∀ g ∈ gs, g.1.length <= 30
 rl : ∀ g ∈ gs, g.2.1.length <= 6
 rn : ∀ g ∈ gs, ∀ r ∈ g.2.1, r.length <= 30
end Go.Proofs.YtkcaaaiihhhnmaaGreat
end
section
namespace Go.Proofs.YtkcaaaiihhhnmaaGreat
open Go Go.Ab Go.Tx
abbrev Zn := Int × Int × Int × Int × Unit
abbrev Pc := Int × Int × Unit
def isP (n : Int) : Prop := -1000 <= n /\ n <= 1000
instance (n : Int) : Decidable (isP n) := by unfold isP; infer_instance
def zonP (z : Zn) : Prop := isP z.1 /\ isP z.2.1 /\ isP z.2.2.1 /\ isP z.2.2.2.1
instance (z : Zn) : Decidable (zonP z) := by unfold zonP; infer_instance
def pcP (p : Pc) : Prop := isP p.1 /\ isP p.2.1
instance (p : Pc) : Decidable (pcP p) := by unfold pcP; infer_instance
def zoneE (z : Zn) : Int := if zonP z then (if z.1 <= z.2.1 /\ z.2.2.1 <= z.2.2.2.1 then 0 else 9) else 2
def pcE (p : Pc) : Int := if pcP p then 0 else 2
def zonesE (zs : List Zn) (ps : List Pc) : Int :=
 if (zs.length : Int) > 8 then 8 else if fst0 (zs.map zoneE) = 0 then (if (ps.length : Int) <= 20 then fst0 (ps.map pcE) else 8) else fst0 (zs.map zoneE)
theorem isPlace1_eq (n : Int) : safety_isPlace_1 n = some (!decide (isP n)) := by
 unfold safety_isPlace_1;rw [siz (by omega)]; rfl
theorem isPlace_eq (l : List Int) (hl : l.length <= 1000) : safety_isPlace l = some (decide (∀ n ∈ l, isP n)) := by
 unfold safety_isPlace slices_ContainsFunc_Lint_int_of_safety_isPlace_1 slices_IndexFunc_Lint_int_of_safety_isPlace_1;simp only [isPlace1_eq, Option.bind_some];obtain ⟨r, h1, h2⟩ := for_idx l (fun n => !decide (isP n)) (by omega);rw [h1];simp only [Option.bind_some, h2];by_cases h : ∀ n ∈ l, isP n
 ·rw [decide_eq_true h];have : l.any (fun n => !decide (isP n)) = false := by
   rw [List.any_eq_false]; intro n hn; simp [h n hn]
  rw [this]; rfl
 ·rw [decide_eq_false h];have : l.any (fun n => !decide (isP n)) = true := by
   rw [List.any_eq_true];exact Decidable.byContradiction fun hc => h fun n hn => Decidable.byContradiction fun hp => hc ⟨n, hn, by simp [hp]⟩
  rw [this]; rfl
theorem fst0_each {α : Type} (e : α -> Int) : ∀ (l : List α) (k : Nat), (eachE (fun _ a => e a) k l).2 = fst0 (l.map e)
 | [], k => rfl
 | a :: l, k => by
  simp only [eachE, List.map_cons, fst0];by_cases h : e a = 0
  ·simp only [h, if_true]; exact fst0_each e l (k + 1)
  ·simp [h]
theorem zones_each {zs : List Zn} (hl : zs.length <= 1000) : Ok (safety_each_api_SafetyZone_of_safety_ClearOf_1 zs) fun r => r.2 = fst0 (zs.map zoneE) := by
 refine ⟨_, for_each zs (fun i a => safety_ClearOf_1 i a) (fun _ a => zoneE a) (fun i a hi => ?_) (by omega), fst0_each zoneE zs 0⟩;unfold safety_ClearOf_1;rw [isPlace_eq _ (by simp)];simp only [Option.bind_some, unl];have e : decide (∀ n ∈ [a.1, a.2.1, a.2.2.1, a.2.2.2.1], isP n) = decide (zonP a) := by
  rw [decide_eq_decide]; unfold zonP; simp
 rw [e];unfold zoneE;by_cases h : zonP a
 ·rw [decide_eq_true h, if_pos h];by_cases h1 : a.1 <= a.2.1
  ·simp only [h1, decide_true, cond_true, true_and];rw [fst_ _ (by simp)];by_cases h2 : a.2.2.1 <= a.2.2.2.1 <;> simp [h2, fst0]
  ·simp only [h1, decide_false, cond_false, false_and];rw [fst_ _ (by simp)];simp [fst0]
 ·rw [decide_eq_false h, if_neg h];by_cases h1 : a.1 <= a.2.1
  ·simp only [h1, decide_true, cond_true];rw [fst_ _ (by simp)];simp [fst0]
  ·simp only [h1, decide_false, cond_false];rw [fst_ _ (by simp)];simp [fst0]
theorem pcs_each {ps : List Pc} (hl : ps.length <= 1000) : Ok (safety_each_2_int_of_safety_ClearOf_2 ps) fun r => r.2 = fst0 (ps.map pcE) := by
 refine ⟨_, for_each ps (fun i a => safety_ClearOf_2 i a) (fun _ a => pcE a) (fun i a hi => ?_) (by omega), fst0_each pcE ps 0⟩;unfold safety_ClearOf_2;rw [isPlace_eq _ (by simp)];simp only [Option.bind_some, unl];have e : decide (∀ n ∈ [a.1, a.2.1], isP n) = decide (pcP a) := by
  rw [decide_eq_decide]; unfold pcP; simp
 rw [e];unfold pcE;by_cases h : pcP a <;> simp [h]
def crs (p q : Pc) (x y : Int) : Int := (q.1 - p.1) * (y - p.2.1) - (q.2.1 - p.2.1) * (x - p.1)
def offB (z : Zn) (p q : Pc) : Prop := max p.1 q.1 < z.1 \/ z.2.1 < min p.1 q.1 \/ max p.2.1 q.2.1 < z.2.2.1 \/ z.2.2.2.1 < min p.2.1 q.2.1
instance (z : Zn) (p q : Pc) : Decidable (offB z p q) := by unfold offB; infer_instance
def T (z : Zn) (p q : Pc) : Prop := ¬ offB z p q /\
 (crs p q z.1 z.2.2.1 >= 0 \/ crs p q z.1 z.2.2.2.1 >= 0 \/ crs p q z.2.1 z.2.2.1 >= 0 \/ crs p q z.2.1 z.2.2.2.1 >= 0) /\
 (crs p q z.1 z.2.2.1 <= 0 \/ crs p q z.1 z.2.2.2.1 <= 0 \/ crs p q z.2.1 z.2.2.1 <= 0 \/ crs p q z.2.1 z.2.2.2.1 <= 0)
instance (z : Zn) (p q : Pc) : Decidable (T z p q) := by unfold T; infer_instance
theorem crs_w {p q : Pc} {x y : Int} (hp : pcP p) (hq : pcP q) (hx : isP x) (hy : isP y) : w64 ((w64 ((w64 (q.1 - p.1)) * (w64 (y - p.2.1)))) - (w64 ((w64 (q.2.1 - p.2.1)) * (w64 (x - p.1))))) = crs p q x y := by
 obtain ⟨⟨a1, a2⟩, a3, a4⟩ := hp;obtain ⟨⟨b1, b2⟩, b3, b4⟩ := hq;obtain ⟨c1, c2⟩ := hx;obtain ⟨d1, d2⟩ := hy;have m1 := abs_mul_le (a := q.1 - p.1) (b := y - p.2.1) (A := 2000) (B := 2000) (by omega) (by omega);have m2 := abs_mul_le (a := q.2.1 - p.2.1) (b := x - p.1) (A := 2000) (B := 2000) (by omega) (by omega);unfold crs;rw [wq (n := q.1 - p.1) (by omega) (by omega), wq (n := y - p.2.1) (by omega) (by omega), wq (n := q.2.1 - p.2.1) (by omega) (by omega), wq (n := x - p.1) (by omega) (by omega),
  wq (n := (q.1 - p.1) * (y - p.2.1)) (by omega) (by omega), wq (n := (q.2.1 - p.2.1) * (x - p.1)) (by omega) (by omega), wq (by omega) (by omega)]
theorem two_bits (a b : Bool) (c : Int) : (bif a then bif b then some (true, true) else some (true, decide (c <= 0)) else bif b then some (decide (c >= 0), true) else some (decide (c >= 0), decide (c <= 0))) = some (a || decide (c >= 0), b || decide (c <= 0)) := by
 cases a <;> cases b <;> simp
theorem off_eq (z : Zn) (p q : Pc) : ((bif decide (max p.1 q.1 < z.1) then some true else some (decide (z.2.1 < min p.1 q.1))).bind fun x1 => bif x1 then some true else (bif decide (max p.2.1 q.2.1 < z.2.2.1) then some true else some (decide (z.2.2.2.1 < min p.2.1 q.2.1)))) = some (decide (offB z p q)) := by
 unfold offB;by_cases h1 : max p.1 q.1 < z.1
 ·simp only [h1, decide_true, decide_false, cond_true, cond_false, Option.bind_some, true_or, or_true]
 ·by_cases h2 : z.2.1 < min p.1 q.1
  ·simp only [h1, h2, decide_true, decide_false, cond_true, cond_false, Option.bind_some, true_or, or_true]
  ·by_cases h3 : max p.2.1 q.2.1 < z.2.2.1
   ·simp only [h1, h2, h3, decide_true, decide_false, cond_true, cond_false, Option.bind_some, true_or, or_true]
   ·simp only [h1, h2, h3, decide_true, decide_false, cond_true, cond_false, Option.bind_some, false_or]
theorem touches1_eq (a b c d : Int) : safety_touches_1 (a, b, ()) c d = (bif decide (max c d < a) then some true else some (decide (b < min c d))) := by
 unfold safety_touches_1;cases decide (max c d < a) <;> rfl
theorem touches_eq {z : Zn} {p q : Pc} (hz : zonP z) (hp : pcP p) (hq : pcP q) : safety_touches z p q = some (decide (T z p q)) := by
 obtain ⟨z1, z2, z3, z4⟩ := hz;unfold safety_touches;rw [touches1_eq, touches1_eq];unfold safety_place_minus safety_place_cross;have e := off_eq z p q;simp only [Option.bind_fun_some];rw [e];simp only [Option.bind_some, crs_w hp hq z1 z3, crs_w hp hq z1 z4, crs_w hp hq z2 z3, crs_w hp hq z2 z4, two_bits];unfold T;by_cases h : offB z p q
 ·simp [h]
 ·simp only [h, decide_false, cond_false, not_false_eq_true, true_and];simp only [<- Bool.decide_or];by_cases g : ((crs p q z.1 z.2.2.1 >= 0 \/ crs p q z.1 z.2.2.2.1 >= 0) \/ crs p q z.2.1 z.2.2.1 >= 0) \/ crs p q z.2.1 z.2.2.2.1 >= 0
  ·rw [decide_eq_true g];simp only [cond_true, Option.some.injEq];rw [decide_eq_decide];exact ⟨fun h => ⟨by simpa only [or_assoc] using g, by simpa only [or_assoc] using h⟩, fun h => by simpa only [or_assoc] using h.2⟩
  ·rw [decide_eq_false g];simp only [cond_false, Option.some.injEq];rw [eq_comm, decide_eq_false_iff_not];exact fun h => g (by simpa only [or_assoc] using h.1)
theorem cnt_step (p c : Int) (hp : 0 <= p /\ p <= 10) : (bif decide (c > 0) then some (w64 (p + 1)) else some p) = some (p + if c > 0 then 1 else 0) := by
 by_cases h : c > 0
 ·simp only [h, decide_true, cond_true, if_true]; rw [wq (by omega) (by omega)]
 ·simp [h]
theorem cnt_step' (p c : Int) (hp : 0 <= p /\ p <= 10) : (bif decide (c < 0) then some (w64 (p + 1)) else some p) = some (p + if c < 0 then 1 else 0) := by
 by_cases h : c < 0
 ·simp only [h, decide_true, cond_true, if_true]; rw [wq (by omega) (by omega)]
 ·simp [h]
theorem ite01 (c : Prop) [Decidable c] : 0 <= (if c then (1 : Int) else 0) /\ (if c then (1 : Int) else 0) <= 1 /\ (¬ c ↔ (if c then (1 : Int) else 0) <= 0) := by
 by_cases h : c <;> simp [h]
theorem Touches_eq {z : Zn} {p q : Pc} (hz : zonP z) (hp : pcP p) (hq : pcP q) : ref09_Touches z p q = some (decide (T z p q)) := by
 obtain ⟨z1, z2, z3, z4⟩ := hz;unfold ref09_Touches;have e : (bif decide (max p.1 q.1 < z.1) then some true else bif decide (min p.1 q.1 > z.2.1) then some true else bif decide (max p.2.1 q.2.1 < z.2.2.1) then some true else some (decide (min p.2.1 q.2.1 > z.2.2.2.1))) = some (decide (offB z p q)) := by
  unfold offB;by_cases h1 : max p.1 q.1 < z.1
  ·simp only [h1, decide_true, cond_true, true_or]
  ·by_cases h2 : z.2.1 < min p.1 q.1
   ·have h2' : min p.1 q.1 > z.2.1 := h2;simp only [h1, h2, h2', decide_true, decide_false, cond_true, cond_false, true_or, or_true]
   ·have h2' : ¬ min p.1 q.1 > z.2.1 := h2;by_cases h3 : max p.2.1 q.2.1 < z.2.2.1
    ·simp only [h1, h2, h2', h3, decide_true, decide_false, cond_true, cond_false, true_or, or_true]
    ·simp only [h1, h2, h2', h3, decide_true, decide_false, cond_true, cond_false, false_or]
 rw [e];simp only [Option.bind_some, crs_w hp hq z1 z3, crs_w hp hq z1 z4, crs_w hp hq z2 z3, crs_w hp hq z2 z4];unfold T;by_cases h : offB z p q
 ·simp [h]
 ·simp only [h, decide_false, cond_false, not_false_eq_true, true_and];generalize crs p q z.1 z.2.2.1 = c1;generalize crs p q z.1 z.2.2.2.1 = c2;generalize crs p q z.2.1 z.2.2.1 = c3;generalize crs p q z.2.1 z.2.2.2.1 = c4;have a1 := ite01 (c1 > 0); have a2 := ite01 (c2 > 0); have a3 := ite01 (c3 > 0); have a4 := ite01 (c4 > 0);have b1 := ite01 (c1 < 0); have b2 := ite01 (c2 < 0); have b3 := ite01 (c3 < 0); have b4 := ite01 (c4 < 0);have f1 : (bif decide (c1 > 0) then some (1 : Int) else some 0) = some (if c1 > 0 then 1 else 0) := by by_cases h : c1 > 0 <;> simp [h]
  have f2 : (bif decide (c1 < 0) then some (1 : Int) else some 0) = some (if c1 < 0 then 1 else 0) := by by_cases h : c1 < 0 <;> simp [h]
  rw [f1, f2];simp only [Option.bind_some];rw [cnt_step _ c2 (by omega), cnt_step' _ c2 (by omega)];simp only [Option.bind_some];rw [cnt_step _ c3 (by omega), cnt_step' _ c3 (by omega)];simp only [Option.bind_some];rw [cnt_step _ c4 (by omega), cnt_step' _ c4 (by omega)];simp only [Option.bind_some];revert a1 a2 a3 a4 b1 b2 b3 b4;generalize (if c1 > 0 then (1 : Int) else 0) = i1;generalize (if c2 > 0 then (1 : Int) else 0) = i2;generalize (if c3 > 0 then (1 : Int) else 0) = i3;generalize (if c4 > 0 then (1 : Int) else 0) = i4;generalize (if c1 < 0 then (1 : Int) else 0) = j1;generalize (if c2 < 0 then (1 : Int) else 0) = j2;generalize (if c3 < 0 then (1 : Int) else 0) = j3;generalize (if c4 < 0 then (1 : Int) else 0) = j4;rintro ⟨a1, a1', a1''⟩ ⟨a2, a2', a2''⟩ ⟨a3, a3', a3''⟩ ⟨a4, a4', a4''⟩ ⟨b1, b1', b1''⟩ ⟨b2, b2', b2''⟩ ⟨b3, b3', b3''⟩ ⟨b4, b4', b4''⟩;have g1 : (i1 + i2 + i3 + i4 < 4) ↔ (c1 <= 0 \/ c2 <= 0 \/ c3 <= 0 \/ c4 <= 0) := by
   constructor
   ·intro h;by_cases d1 : c1 <= 0
    ·exact .inl d1
    ·by_cases d2 : c2 <= 0
     ·exact .inr (.inl d2)
     ·by_cases d3 : c3 <= 0
      ·exact .inr (.inr (.inl d3))
      ·refine .inr (.inr (.inr ?_));have : ¬ i1 <= 0 := fun h => (a1''.2 h) (by omega)
       have : ¬ i2 <= 0 := fun h => (a2''.2 h) (by omega)
       have : ¬ i3 <= 0 := fun h => (a3''.2 h) (by omega)
       have : i4 <= 0 := by omega
       have := a4''.2 this;omega
   ·rintro (h | h | h | h)
    ·have := a1''.1 (by omega); omega
    ·have := a2''.1 (by omega); omega
    ·have := a3''.1 (by omega); omega
    ·have := a4''.1 (by omega); omega
  have g2 : (j1 + j2 + j3 + j4 < 4) ↔ (c1 >= 0 \/ c2 >= 0 \/ c3 >= 0 \/ c4 >= 0) := by
   constructor
   ·intro h;by_cases d1 : c1 >= 0
    ·exact .inl d1
    ·by_cases d2 : c2 >= 0
     ·exact .inr (.inl d2)
     ·by_cases d3 : c3 >= 0
      ·exact .inr (.inr (.inl d3))
      ·refine .inr (.inr (.inr ?_));have : ¬ j1 <= 0 := fun h => (b1''.2 h) (by omega)
       have : ¬ j2 <= 0 := fun h => (b2''.2 h) (by omega)
       have : ¬ j3 <= 0 := fun h => (b3''.2 h) (by omega)
       have : j4 <= 0 := by omega
       have := b4''.2 this;omega
   ·rintro (h | h | h | h)
    ·have := b1''.1 (by omega); omega
    ·have := b2''.1 (by omega); omega
    ·have := b3''.1 (by omega); omega
    ·have := b4''.1 (by omega); omega
  have e : (bif decide (i1 + i2 + i3 + i4 < 4) then some (decide (j1 + j2 + j3 + j4 < 4)) else some false) = some (decide ((i1 + i2 + i3 + i4 < 4) /\ (j1 + j2 + j3 + j4 < 4))) := by
   by_cases h : i1 + i2 + i3 + i4 < 4 <;> simp [h]
  rw [e];simp only [Option.bind_some, Option.some.injEq];rw [decide_eq_decide, g1, g2, and_comm]
theorem crs_flip (p q : Pc) (x y : Int) : crs q p x y = - crs p q x y := by
 unfold crs;obtain ⟨a, b, _⟩ := p;obtain ⟨c, d, _⟩ := q;simp only
 grind
theorem T_symm {z : Zn} {p q : Pc} : T z p q ↔ T z q p := by
 have key : ∀ {p q : Pc}, T z p q -> T z q p := by
  intro p q h;obtain ⟨h1, h2, h3⟩ := h;refine ⟨fun h => h1 ?_, ?_, ?_⟩
  ·unfold offB at h ⊢; omega
  ·simp only [crs_flip p q] <;> omega
  ·simp only [crs_flip p q] <;> omega
 exact ⟨key, key⟩
def inZ (z : Zn) (p : Pc) : Prop := (z.1 <= p.1 /\ p.1 <= z.2.1) /\ z.2.2.1 <= p.2.1 /\ p.2.1 <= z.2.2.2.1
theorem in_touch {z : Zn} {p q : Pc} (h : inZ z p) : T z p q := by
 obtain ⟨⟨a1, a2⟩, a3, a4⟩ := h;refine ⟨?_, ?_, ?_⟩
 ·unfold offB; omega
 ·unfold crs;by_cases d1 : q.1 - p.1 >= 0 <;> by_cases d2 : q.2.1 - p.2.1 >= 0
  ·have m1 := Int.mul_nonneg d1 (show 0 <= z.2.2.2.1 - p.2.1 by omega);have m2 := Int.mul_nonneg d2 (show 0 <= p.1 - z.1 by omega);have : (q.2.1 - p.2.1) * (z.1 - p.1) = - ((q.2.1 - p.2.1) * (p.1 - z.1)) := by rw [<- Int.mul_neg]; congr 1; omega
   omega
  ·have m1 := Int.mul_nonneg d1 (show 0 <= z.2.2.2.1 - p.2.1 by omega);have m2 := Int.mul_nonneg (show 0 <= -(q.2.1 - p.2.1) by omega) (show 0 <= z.2.1 - p.1 by omega);rw [Int.neg_mul] at m2;omega
  ·have m1 := Int.mul_nonneg (show 0 <= -(q.1 - p.1) by omega) (show 0 <= p.2.1 - z.2.2.1 by omega);have e1 : -(q.1 - p.1) * (p.2.1 - z.2.2.1) = (q.1 - p.1) * (z.2.2.1 - p.2.1) := by rw [Int.neg_mul, <- Int.mul_neg]; congr 1; omega
   have m2 := Int.mul_nonneg d2 (show 0 <= p.1 - z.1 by omega);have : (q.2.1 - p.2.1) * (z.1 - p.1) = - ((q.2.1 - p.2.1) * (p.1 - z.1)) := by rw [<- Int.mul_neg]; congr 1; omega
   omega
  ·have m1 := Int.mul_nonneg (show 0 <= -(q.1 - p.1) by omega) (show 0 <= p.2.1 - z.2.2.1 by omega);have e1 : -(q.1 - p.1) * (p.2.1 - z.2.2.1) = (q.1 - p.1) * (z.2.2.1 - p.2.1) := by rw [Int.neg_mul, <- Int.mul_neg]; congr 1; omega
   have m2 := Int.mul_nonneg (show 0 <= -(q.2.1 - p.2.1) by omega) (show 0 <= z.2.1 - p.1 by omega);rw [Int.neg_mul] at m2;omega
 ·unfold crs;by_cases d1 : q.1 - p.1 >= 0 <;> by_cases d2 : q.2.1 - p.2.1 >= 0
  ·have m1 := Int.mul_nonneg d1 (show 0 <= p.2.1 - z.2.2.1 by omega);have e1 : (q.1 - p.1) * (p.2.1 - z.2.2.1) = - ((q.1 - p.1) * (z.2.2.1 - p.2.1)) := by rw [<- Int.mul_neg]; congr 1; omega
   have m2 := Int.mul_nonneg d2 (show 0 <= z.2.1 - p.1 by omega);omega
  ·have m1 := Int.mul_nonneg d1 (show 0 <= p.2.1 - z.2.2.1 by omega);have e1 : (q.1 - p.1) * (p.2.1 - z.2.2.1) = - ((q.1 - p.1) * (z.2.2.1 - p.2.1)) := by rw [<- Int.mul_neg]; congr 1; omega
   have m2 := Int.mul_nonneg (show 0 <= -(q.2.1 - p.2.1) by omega) (show 0 <= p.1 - z.1 by omega);have e2 : -(q.2.1 - p.2.1) * (p.1 - z.1) = (q.2.1 - p.2.1) * (z.1 - p.1) := by rw [Int.neg_mul, <- Int.mul_neg]; congr 1; omega
   omega
  ·have m1 := Int.mul_nonneg (show 0 <= -(q.1 - p.1) by omega) (show 0 <= z.2.2.2.1 - p.2.1 by omega);rw [Int.neg_mul] at m1;have m2 := Int.mul_nonneg d2 (show 0 <= z.2.1 - p.1 by omega);omega
  ·have m1 := Int.mul_nonneg (show 0 <= -(q.1 - p.1) by omega) (show 0 <= z.2.2.2.1 - p.2.1 by omega);rw [Int.neg_mul] at m1;have m2 := Int.mul_nonneg (show 0 <= -(q.2.1 - p.2.1) by omega) (show 0 <= p.1 - z.1 by omega);have e2 : -(q.2.1 - p.2.1) * (p.1 - z.1) = (q.2.1 - p.2.1) * (z.1 - p.1) := by rw [Int.neg_mul, <- Int.mul_neg]; congr 1; omega
   omega
theorem touch_in {z : Zn} {p : Pc} (h : T z p p) : inZ z p := by
 have := h.1;unfold offB at this;unfold inZ;omega
end Go.Proofs.YtkcaaaiihhhnmaaGreat
end
section
namespace Go.Proofs.YtkcaaaiihhhnmaaGreat
open Go Go.Ab Go.Tx
def Hit (zs : List Zn) (ps : List Pc) : Prop := ∃ (i : Nat) (q p : Pc) (z : Zn), ps[i]? = some q /\ ps[i - 1]? = some p /\ z ∈ zs /\ T z p q
def HitS (zs : List Zn) (ps : List Pc) : Prop := (∃ p ∈ ps, ∃ z ∈ zs, inZ z p) \/ ∃ (i : Nat) (q p : Pc) (z : Zn), ps[i + 1]? = some q /\ ps[i]? = some p /\ z ∈ zs /\ T z p q
theorem hit_iff {zs : List Zn} {ps : List Pc} : Hit zs ps ↔ HitS zs ps := by
 constructor
 ·rintro ⟨i, q, p, z, h1, h2, h3, h4⟩;cases i with
  | zero =>
   rw [Nat.zero_sub, h1] at h2;cases h2;exact .inl ⟨q, List.mem_of_getElem? h1, z, h3, touch_in h4⟩
  | succ i => exact .inr ⟨i, q, p, z, h1, h2, h3, h4⟩
 ·rintro (⟨p, hp, z, hz, h⟩ | ⟨i, q, p, z, h1, h2, h3, h4⟩)
  ·obtain ⟨i, hi⟩ := List.mem_iff_getElem?.1 hp;obtain ⟨p', hp'⟩ : ∃ p', ps[i - 1]? = some p' := ⟨_, List.getElem?_eq_getElem (by have := len_lt hi; omega)⟩
   exact ⟨i, p, p', z, hi, hp', hz, T_symm.1 (in_touch h)⟩
  ·exact ⟨i + 1, q, p, z, h1, h2, h3, h4⟩
theorem hit_rev {zs : List Zn} {ps : List Pc} : Hit zs ps.reverse ↔ Hit zs ps := by
 have key : ∀ {ps : List Pc}, HitS zs ps -> HitS zs ps.reverse := by
  intro ps h;rcases h with ⟨p, hp, z, hz, h⟩ | ⟨i, q, p, z, h1, h2, h3, h4⟩
  ·exact .inl ⟨p, List.mem_reverse.2 hp, z, hz, h⟩
  ·have hlt := len_lt h1;refine .inr ⟨ps.length - 1 - (i + 1), p, q, z, ?_, ?_, h3, T_symm.1 h4⟩
   ·rw [List.getElem?_reverse (by omega), show ps.length - 1 - (ps.length - 1 - (i + 1) + 1) = i by omega]; exact h2
   ·rw [List.getElem?_reverse (by omega), show ps.length - 1 - (ps.length - 1 - (i + 1)) = i + 1 by omega]; exact h1
 rw [hit_iff, hit_iff];exact ⟨fun h => by have := key h; rwa [List.reverse_reverse] at this, key⟩
theorem hit_sub {zs zs' : List Zn} {ps : List Pc} (h : ∀ z ∈ zs', z ∈ zs) (hh : Hit zs' ps) : Hit zs ps := by
 obtain ⟨i, q, p, z, h1, h2, h3, h4⟩ := hh;exact ⟨i, q, p, z, h1, h2, h z h3, h4⟩
theorem hit_take {zs : List Zn} {ps : List Pc} {n : Nat} (hh : Hit zs (ps.take n)) : Hit zs ps := by
 obtain ⟨i, q, p, z, h1, h2, h3, h4⟩ := hh;rw [List.getElem?_take] at h1 h2;split at h1
 ·rw [if_pos (by omega)] at h2;exact ⟨i, q, p, z, h1, h2, h3, h4⟩
 ·cases h1
theorem zonesE_zero {zs : List Zn} {ps : List Pc} : zonesE zs ps = 0 ↔ zs.length <= 8 /\ ps.length <= 20 /\ (∀ z ∈ zs, zoneE z = 0) /\ ∀ p ∈ ps, pcP p := by
 unfold zonesE;have hp : fst0 (ps.map pcE) = 0 ↔ ∀ p ∈ ps, pcP p := by
  rw [fst0_all];have : ∀ p, pcE p = 0 ↔ pcP p := by intro p; unfold pcE; by_cases h : pcP p <;> simp [h]
  simp only [this]
 have hz : fst0 (zs.map zoneE) = 0 ↔ ∀ z ∈ zs, zoneE z = 0 := fst0_all;by_cases h1 : (zs.length : Int) > 8
 ·rw [if_pos h1];exact ⟨fun h => by omega, fun h => by omega⟩
 ·rw [if_neg h1];by_cases h2 : fst0 (zs.map zoneE) = 0
  ·rw [if_pos h2];by_cases h3 : (ps.length : Int) <= 20
   ·rw [if_pos h3, hp];exact ⟨fun h => ⟨by omega, by omega, hz.1 h2, h⟩, fun h => h.2.2.2⟩
   ·rw [if_neg h3];exact ⟨fun h => by omega, fun h => by omega⟩
  ·rw [if_neg h2];exact ⟨fun h => absurd h h2, fun h => absurd (hz.2 h.2.2.1) h2⟩
theorem zoneE_P {z : Zn} (h : zoneE z = 0) : zonP z /\ z.1 <= z.2.1 /\ z.2.2.1 <= z.2.2.2.1 := by
 unfold zoneE at h;split at h
 ·split at h
  ·rename_i h1 h2; exact ⟨h1, h2⟩
  ·omega
 ·omega
theorem prev_idx {ps : List Pc} {i : Nat} {p : Pc} (hi : i <= 1000000000) (h : ps[i - 1]? = some p) : idx ps (max (0 : Int) (w64 ((i : Int) - 1))) = some p := by
 rw [wq (by omega) (by omega)];have : max (0 : Int) ((i : Int) - 1) = ((i - 1 : Nat) : Int) := by omega
 rw [this]; exact idx_of h
open Classical in
theorem ClearOf_eq {zs : List Zn} {ps : List Pc} (hz : zs.length <= 1000) (hp : ps.length <= 1000) : safety_ClearOf zs ps = some (if zonesE zs ps = 0 then (if Hit zs ps then (0, 13) else ((ps.length : Int), 0)) else (0, zonesE zs ps)) := by
 by_cases hE : zonesE zs ps = 0
 ·obtain ⟨h8, h20, hzs, hps⟩ := zonesE_zero.1 hE;rw [if_pos hE];unfold safety_ClearOf;obtain ⟨r1, q1, q2⟩ := zones_each hz;obtain ⟨r2, q3, q4⟩ := pcs_each hp;have g1 : fst0 (zs.map zoneE) = 0 := fst0_all.2 hzs;have g2 : fst0 (ps.map pcE) = 0 := fst0_all.2 fun p h => by unfold pcE; rw [if_pos (hps p h)]
  rw [g1] at q2;rw [g2] at q4;have h8' : ¬ (zs.length : Int) > 8 := by omega
  have h20' : (ps.length : Int) <= 20 := by omega
  rw [q1, q3];simp only [h8', decide_false, cond_false, Option.bind_some, unl, h20', decide_true, if_true, q2];rw [fst_ _ (by simp)];simp only [fst0, if_true, Option.bind_some, decide_true, Bool.not_true, cond_false, q4];rw [for_upto ps.length _ (fun i => ∃ (q p : Pc) (z : Zn), ps[i]? = some q /\ ps[i - 1]? = some p /\ z ∈ zs /\ T z p q) ((0 : Int), (13 : Int)) (Hit zs ps) (by
   constructor
   ·rintro ⟨i, q, p, z, h1, h⟩; exact ⟨i, len_lt h1, q, p, z, h1, h⟩
   ·rintro ⟨i, _, q, p, z, h⟩; exact ⟨i, q, p, z, h⟩) (fun i hi => by
   obtain ⟨q, hq⟩ : ∃ q, ps[i]? = some q := ⟨_, List.getElem?_eq_getElem hi⟩
   obtain ⟨p, hpr⟩ : ∃ p, ps[i - 1]? = some p := ⟨_, List.getElem?_eq_getElem (by omega)⟩
   rw [idx_of hq, prev_idx (by omega) hpr];simp only [Option.bind_some];have P1 := hps p (List.mem_of_getElem? hpr);have P2 := hps q (List.mem_of_getElem? hq);have inner : Ok ((loopO (fun (s10 : Int) =>
          bif decide (s10 < (zs.length : Int)) then
           (idx zs s10).bind fun x11 =>
           (safety_touches x11 p q).bind fun x12 =>
           bif x12 then
            some (.inr (.inr s10))
           else
            some (.inl (w64 (s10 + 1)))
          else
           some (.inr (.inl ()))) 0).bind (Sum.elim (fun (p13 : Unit) =>
        some (-1)) some)) fun r : Int => decide (r >= 0) = zs.any fun z => decide (T z p q) := by
    have h := for_find zs (fun s10 => (idx zs s10).bind fun x11 =>
           (safety_touches x11 p q).bind fun x12 =>
           bif x12 then
            some (.inr (.inr s10))
           else
            some (.inl (w64 (s10 + 1)))) (fun i z => if T z p q then some (i : Int) else none) (fun k z hk => by
     have hlt := len_lt hk;rw [idx_of hk];simp only [Option.bind_some];rw [touches_eq (zoneE_P (hzs z (List.mem_of_getElem? hk))).1 P1 P2];simp only [Option.bind_some];by_cases h : T z p q
     ·simp [h, stp]
     ·simp only [h, decide_false, cond_false, if_false, stp]; rw [wq (by omega) (by omega)])
    rw [h, elim_toSum];cases hf : findI (fun (i : Nat) z => if T z p q then some (i : Int) else none) 0 zs with
    | none =>
     rw [findI_none] at hf;refine ⟨_, rfl, ?_⟩;have : zs.any (fun z => decide (T z p q)) = false := by
      rw [List.any_eq_false];intro z hz;obtain ⟨k, hk⟩ := List.mem_iff_getElem?.1 hz;have := hf k z hk;by_cases h : T z p q
      ·rw [if_pos h] at this; cases this
      ·simp [h]
     rw [this]; rfl
    | some r =>
     obtain ⟨k, z, h1, h2, _⟩ := findI_some hf;refine ⟨_, rfl, ?_⟩;split at h2
     ·rename_i ht;have : zs.any (fun z => decide (T z p q)) = true := List.any_eq_true.2 ⟨z, List.mem_of_getElem? h1, by simp [ht]⟩;rw [this];simp only [Option.some.injEq] at h2;simp <;> omega
     ·cases h2
   obtain ⟨r, e1, e2⟩ := inner;rw [e1];simp only [Option.bind_some, e2];by_cases h : ∃ (q p : Pc) (z : Zn), ps[i]? = some q /\ ps[i - 1]? = some p /\ z ∈ zs /\ T z p q
   ·rw [if_pos h];obtain ⟨q', p', z, a1, a2, a3, a4⟩ := h;rw [hq] at a1; cases a1;rw [hpr] at a2; cases a2;have : zs.any (fun z => decide (T z p q)) = true := List.any_eq_true.2 ⟨z, a3, by simp [a4]⟩;rw [this]; rfl
   ·rw [if_neg h];have : zs.any (fun z => decide (T z p q)) = false := by
     rw [List.any_eq_false];intro z hz;simp only [decide_eq_true_eq];exact fun ht => h ⟨q, p, z, hq, hpr, hz, ht⟩
    rw [this];simp only [cond_false];rw [wq (by omega) (by omega)])]
  by_cases h : Hit zs ps <;> simp [h]
 ·rw [if_neg hE];unfold safety_ClearOf;by_cases h1 : (zs.length : Int) > 8
  ·have : zonesE zs ps = 8 := by unfold zonesE; rw [if_pos h1]
   rw [this, decide_eq_true h1]; rfl
  ·obtain ⟨r1, q1, q2⟩ := zones_each hz;obtain ⟨r2, q3, q4⟩ := pcs_each hp;rw [q1, q3];simp only [h1, decide_false, cond_false, Option.bind_some, unl, q2];rw [fst_ _ (by simp)];simp only [fst0, Option.bind_some];unfold zonesE at hE ⊢;rw [if_neg h1] at hE ⊢;by_cases h2 : fst0 (zs.map zoneE) = 0
   ·rw [if_pos h2] at hE ⊢;by_cases h3 : (ps.length : Int) <= 20
    ·rw [if_pos h3] at hE ⊢;simp only [h2, h3, decide_true, if_true, Bool.not_true, cond_false, q4, hE, decide_false, Bool.not_false, cond_true]
    ·rw [if_neg h3];simp [h2, h3]
   ·rw [if_neg h2];simp [h2]
theorem fst0_find {α : Type} (e : α -> Int) : ∀ (l : List α) (k : Nat), findI (fun _ a => if e a = 0 then none else some (e a)) k l = if fst0 (l.map e) = 0 then none else some (fst0 (l.map e))
 | [], k => by simp [findI, fst0]
 | a :: l, k => by
  simp only [findI, List.map_cons, fst0];by_cases h : e a = 0
  ·simp only [h, if_true]; exact fst0_find e l (k + 1)
  ·simp [h]
theorem four_bits (a b c d : Prop) [Decidable a] [Decidable b] [Decidable c] [Decidable d] : (bif !decide a then some true else bif !decide b then some true else bif !decide c then some true else some (!decide d)) = some (!decide (a /\ b /\ c /\ d)) := by
 by_cases h1 : a <;> by_cases h2 : b <;> by_cases h3 : c <;> by_cases h4 : d <;> simp [h1, h2, h3, h4]
theorem ZonesErr_eq (zs : List Zn) (ps : List Pc) : ref09_ZonesErr zs ps = some (zonesE zs ps) := by
 unfold ref09_ZonesErr ref09_isPlace zonesE;by_cases h1 : (zs.length : Int) > 8
 ·rw [decide_eq_true h1, if_pos h1]; rfl
 ·rw [if_neg h1];simp only [h1, decide_false, cond_false, Wit, Option.bind_some];rw [for_find zs _ (fun _ z => if zoneE z = 0 then none else some (zoneE z)) (fun i z hi => by
   have hlt := len_lt hi;rw [idx_of hi];simp only [Option.bind_some];have c : (bif !decide (-1000 <= z.1 /\ z.1 <= 1000) then some true else bif !decide (-1000 <= z.2.1 /\ z.2.1 <= 1000) then some true else bif !decide (-1000 <= z.2.2.1 /\ z.2.2.1 <= 1000) then some true else some (!decide (-1000 <= z.2.2.2.1 /\ z.2.2.2.1 <= 1000))) = some (!decide (zonP z)) := by
    exact (four_bits _ _ _ _).trans (congrArg (fun b => some (!b)) (decide_eq_decide.2 Iff.rfl))
   rw [c];simp only [Option.bind_some];unfold zoneE;by_cases g : zonP z
   ·simp only [g, decide_true, Bool.not_true, cond_false, if_true];by_cases g1 : z.1 > z.2.1
    ·have : ¬ (z.1 <= z.2.1 /\ z.2.2.1 <= z.2.2.2.1) := by omega
     rw [decide_eq_true g1, if_neg this]; rfl
    ·by_cases g2 : z.2.2.1 > z.2.2.2.1
     ·have : ¬ (z.1 <= z.2.1 /\ z.2.2.1 <= z.2.2.2.1) := by omega
      rw [decide_eq_false g1, decide_eq_true g2, if_neg this]; rfl
     ·have : (z.1 <= z.2.1 /\ z.2.2.1 <= z.2.2.2.1) := by omega
      rw [decide_eq_false g1, decide_eq_false g2, if_pos this];simp only [cond_false, Option.bind_some, if_true, stp];rw [wq (by omega) (by omega)]
   ·simp only [g, decide_false, Bool.not_false, cond_true, if_false]; rfl), elim_toSum, fst0_find]
  by_cases h2 : fst0 (zs.map zoneE) = 0
  ·rw [if_pos h2, if_pos h2];simp only
   by_cases h3 : (ps.length : Int) <= 20
   ·have h3' : ¬ (ps.length : Int) > 20 := by omega
    rw [if_pos h3, decide_eq_false h3'];simp only [cond_false];rw [for_find ps _ (fun _ p => if pcE p = 0 then none else some (pcE p)) (fun i p hi => by
     have hlt := len_lt hi;simp only [idx_of hi, Option.bind_some];have c : (bif !decide (-1000 <= p.1 /\ p.1 <= 1000) then some true else some (!decide (-1000 <= p.2.1 /\ p.2.1 <= 1000))) = some (!decide (pcP p)) := by
      unfold pcP isP;by_cases g1 : -1000 <= p.1 /\ p.1 <= 1000 <;> by_cases g2 : -1000 <= p.2.1 /\ p.2.1 <= 1000 <;> simp [g1, g2]
     rw [c];simp only [Option.bind_some];unfold pcE;by_cases g : pcP p
     ·simp only [g, decide_true, Bool.not_true, cond_false, if_true, stp]; rw [wq (by omega) (by omega)]
     ·simp only [g, decide_false, Bool.not_false, cond_true, if_false]; rfl), elim_toSum, fst0_find]
    by_cases h4 : fst0 (ps.map pcE) = 0 <;> simp [h4]
   ·have h3' : (ps.length : Int) > 20 := by omega
    rw [if_neg h3, decide_eq_true h3']; rfl
  ·rw [if_neg h2, if_neg h2]
open Classical in
theorem Clear_eq {zs : List Zn} {ps : List Pc} (hE : zonesE zs ps = 0) : ref09_Clear zs ps = some (!decide (Hit zs ps)) := by
 obtain ⟨h8, h20, hzs, hps⟩ := zonesE_zero.1 hE;unfold ref09_Clear;rw [for_upto zs.length _ (fun k => ∃ z, zs[k]? = some z /\ ∃ (i : Nat) (q p : Pc), ps[i]? = some q /\ ps[i - 1]? = some p /\ T z p q) false (Hit zs ps) (by
  constructor
  ·rintro ⟨i, q, p, z, h1, h2, h3, h4⟩;obtain ⟨k, hk⟩ := List.mem_iff_getElem?.1 h3;exact ⟨k, len_lt hk, z, hk, i, q, p, h1, h2, h4⟩
  ·rintro ⟨k, _, z, hk, i, q, p, h1, h2, h4⟩;exact ⟨i, q, p, z, h1, h2, List.mem_of_getElem? hk, h4⟩) (fun k hk => by
  obtain ⟨z, hz⟩ : ∃ z, zs[k]? = some z := ⟨_, List.getElem?_eq_getElem hk⟩
  have Z1 := (zoneE_P (hzs z (List.mem_of_getElem? hz))).1;rw [for_upto ps.length _ (fun i => ∃ (q p : Pc), ps[i]? = some q /\ ps[i - 1]? = some p /\ T z p q) (.inr (.inr false)) (∃ (i : Nat) (q p : Pc), ps[i]? = some q /\ ps[i - 1]? = some p /\ T z p q) (by
   constructor
   ·rintro ⟨i, q, p, h1, h⟩; exact ⟨i, len_lt h1, q, p, h1, h⟩
   ·rintro ⟨i, _, q, p, h⟩; exact ⟨i, q, p, h⟩) (fun i hi => by
   obtain ⟨q, hq⟩ : ∃ q, ps[i]? = some q := ⟨_, List.getElem?_eq_getElem hi⟩
   obtain ⟨p, hpr⟩ : ∃ p, ps[i - 1]? = some p := ⟨_, List.getElem?_eq_getElem (by omega)⟩
   have P1 := hps p (List.mem_of_getElem? hpr);have P2 := hps q (List.mem_of_getElem? hq);rw [idx_of hz, idx_of hq, prev_idx (by omega) hpr];simp only [Option.bind_some];rw [Touches_eq Z1 P2 P1];simp only [Option.bind_some];by_cases h : ∃ (q p : Pc), ps[i]? = some q /\ ps[i - 1]? = some p /\ T z p q
   ·rw [if_pos h];obtain ⟨q', p', a1, a2, a4⟩ := h;rw [hq] at a1; cases a1;rw [hpr] at a2; cases a2;rw [decide_eq_true (T_symm.1 a4)]; rfl
   ·rw [if_neg h];have : ¬ T z q p := fun ht => h ⟨q, p, hq, hpr, T_symm.1 ht⟩;rw [decide_eq_false this];simp only [cond_false];rw [wq (by omega) (by omega)])]
  by_cases h : ∃ (i : Nat) (q p : Pc), ps[i]? = some q /\ ps[i - 1]? = some p /\ T z p q
  ·have h' : ∃ z, zs[k]? = some z /\ ∃ (i : Nat) (q p : Pc), ps[i]? = some q /\ ps[i - 1]? = some p /\ T z p q := ⟨z, hz, h⟩
   rw [if_pos h, if_pos h']; rfl
  ·have h' : ¬ ∃ z, zs[k]? = some z /\ ∃ (i : Nat) (q p : Pc), ps[i]? = some q /\ ps[i - 1]? = some p /\ T z p q := by
    rintro ⟨z', hz', h'⟩;rw [hz] at hz'; cases hz';exact h h'
   rw [if_neg h, if_neg h'];simp only [Option.bind_some, Sum.elim_inl];rw [wq (by omega) (by omega)])]
 by_cases h : Hit zs ps <;> simp [h]
theorem turnP_ok (l : List Pc) (hl : l.length <= 1000) :
  loopO (fun (s14 : ((List (Int × Int × Unit)) × Int)) =>
      bif decide (s14.2 >= 0) then
       (idx l s14.2).bind fun x15 =>
       (app s14.1 ([x15])).bind fun x16 =>
       some (.inl (x16, w64 (s14.2 - 1)))
      else
       some (.inr s14.1)) ([], w64 ((l.length : Int) - 1)) = some l.reverse := by
 rw [wq (by omega) (by omega)];refine Ok.eq (loop_up l.length (fun k (st : List Pc × Int) => st.2 = (l.length : Int) - 1 - (k : Int) /\ st.1 = l.reverse.take k) _ ⟨by simp, rfl⟩ ?_);rintro k ⟨a, i⟩ hk ⟨e1, e2⟩;simp only at e1 e2;have ha : a.length <= 1000 := by rw [e2, List.length_take, List.length_reverse]; omega
 by_cases hlt : k < l.length
 ·have h0 : decide (i >= 0) = true := by simp <;> omega
  have hi : i = ((l.length - 1 - k : Nat) : Int) := by omega
  obtain ⟨x, hx⟩ : ∃ x, l[l.length - 1 - k]? = some x := ⟨_, List.getElem?_eq_getElem (by omega)⟩
  have hxr : l.reverse[k]? = some x := by rw [List.getElem?_reverse hlt]; exact hx
  have hn : l.reverse.take (k + 1) = l.reverse.take k ++ [x] := by rw [take_next x (len_lt hxr), getD_at hxr]
  simp only [h0, cond_true];rw [hi, idx_of hx];simp only [Option.bind_some];rw [app_one (by omega)];simp only [Option.bind_some];rw [rnd_inl];refine ⟨hlt, ?_, ?_⟩
  ·simp only; rw [wq (by omega) (by omega)]; omega
  ·simp only; rw [hn, e2]
 ·have : k = l.length := by omega
  subst this;have h0 : decide (i >= 0) = false := by simp <;> omega
  simp only [h0, cond_false];rw [rnd_inr, e2, List.take_of_length_le (by simp)]
theorem CopyZones_eq {zs : List Zn} (h : zs.length <= 1000) : ref09_CopyZones zs = some zs := by
 unfold ref09_CopyZones; rw [app_nil (by omega)]; rfl
theorem CopyPath_eq {ps : List Pc} (h : ps.length <= 1000) : ref09_CopyPath ps = some ps := by
 unfold ref09_CopyPath; rw [app_nil (by omega)]; rfl
theorem SafetyZones_all (zs : List Zn) (ps : List Pc) (d : Int) : law09_SafetyZones zs ps d = some true := by
 unfold law09_SafetyZones law09_awake;simp only [Option.bind_some, Bool.not_true, cond_false];by_cases h10 : (zs.length : Int) > 10
 ·simp [h10]
 ·by_cases h22 : (ps.length : Int) > 22
  ·simp [h10, h22]
  ·have Z1 : zs.length <= 1000 := by omega
   have Z2 : ps.length <= 1000 := by omega
   simp only [h10, h22, decide_false, cond_false, Option.bind_some, CopyZones_eq Z1, CopyPath_eq Z2, ZonesErr_eq];rw [ClearOf_eq Z1 Z2];by_cases hE : zonesE zs ps = 0
   ·obtain ⟨h8, h20, hzs, hps⟩ := zonesE_zero.1 hE;have hEr : zonesE zs ps.reverse = 0 := zonesE_zero.2 ⟨h8, by simpa using h20, hzs, fun p hp => hps p (List.mem_reverse.1 hp)⟩;simp only [hE, if_true, decide_true, Bool.not_true, cond_false, Option.bind_some, Clear_eq hE, turnP_ok ps Z2];rw [ClearOf_eq Z1 (by simpa using Z2)];rw [if_pos hEr];simp only [Option.bind_some];by_cases hH : Hit zs ps
    ·rw [if_pos (hit_rev.2 hH), if_pos hH];simp [hH]
    ·rw [if_neg (fun h => hH (hit_rev.1 h)), if_neg hH];have hin : ∀ z ∈ zs, ∀ p ∈ ps, ¬ inZ z p := fun z hz p hp h => hH (hit_iff.2 (.inl ⟨p, hp, z, hz, h⟩));simp only [hH, if_false, decide_false, Bool.not_false, cond_true, decide_true, Bool.not_true, cond_false, Option.bind_some, Sum.elim_inl, List.length_reverse];rw [for_upto zs.length _ (fun _ => False) false False (by simp) (fun k hk => by
      obtain ⟨z, hz⟩ : ∃ z, zs[k]? = some z := ⟨_, List.getElem?_eq_getElem hk⟩
      rw [for_upto ps.length _ (fun _ => False) (.inr (.inr false)) False (by simp) (fun i hi => by
       obtain ⟨p, hp⟩ : ∃ p, ps[i]? = some p := ⟨_, List.getElem?_eq_getElem hi⟩
       simp only [idx_of hz, idx_of hp, Option.bind_some, Wit];have hn := hin z (List.mem_of_getElem? hz) p (List.mem_of_getElem? hp);have c : (bif decide (z.1 <= p.1 /\ p.1 <= z.2.1) then some (decide (z.2.2.1 <= p.2.1 /\ p.2.1 <= z.2.2.2.1)) else some false) = some false := by
        by_cases a1 : z.1 <= p.1 /\ p.1 <= z.2.1
        ·by_cases a2 : z.2.2.1 <= p.2.1 /\ p.2.1 <= z.2.2.2.1
         ·exact absurd ⟨a1, a2⟩ hn
         ·rw [decide_eq_true a1, decide_eq_false a2]; rfl
        ·rw [decide_eq_false a1]; rfl
       rw [c];simp only [Option.bind_some, cond_false, if_false];rw [wq (by omega) (by omega)])]
      simp only [if_false, Option.bind_some, Sum.elim_inl];rw [wq (by omega) (by omega)])]
     simp only [if_false, Option.bind_some, Sum.elim_inl];by_cases hz0 : (zs.length : Int) = 0
     ·simp [hz0]
     ·by_cases hp0 : (ps.length : Int) = 0
      ·simp [hz0, hp0]
      ·simp only [hz0, hp0, decide_false, cond_false, Option.bind_some];obtain ⟨m, w1, w2, w3⟩ := Mod_eq (a := d) (b := (zs.length : Int)) (by omega);obtain ⟨c, rfl⟩ : ∃ c : Nat, m = c := ⟨m.toNat, by omega⟩
       rw [w1];simp only [Option.bind_some];rw [wq (n := (c : Int) + 1) (by omega) (by omega), wq (n := (ps.length : Int) - 1) (by omega) (by omega), slc_in ⟨by omega, by omega, by omega⟩, slc_in ⟨by omega, by omega, by omega⟩, slc_in ⟨by omega, by omega, by omega⟩];have f1 : ((zs.take ((c : Int)).toNat).drop (0 : Int).toNat) = zs.take c := by simp
       have f2 : ((zs.take ((zs.length : Int)).toNat).drop ((c : Int) + 1).toNat) = zs.drop (c + 1) := by
        rw [Int.toNat_natCast, List.take_length];congr 1
       have f3 : ((ps.take ((ps.length : Int) - 1).toNat).drop (0 : Int).toNat) = ps.take (ps.length - 1) := by
        rw [Int.toNat_zero, List.drop_zero];congr 1; omega
       rw [f1, f2, f3];simp only [Option.bind_some];rw [CopyZones_eq (by rw [List.length_take]; omega), CopyPath_eq (by rw [List.length_take]; omega)];simp only [Option.bind_some];rw [app_in (by rw [List.length_take, List.length_drop]; omega)];have f4 : zs.take c ++ zs.drop (c + 1) = zs.eraseIdx c := (List.eraseIdx_eq_take_drop_succ zs c).symm;rw [f4];have hsub := List.eraseIdx_sublist zs c;have hle := hsub.length_le;simp only [Option.bind_some];have E1 : zonesE (zs.eraseIdx c) ps = 0 := zonesE_zero.2 ⟨by omega, h20, fun z hz => hzs z (hsub.subset hz), hps⟩;have E2 : zonesE zs (ps.take (ps.length - 1)) = 0 := zonesE_zero.2 ⟨h8, by rw [List.length_take]; omega, hzs, fun p hp => hps p (List.mem_of_mem_take hp)⟩;have N1 : ¬ Hit (zs.eraseIdx c) ps := fun h => hH (hit_sub (fun z hz => hsub.subset hz) h);have N2 : ¬ Hit zs (ps.take (ps.length - 1)) := fun h => hH (hit_take h);rw [ClearOf_eq (by omega) Z2, ClearOf_eq Z1 (by rw [List.length_take]; omega)];simp [E1, E2, N1, N2]
   ·simp [hE]
theorem law09_SafetyZones_true (x : denP ([(.sl (.pair I (.pair I (.pair I (.pair I .unit))))), (.sl (.pair I (.pair I .unit))), I].map Pm.ty)) (hx : RngP maxLen [(.sl (.pair I (.pair I (.pair I (.pair I .unit))))), (.sl (.pair I (.pair I .unit))), I] x) : e_law09_SafetyZones.F x = some true :=
 SafetyZones_all x.1 x.2.1 x.2.2
end Go.Proofs.YtkcaaaiihhhnmaaGreat
end
section
namespace Go.Proofs.YtkcaaaiihhhnmaaGreat.safetyZones
open Go Go.Ab Go.Tx Go.ChangeShapes Go.WideShapes Go.ChangeAt Go.RowKit
theorem hlib : ∀ g h args r, Lb g = some h -> h args = some r -> CallOk Tryz.prog g args [] r [] := fun g h args r hg hr => by
 unfold Lb at hg;split at hg
 ·rename_i e;subst e;cases hg;cases args with
  | nil => cases hr; exact awake_ok
  | cons a l => cases hr
 ·cases hg
set_option maxRecDepth 100000 in
theorem contract (H : Type) (enc : TypeId × Value -> H) (W : World) (base : Nat) (args : Array Value) (ds gs : List (DataW H)) (before : List MemPlace)
  (hval : ∀ (j : Nat) t v, Tryz.f3.params[j]? = some t -> args[j]? = some v -> Value.okWide Tryz.prog W .any base t v)
  (hW : DataW.Whole enc Tryz.prog Tryz.f3.params.toList Rows.safetyZonesSpec.vars false W args.toList ds gs before) :
  Calls Tryz.prog 3 args W fun e W' => ∃ v, e = .returned v /\ Rows.safetyZonesSpec.post enc Tryz.prog Tryz.f3 false true false false W args v W' :=
 law_contract (τs := [(.sl (.pair I (.pair I (.pair I (.pair I .unit))))), (.sl (.pair I (.pair I .unit))), I]) (ts := [22, 23, 3]) (tb := 4) (F := e_law09_SafetyZones.F) follows hname hlib laid_out Tryz.func3 (by kernel_rfl) (by kernel_rfl) (by kernel_rfl) (by kernel_rfl) (by kernel_rfl) (by kernel_rfl) Tryz.underlying4 o_law09_SafetyZones law09_SafetyZones_true rfl
  (fun H ds h => by
   match ds, h with
   | [d1, d2, d3], _ => rfl) H enc W base args ds gs before hval hW
set_option maxRecDepth 100000 in
theorem lifted (os : Os) (started : os.Started) (H : Type) (enc : TypeId × Value -> H) :
  ReturnsInHanded {} Tryz.checked os 3 .any (Rows.safetyZonesSpec.pre6 enc Tryz.prog Tryz.f3 Rows.safetyZonesRow.domain false) (Rows.safetyZonesSpec.post enc Tryz.prog Tryz.f3 false true false false) := by
 refine returnsInHanded_of_change (C := Tryz.checked) own started (by kernel_rfl) Tryz.func3
  (ChangeSpec.witness6 (enc := enc) (C := Tryz.checked) false ⟨#[], #[.slice none 0 0, .slice none 0 0, .int .i64 0], []⟩ 8 (by kernel_rfl) (by kernel_rfl) (by kernel_rfl) (by kernel_rfl)) ?_
 intro W base args ds gs before hval hW _ _;exact contract H enc W base args ds gs before hval hW
theorem proved : Rows.SafetyZonesSaid :=
 OpenClaim.holds_of_wide 3 Tryz.f3 rfl rfl rfl rfl rfl rfl rfl ⟨rfl, rfl, rfl, rfl, rfl⟩ rfl rfl rfl rfl rfl (by kernel_rfl) Tryz.func3 (by kernel_rfl)
  (of_decide_eq_true (by kernel_rfl)) (by unfold Func.isWrapper; first | (rw [if_pos (by decide +kernel)]; kernel_rfl) | (rw [if_neg (by decide +kernel)]; exact ⟨rfl, rfl⟩))
  (fun os started H enc _ => lifted os started H enc)
end Go.Proofs.YtkcaaaiihhhnmaaGreat.safetyZones
end
