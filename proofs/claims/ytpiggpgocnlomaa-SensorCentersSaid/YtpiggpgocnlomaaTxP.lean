/-
  A LAW's CONTRACT: where the typed law answers true for all typed arguments in range, the law's call returns true and leaves all as it was.
-/
import Derived.Test.YtpiggpgocnlomaaTxO
set_option linter.unusedVariables false
namespace Go.Tx
open Go Go.Ab Go.RowKit Go.ChangeShapes Go.WideShapes Go.Deep
variable {H : Type} {enc : TypeId × Value → H} {P : Program} {w : World} {base : Nat} {held : Bool}

theorem slices_elTy {d : Nat} {e : TypeId} {cs1 cs : List Ty} (hc : cellsTy P d e = some cs1) (h : (match cellsTy P d e, P.underlying e with
      | some cs, some (.struct _) => some [Ty.sl (cs.foldr .pair .unit)]
      | some cs, some (.array ..) => some [.sl (cs.foldr .pair .unit)]
      | some [τ], _ => some [.sl τ]
      | _, _ => none) = some cs) : ∃ τ, cs = [.sl τ] ∧ elTy P e cs1 = some τ := by
  rw [hc] at h
  unfold elTy
  cases hu : P.underlying e with
  | none => rw [hu] at h; simp only at h ⊢; split at h <;> simp_all
  | some dd =>
    rw [hu] at h
    cases dd <;> simp only at h ⊢ <;> first | (simp only [Option.some.injEq] at h; exact ⟨_, h.symm, rfl⟩) | (split at h <;> simp_all)

theorem rep_empty {X : Cx} : Rep w X (.sl .shared false []) (.slice none 0 0) [] := by simp [Rep, ptrsL]
theorem rep_weird {X : Cx} (a : Addr) : Rep w X (.sl .shared false []) (.slice (some a) 0 0) [] := by simp [Rep, ptrsL]
theorem open_cells (hl : laidOutB P = true) {N : Nat} {S : DataW H → Prop} (hS : Sm N S) : ∀ (d : Nat) (t : TypeId) (cs : List Ty), cellsTy P d t = some cs → okT P d t = true → ∀ (fuel : Nat) (vals : List Value) (x : DataW H × List MemPlace), S x.1 →
    DataW.trod enc P w base (fun _ => true) held fuel t vals = some x → All2 (CellOk N w) cs vals
  | 0, t, cs, hc, _, fuel, vals, x, hx, h => by simp [cellsTy] at hc
  | d + 1, t, cs, hc, hok, fuel, vals, x, hx, h => by
    simp only [cellsTy] at hc
    simp only [okT, Bool.and_eq_true, decide_eq_true_eq] at hok
    split at hc
    · rename_i k hu
      cases hc
      obtain ⟨n, rfl, rfl, hwf⟩ := DataW.trod_int hu h
      refine .cons ⟨n, .val (.int k n), ?_, by simp [RTy], by simp [Rep]⟩ .nil
      simp only [Rng]
      simp only [Lit.wf, Bool.and_eq_true, decide_eq_true_eq] at hwf
      exact hwf
    · rename_i hu
      cases hc
      obtain ⟨b, rfl, rfl⟩ := DataW.trod_bool hu h
      exact .cons ⟨b, .val (.bool b), trivial, by simp [RTy], by simp [Rep]⟩ .nil
    · rename_i hu
      cases hc
      obtain ⟨s, rfl, rfl, hs⟩ := DataW.trod_string hu h
      have hsl : s.data.toList.length ≤ maxLen := by
        have e : s.data.toList.length = s.size := Array.length_toList
        rw [e]; exact hs
      exact .cons ⟨s.data.toList, .val (.string s), hS.str _ hx hsl, by simp [RTy], by simp [Rep]⟩ .nil
    · rename_i e hu
      obtain ⟨ht, hoe⟩ := hok
      rw [hu] at hoe
      simp only [Bool.and_eq_true, decide_eq_true_eq, beq_iff_eq] at hoe
      cases hce : cellsTy P d e with
      | none => rw [hce] at hc; simp at hc
      | some cs1 =>
        obtain ⟨τ, rfl, hτ⟩ := slices_elTy hce (by rw [hce]; rw [hce] at hc; exact hc)
        obtain ⟨hel, hnc⟩ := elTy_props hce hτ (cellsTy_ones d e cs1 hce)
        rcases open_slice hu h with ⟨rfl, rfl⟩ | ⟨a, len, cap, m, n, D, Pl, rfl, hb, hlc, hcm, hm, rfl, hx'⟩
        · exact .cons ⟨[], .sl .shared false [], ⟨Nat.zero_le _, by simp⟩, by simp only [RTy]; exact ⟨_, _, [], rfl, flr_of rfl (by simp) (fun _ => rfl), .nil⟩, rep_empty⟩ .nil
        · simp only [if_true] at hm
          subst hm
          obtain ⟨hN, hSe⟩ := hS.slice _ _ hx (by simp; omega)
          by_cases hcap : m = 0
          · subst hcap
            have hlen : len = 0 := by omega
            subst hlen
            exact .cons ⟨[], .sl .shared false [], ⟨Nat.zero_le _, by simp⟩, by simp only [RTy]; exact ⟨_, _, [], rfl, flr_of rfl (by simp) (fun _ => rfl), .nil⟩, rep_weird a⟩ .nil
          · have hspot : a.spot = none := by
              obtain ⟨cs', hcs', _⟩ := hx' 0 (by omega)
              obtain ⟨_, hl1, hc1⟩ := World.cells?_some hcs'
              have h0 := hc1 0 (by omega)
              simp only [Nat.zero_mul] at h0
              have : ∃ v0, cs'[0]? = some v0 := ⟨cs'[0]'(by omega), List.getElem?_eq_getElem (by omega)⟩
              obtain ⟨v0, hv0⟩ := this
              rw [hv0] at h0
              have := (cell_block h0).1
              simpa [Addr.add] using this
            obtain ⟨b, off, spot⟩ := a
            simp only at hspot
            subst hspot
            have hsz : ∀ i, i < m → ∃ vals : List Value, vals.length = P.cellsOf e ∧ (∀ j, j < P.cellsOf e → w.cell? ⟨b, off + i * P.cellsOf e + j, none⟩ = vals[j]?) ∧
                (i < len → ∃ (y : τ.den) (u : V) (v : Value), Rng N τ y ∧ RTy τ 1000 y u ∧ Rep w (cx0 w) u v [] ∧ v.cells.toList = vals) := fun i hi => by
              obtain ⟨cs', hcs', htr⟩ := hx' i hi
              obtain ⟨_, hl1, hc1⟩ := World.cells?_some hcs'
              refine ⟨cs', hl1, fun j hj => ?_, fun hil => ?_⟩
              · rw [← hc1 j hj, Addr.add_lit, Addr.add_lit]
              · have hSi : S (D i) := hSe _ (List.mem_map.2 ⟨i, List.mem_range.2 hil, rfl⟩)
                exact elem_ok hce hτ (open_cells hl hS d e cs1 hce hoe.2 n cs' _ hSi htr)
            have hn : τ.ncells = P.cellsOf e := by
              have := hoe.1.2
              rw [hce] at this
              simp only [Option.map_some, Option.some.injEq] at this
              rw [hnc, this]
            obtain ⟨l, us, h1, h2, h3, h4⟩ := slice_rep (Nat.pos_of_ne_zero hoe.1.1) hlc hcap hel hn hsz
            exact .cons ⟨l, .sl .shared false us, ⟨by rw [h1]; simpa using hN, h2⟩, by simp only [RTy]; exact ⟨_, _, us, rfl, flr_of rfl (by simp) (fun _ => rfl), h3⟩, h4⟩ .nil
    · rename_i fields hu
      obtain ⟨ht, hoe⟩ := hok
      rw [hu] at hoe
      simp only [List.all_eq_true] at hoe
      obtain ⟨css, hcss, rfl⟩ := Option.map_eq_some_iff.1 hc
      obtain ⟨hl1, hget⟩ := mapM_get hcss
      obtain ⟨xs, n, _, rfl, hvl, hxl, hxs⟩ := DataW.trod_struct hu h
      obtain ⟨_, hsum, hoff⟩ := kid_struct hl ht hu
      refine glue css (fields.toList.map fun f => P.cellsOf f.type) vals (by simp [hl1]) (by rw [hvl, hsum]) fun j c s hcj hsj => ?_
      rw [List.getElem?_map] at hsj
      obtain ⟨fd, hfd, rfl⟩ := Option.map_eq_some_iff.1 hsj
      obtain ⟨c', hc', hg⟩ := hget j fd hfd
      rw [hcj] at hc'; cases hc'
      have hx1 := hxs j fd (by simpa using hfd)
      rw [hoff j fd hfd, List.map_take] at hx1
      have hj : j < xs.length := by rw [hxl]; have := (List.getElem?_eq_some_iff.1 hfd).1; simpa using this
      rw [List.getElem?_eq_getElem hj] at hx1
      exact open_cells hl hS d fd.type c hg (hoe fd (List.mem_of_getElem? hfd)) n _ _ (hS.agg _ hx _ (List.mem_map.2 ⟨xs[j], List.getElem_mem hj, rfl⟩)) hx1
    · rename_i n' e hu
      obtain ⟨ht, hoe⟩ := hok
      rw [hu] at hoe
      simp only at hoe
      obtain ⟨cs1, hce, rfl⟩ := Option.map_eq_some_iff.1 hc
      obtain ⟨_, hsum⟩ := kid_array hl ht hu
      cases fuel with
      | zero => simp [DataW.trod] at h
      | succ fuel =>
        unfold DataW.trod at h
        rw [hu] at h
        simp only at h
        split at h
        · rename_i hvl
          obtain ⟨xs, hxs, rfl⟩ := Option.map_eq_some_iff.1 h
          obtain ⟨hxl, hget⟩ := mapM_get hxs
          refine glue _ (List.replicate n' (P.cellsOf e)) vals (by simp) (by rw [hvl, hsum]; simp) fun j c s hcj hsj => ?_
          have hjn : j < n' := by have := (List.getElem?_eq_some_iff.1 hcj).1; simpa using this
          rw [List.getElem?_replicate, if_pos hjn] at hcj hsj
          cases hcj; cases hsj
          obtain ⟨b, hb, hg⟩ := hget j j (by simp [hjn])
          have htk : ((List.replicate n' (P.cellsOf e)).take j).sum = j * P.cellsOf e := by
            rw [List.take_replicate]; simp [Nat.min_eq_left (Nat.le_of_lt hjn)]
          rw [htk]
          exact open_cells hl hS d e cs1 hce hoe fuel _ _ (hS.agg _ hx _ (List.mem_map.2 ⟨b, List.mem_of_getElem? hb, rfl⟩)) hg
        · cases h
    · cases hc
/-- an argument -/
theorem open_arg (hl : laidOutB P = true) {N : Nat} {S : DataW H → Prop} (hS : Sm N S) {t : TypeId} {τ : Ty} (hτ : tyOf P t = some τ) (hok : okT P 10 t = true) {v : Value} {d : DataW H} {ps : List MemPlace} {b0 : Nat} (hval : Value.okWide P w .any b0 t v)
    (h : DataW.Trod enc P w base (fun _ => true) held t v d ps) (hd : S d) : CellOk N w τ v := by
  obtain ⟨fuel, hf⟩ := h
  unfold tyOf at hτ
  split at hτ
  · rename_i cs hc
    have hall := open_cells hl hS 10 t cs hc hok fuel _ _ hd hf
    split at hτ
    · rename_i ha
      cases hτ
      obtain ⟨y, us, hy, hu, hr⟩ := pack_ok cs _ hall
      have hv : ∃ c, v = .agg c := by
        unfold isAggT at ha
        unfold Value.okWide at hval
        split at ha
        · rename_i fs hfs; rw [hfs] at hval; obtain ⟨c, hc, _⟩ := hval; exact ⟨c, hc⟩
        · rename_i n e hfs; rw [hfs] at hval; obtain ⟨c, hc, _⟩ := hval; exact ⟨c, hc⟩
        · cases ha
      obtain ⟨c, rfl⟩ := hv
      refine ⟨y, .agg us, hy, hu, ?_⟩
      simp only [Rep]
      exact ⟨c.toList, by simp, by simpa [Value.cells] using hr⟩
    · rename_i ha
      match cs, hτ, hall with
      | τ' :: cs', hτ, hall =>
        simp only [List.head?_cons, Option.some.injEq] at hτ
        subst hτ
        have hone := cellsTy_ones 10 t _ hc τ' (by simp)
        have hv : v.cells.toList = [v] := by
          cases v with
          | agg c =>
            exfalso
            unfold isAggT at ha
            unfold Value.okWide at hval
            split at hval
            · rename_i fs hfs; rw [hfs] at ha; simp at ha
            · rename_i n e hfs; rw [hfs] at ha; simp at ha
            · unfold Cell.okWide Cell.ok at hval
              split at hval
              all_goals first | (rename_i h1 h2; cases h2; done) | skip
              all_goals (split at hval <;> first | (exact hval.elim) | (rename_i h1 h2; cases h2))
          | _ => rfl
        rw [hv] at hall
        cases hall with
        | cons h1 h2 => exact h1
  · cases hτ

theorem open_args (hl : laidOutB P = true) {N : Nat} {S : DataW H → Prop} (hS : Sm N S) {b0 : Nat} : ∀ (ts : List TypeId) (τs : List Ty) (vs : List Value) (ds : List (DataW H)) (ps : List MemPlace), ts.mapM (tyOf P) = some τs → ts.all (okT P 10) = true →
    (∀ (j : Nat) t v, ts[j]? = some t → vs[j]? = some v → Value.okWide P w .any b0 t v) → DataW.TrodAll enc P w base (fun _ => true) held ts vs ds ps → (∀ d ∈ ds, S d) →
    ∃ x us, RngP N τs x ∧ RVL (ofPms (τs.map .ty) x) us ∧ RepL w (cx0 w) us vs []
  | [], τs, vs, ds, ps, hm, _, _, h, _ => by
    simp at hm; subst hm
    obtain ⟨rfl, _, _⟩ := trodAll_nil h
    exact ⟨(), [], trivial, rvl_nil, by simp [RepL]⟩
  | t :: ts, τs, vs, ds, ps, hm, hok, hval, h, hd => by
    simp only [List.mapM_cons, Option.bind_eq_bind, Option.bind_eq_some_iff] at hm
    obtain ⟨τ, hτ, τs', hm', he⟩ := hm
    cases he
    simp only [List.all_cons, Bool.and_eq_true] at hok
    obtain ⟨v, vs', d, ds', p, q, rfl, rfl, rfl, h1, h2⟩ := trodAll_cons h
    obtain ⟨y, u, hy, hu, hr⟩ := open_arg hl hS hτ hok.1 (hval 0 t v rfl rfl) h1 (hd d (by simp))
    obtain ⟨x, us, hx, hus, hrs⟩ := open_args hl hS ts τs' vs' ds' q hm' hok.2 (fun j t' v' a b => hval (j + 1) t' v' (by simpa using a) (by simpa using b)) h2 fun d' hd' => hd d' (by simp [hd'])
    have hR : RepL w (cx0 w) (u :: us) (v :: vs') [] := by simp only [RepL]; exact ⟨v, vs', [], [], rfl, rfl, hr, hrs⟩
    cases τs' with
    | nil => exact ⟨y, u :: us, hy, (rvl_cons.2 ⟨rv_ofTy _ _ _ _ hu, hus⟩ : RVL (ofTy τ 1000 y :: []) (u :: us)), hR⟩
    | cons τ2 τs2 => exact ⟨(y, x), u :: us, ⟨hy, hx⟩, (rvl_cons.2 ⟨rv_ofTy _ _ _ _ hu, hus⟩ : RVL (ofTy τ 1000 y :: ofPms ((τ2 :: τs2).map .ty) x) (u :: us)), hR⟩

theorem trodAll_below (hl : laidOutB P = true) {W W' : World} (hb : Below W.heap.size W W') : ∀ {ts : List TypeId} {vs : List Value} {ds : List (DataW H)} {ps : List MemPlace}, ts.all (fun t => P.readableRec t && decide (t < P.types.size)) = true →
    DataW.TrodAll enc P W 0 (fun _ => true) true ts vs ds ps → (∀ x ∈ ps, x.block < W.heap.size) → ∀ sp : Nat → Bool, (∀ p ∈ ps, sp p.block = true) → DataW.TrodAll enc P W' 0 sp true ts vs ds ps
  | [], [], [], ps, _, h, _, sp, _ => h
  | t :: ts, v :: vs, d :: ds, ps, hr, ⟨p, q, h1, h2, e⟩, hlt, sp, hsp => by
    simp only [List.all_cons, Bool.and_eq_true, decide_eq_true_eq] at hr
    subst e
    refine ⟨p, q, ?_, trodAll_below hl hb hr.2 h2 (fun x hx => hlt x (List.mem_append_right _ hx)) sp (fun x hx => hsp x (List.mem_append_right _ hx)), rfl⟩
    exact WideElems.Trod_stays hl hr.1.1 hr.1.2 h1 (fun x hx => hb.same (hlt x (List.mem_append_left _ hx))) (fun x hx => hsp x (List.mem_append_left _ hx))

theorem lrel0 {w : World} : LRel [] w (cx0 w) (fun _ => []) where
  box := fun r c h => by simp [boxL] at h
  boxD := fun _ _ => rfl
  inj := fun r r' b h => by simp [boxL] at h
  lin := fun _ => Lin.nil
  dis := fun _ _ _ b hb => by cases hb
  ptrB := fun r c h => by simp [boxL] at h
  up := fun r c h => by simp [boxL] at h
  dom := fun b e fz h => (frozen0 h).2.1

/-- A LAW's CALL -/
theorem law_calls {H0 : Hints} {lib : FuncId → Option (List V → Option V)} (hm : P.follows .mixedOrders = true) (hname : ∀ (g : FuncId) (fn : Func), P.funcs[g]? = some fn → fn.body.isSome = true → (fn.name == "runtime.NumGoroutine") = false)
    (hlib : ∀ g h args r, lib g = some h → h args = some r → CallOk P g args [] r []) (hl : laidOutB P = true) {N : Nat} {S : DataW H → Prop} (hS : Sm N S) {k : FuncId} {fn : Func} (hfn : P.funcs[k]? = some fn) (hbody : fn.body.isSome = true)
    {ts : List TypeId} {τs : List Ty} (hts : ts.mapM (tyOf P) = some τs) (hok : ts.all (okT P 10) = true) {F : denP (τs.map .ty) → Option Bool}
    (he : EntryOk P H0 lib ⟨k, τs.map .ty, [(.bool, 0)], F⟩) (hF : ∀ x, RngP N τs x → F x = some true)
    {W : World} {args : Array Value} {ds : List (DataW H)} {ps : List MemPlace} {b0 : Nat} (hval : ∀ (j : Nat) t v, ts[j]? = some t → args.toList[j]? = some v → Value.okWide P W .any b0 t v)
    (h : DataW.TrodAll enc P W 0 (fun _ => true) true ts args.toList ds ps) (hd : ∀ d ∈ ds, S d) :
    Calls P k args W fun e W' => e = .returned (.bool true) ∧ Below W.heap.size W W' := by
  obtain ⟨x, us, hx, hus, hrs⟩ := open_args hl hS ts τs args.toList ds ps hts hok hval h hd
  obtain ⟨v, hcall, hr⟩ := entry_call hm hname hlib he (x := x) (y := true) (hF x hx) hus
  simp only [packT, ofL, packedT, ofTy, RV, RTy] at hr
  subst hr
  have hp : ptrsL us = [] := by
    apply List.eq_nil_iff_forall_not_mem.2
    intro q hq
    have hk : ∀ (τs : List Ty) (x : denP (τs.map .ty)), ptrsTL (ofPms (τs.map .ty) x) = [] := by
      have h1 : ∀ (τ : Ty) (y : τ.den), (ofTy τ 1000 y).ptrs = [] ∧ ptrsTL (ofTyC τ 1000 y) = [] := by
        intro τ
        induction τ with
        | pair a b iha ihb => intro y; simp [ofTy, ofTyC, TV.ptrs, ptrsTL, (iha y.1).1, (ihb y.2).2]
        | _ => intro y; simp [ofTy, ofTyC, TV.ptrs, ptrsTL]
      intro τs
      induction τs with
      | nil => intro x; rfl
      | cons τ τs ih =>
        intro x
        cases τs with
        | nil => show ptrsTL [ofTy τ 1000 x] = []; simp [ptrsTL, (h1 τ x).1]
        | cons τ2 τs2 => show ptrsTL (ofTy τ 1000 x.1 :: ofPms ((τ2 :: τs2).map .ty) x.2) = []; simp only [ptrsTL, (h1 τ x.1).1, List.nil_append]; exact ih x.2
    have := RVL.ptrs _ _ hus q hq
    rw [hk] at this; cases this
  rcases hcall W (cx0 W) args.toList (fun _ => []) hrs lrel0 (fun q hq => by rw [hp] at hq; cases hq) (fun _ b e fz h => (frozen0 h).1) with ⟨_, hc⟩ | ⟨_, v, w', hv, _⟩
  · refine (by simpa using hc : Calls P k args W _).mono ?_
    rintro e W' ⟨v, rfl, X', O', Or, hrep, _, _, _, _, _, _, haft⟩
    simp only [Rep] at hrep
    obtain ⟨rfl, _⟩ := hrep
    refine ⟨rfl, ⟨haft.os, haft.tape, haft.out, haft.size, fun b hb => ?_⟩⟩
    exact (haft.kept b hb (by rintro (⟨r, h1, _⟩ | ⟨r, h1⟩) <;> simp [boxL] at h1)).1
  · exfalso
    have hbs : fn.body.isNone = false := by cases hb : fn.body <;> simp_all
    simp only [callFunc, Sem.run_bind, run_program, Result.andThen_ok, hfn, hname k fn hfn hbody, hbs, Bool.false_eq_true, if_false, Sem.run_pure] at hv
    cases hv
end Go.Tx
