/-
  ONE LAW OF A CHAPTER: its program side is run by an interpreter that is proved sound; what it computes is shown to be what the law says. No conditions. Part 5 of 5.
-/
import Derived.Test.YtpiggpgocnlomaaMUnd
import Derived.Test.YtpiggpgocnlomaaProg
import Derived.KernelRfl
import Derived.Test.YtpiggpgocnlomaaRows
import Derived.WalkKit
section
/-
  THE EXAMPLES OF THE CHAPTER: awake() returns true: the kernel runs the abstract interpreter, call by call.
-/
namespace Go.Proofs.Ytpiggpgocnlomaa
open Go Go.Ab
theorem follows : Try.prog.follows .mixedOrders = true := by kernel_rfl
theorem namesOk : (Try.prog.funcs.toList.all fun fn => !fn.body.isSome || !(fn.name == "runtime.NumGoroutine")) = true := by kernel_rfl
theorem hname : ∀ (g : FuncId) (fn : Func), Try.prog.funcs[g]? = some fn → fn.body.isSome = true → (fn.name == "runtime.NumGoroutine") = false := fun g fn h hb => by
  have := List.all_eq_true.1 namesOk fn (by rw [Array.mem_toList_iff]; exact Array.mem_of_getElem? h)
  rw [hb] at this
  simpa using this
def vi (n : Int) : V := .val (.int .i64 n)
def r0 : Ran := ⟨47, [.sl .shared false [.agg [vi (10), vi (1)], .agg [vi (20), vi (3)], .agg [vi (60), vi (5)]]], .tuple [.agg [vi (25), vi (-15), vi (2)], vi (0)]⟩
theorem r0_ok : CallOk Try.prog r0.g r0.args [] r0.r [] := ran_ok (t := []) (H := Hn.hints) follows hname (by simp) 200 r0 (by kernel_rfl)
def r1 : Ran := ⟨81, [.agg [vi (25), vi (-15), vi (2)], .sl .shared false [vi (1)]], .tuple [.sl .own false [.agg [vi (-8), vi (18)]], vi (0)]⟩
theorem r1_ok : CallOk Try.prog r1.g r1.args [] r1.r [] := ran_ok (t := []) (H := Hn.hints) follows hname (by simp) 200 r1 (by kernel_rfl)
def r2 : Ran := ⟨35, [.sl .shared false [vi (0), vi (1), vi (5), vi (0), vi (0)], .sl .shared false [vi (0), vi (0), vi (1), vi (5), vi (0)], vi (3)], .tuple [vi (1), vi (0)]⟩
theorem r2_ok : CallOk Try.prog r2.g r2.args [] r2.r [] := ran_ok (t := []) (H := Hn.hints) follows hname (by simp) 200 r2 (by kernel_rfl)
def r3 : Ran := ⟨66, [.agg [.sl .shared false [.sl .shared false [vi (1), vi (5), vi (9)], .sl .shared false [vi (2), vi (-4), vi (8)]], vi (1)], .sl .shared false [.sl .shared false [vi (-2), vi (4), vi (-7)], .sl .shared false [vi (1), vi (4), vi (9)]]], .tuple [.agg [.sl .shared false [vi (1), vi (0)], .sl .shared false [.val (.bool true), .val (.bool false)]], vi (3), vi (0)]⟩
theorem r3_ok : CallOk Try.prog r3.g r3.args [] r3.r [] := ran_ok (t := []) (H := Hn.hints) follows hname (by simp) 200 r3 (by kernel_rfl)
def r4 : Ran := ⟨16, [.sl .shared false [.sl .shared false [vi (1), vi (8), vi (9), vi (9)], .sl .shared false [vi (2), vi (7), vi (1), vi (8)], .sl .shared false [vi (9), vi (9), vi (9), vi (2)]], .agg [vi (5), vi (2), vi (3)]], .tuple [vi (3), vi (0)]⟩
theorem r4_ok : CallOk Try.prog r4.g r4.args [] r4.r [] := ran_ok (t := []) (H := Hn.hints) follows hname (by simp) 200 r4 (by kernel_rfl)
def r5 : Ran := ⟨25, [.sl .shared false [.sl .shared false [vi (0), vi (1)], .sl .shared false [vi (2), vi (1)]]], .tuple [.agg [vi (1), vi (2), vi (3), vi (4)], vi (0)]⟩
theorem r5_ok : CallOk Try.prog r5.g r5.args [] r5.r [] := ran_ok (t := []) (H := Hn.hints) follows hname (by simp) 200 r5 (by kernel_rfl)
def rs : List Ran := [r0, r1, r2, r3, r4, r5]
theorem rs_ok : ∀ e ∈ rs, CallOk Try.prog e.g e.args [] e.r [] := by
  intro e he
  simp only [rs, List.mem_cons, List.mem_nil_iff, or_false] at he
  rcases he with rfl | rfl | rfl | rfl | rfl | rfl
  · exact r0_ok
  · exact r1_ok
  · exact r2_ok
  · exact r3_ok
  · exact r4_ok
  · exact r5_ok
def aw : Ran := ⟨14, [], .val (.bool true)⟩
theorem awake_ok : CallOk Try.prog 14 [] [] (.val (.bool true)) [] := ran_ok (H := Hn.hints) follows hname rs_ok 200 aw (by kernel_rfl)
end Go.Proofs.Ytpiggpgocnlomaa
end
section
/-
  THE SHELL OF A LAW: from the typed function of a law, known to answer true, to the given statement's contract.
-/
set_option linter.unusedVariables false
namespace Go.Tx
open Go Go.Ab Go.RowKit Go.ChangeShapes Go.WideShapes Go.Deep
section
variable {H : Type} {enc : TypeId × Value → H} {P : Program}
theorem post_of_below {f : Func} {s : ChangeSpec} {apart fresh handsOn again : Bool} {W W' : World} {args : Array Value} {v : Value} {ds gs : List (DataW H)} {before pa pv : List MemPlace}
    (hW : DataW.Whole enc P f.params.toList s.vars apart W args.toList ds gs before)
    (hres : ∀ (b : Nat) (sp : Nat → Bool) (hd : Bool), DataW.TrodAll enc P W' b sp hd f.resultTypes.toList (v.resultList f.resultTypes.size) (s.fn H (ds ++ gs)).results [])
    (hargs : ∀ sp : Nat → Bool, (∀ p ∈ before, sp p.block = true) → DataW.TrodAll enc P W' 0 sp true f.params.toList args.toList (s.fn H (ds ++ gs)).args pa)
    (hvars : ∀ sp : Nat → Bool, (∀ p ∈ before, sp p.block = true) → DataW.TrodVars enc P W' sp s.vars (s.fn H (ds ++ gs)).vars pv)
    (hps : before = pa ++ pv) (hb : Below W.heap.size W W')
    (hok : ∀ (j : Nat) (t : TypeId) (r : Value), f.resultTypes[j]? = some t → (v.resultList f.resultTypes.size)[j]? = some r → Value.okWide P W' .any 0 t r) :
    s.post enc P f apart fresh handsOn again W args v W' := by
  have hlt : ∀ p ∈ before, p.block < W.heap.size := fun p hp => hW.lt p hp
  have hold : ∀ p ∈ before, (fun b => decide (b < W.heap.size)) p.block = true := fun p hp => by simpa using hlt p hp
  refine ⟨ds, gs, before, [], pa, pv, hW, hres _ _ _, hargs _ hold, hvars _ hold, World.keptBut_mono (fun p hp => ⟨hp, ?_⟩) (hb.frame (· ∈ before)), fun _ => ?_⟩
  · rw [hps, List.mem_append] at hp
    exact Or.inr hp
  · obtain ⟨_, _, _, _, _, hz, hn⟩ := hW
    refine ⟨hok, _, _, ([] ++ pa) ++ pv, ⟨[] ++ pa, pv, trodAll_append (hargs _ (fun _ _ => rfl)) (hres _ _ _), hvars _ (fun _ _ => rfl), rfl, ?_, ?_⟩, ?_⟩
    · intro b off hp
      have hin : MemPlace.cell b off ∈ before := by rw [hps]; simpa using hp
      rw [hb.frozen (hlt _ hin)]
      exact hz b off hin
    · intro ha
      have := hn ha
      rw [hps] at this
      simpa using this
    · intro p hp _
      rw [hps]
      simpa using hp
theorem trodAll_len : ∀ {ts : List TypeId} {vs : List Value} {ds : List (DataW H)} {ps : List MemPlace} {w : World} {b : Nat} {sp : Nat → Bool} {hd : Bool}, DataW.TrodAll enc P w b sp hd ts vs ds ps → ds.length = ts.length
  | [], [], [], _, _, _, _, _, _ => rfl
  | [], [], d :: ds, _, _, _, _, _, h => h.elim
  | [], v :: vs, _, _, _, _, _, _, h => by cases h
  | t :: ts, [], _, _, _, _, _, _, h => by cases h
  | t :: ts, v :: vs, [], _, _, _, _, _, h => by cases h
  | t :: ts, v :: vs, d :: ds, ps, w, b, sp, hd, ⟨p, q, h1, h2, e⟩ => by simp [trodAll_len h2]
end
/-- lists of at most the longest length that a slice has -/
theorem sm_all {H : Type} : Sm (H := H) maxLen (fun _ => True) where
  slice := fun es sp _ h => ⟨h, fun _ _ => trivial⟩
  agg := fun _ _ _ _ => trivial
  str := fun _ _ h => h

/-- A LAW'S CONTRACT, in the form that the given statement's builders ask -/
theorem law_contract {P : Program} {H0 : Hints} {lib : FuncId → Option (List V → Option V)} (hm : P.follows .mixedOrders = true) (hname : ∀ (g : FuncId) (fn : Func), P.funcs[g]? = some fn → fn.body.isSome = true → (fn.name == "runtime.NumGoroutine") = false)
    (hlib : ∀ g h args r, lib g = some h → h args = some r → CallOk P g args [] r []) (hl : laidOutB P = true) {k : FuncId} {fn : Func} (hfn : P.funcs[k]? = some fn) (hbody : fn.body.isSome = true)
    {ts : List TypeId} {τs : List Ty} (hps : fn.params.toList = ts) (hts : ts.mapM (tyOf P) = some τs) (hok : ts.all (okT P 10) = true) (hrd : ts.all (fun t => P.readableRec t && decide (t < P.types.size)) = true)
    {tb : TypeId} (hres : fn.resultTypes = #[tb]) (htb : P.underlying tb = some .bool) {F : denP (τs.map .ty) → Option Bool}
    (he : EntryOk P H0 lib ⟨k, τs.map .ty, [(.bool, 0)], F⟩) (hF : ∀ x, RngP maxLen τs x → F x = some true)
    {s : ChangeSpec} (hv : s.vars = []) (hs : ∀ (H : Type) (ds : List (DataW H)), ds.length = ts.length → s.fn H ds = { results := [.lit (.bool true)], args := ds })
    (H : Type) (enc : TypeId × Value → H) (W : World) (base : Nat) (args : Array Value) (ds gs : List (DataW H)) (before : List MemPlace)
    (hval : ∀ (j : Nat) t v, fn.params[j]? = some t → args[j]? = some v → Value.okWide P W .any base t v)
    (hW : DataW.Whole enc P fn.params.toList s.vars false W args.toList ds gs before) :
    Calls P k args W fun e W' => ∃ v, e = .returned v ∧ s.post enc P fn false true false false W args v W' := by
  have hW' := hW
  have hlt : ∀ p ∈ before, p.block < W.heap.size := fun p hp => hW.lt p hp
  obtain ⟨p, q, hA, hV, rfl, hfz, hnd⟩ := hW
  rw [hv] at hV
  obtain ⟨rfl, rfl⟩ := trodVars_none hV
  rw [hps] at hA
  have hlen := trodAll_len hA
  have hval' : ∀ (j : Nat) t v, ts[j]? = some t → args.toList[j]? = some v → Value.okWide P W .any base t v := fun j t v h1 h2 =>
    hval j t v (by rw [← hps] at h1; simpa using h1) (by simpa using h2)
  refine (law_calls hm hname hlib hl sm_all hfn hbody hts hok he hF hval' hA (fun _ _ => trivial)).mono fun e W' ⟨h1, hb⟩ => ?_
  subst h1
  have hfs : s.fn H (ds ++ []) = { results := [.lit (.bool true)], args := ds } := by rw [List.append_nil]; exact hs H ds hlen
  refine ⟨_, rfl, post_of_below (pa := p) (pv := []) hW' ?_ ?_ ?_ rfl hb ?_⟩
  · intro b sp hd
    rw [hfs, hres]
    exact trodAll_mk1 (shut_bool htb true)
  · intro sp hsp
    rw [hfs, hps]
    exact trodAll_below hl hb hrd hA (fun x hx => hlt x (by simpa using hx)) sp (fun x hx => hsp x (by simpa using hx))
  · intro sp _
    rw [hfs, hv]
    rfl
  · exact ok_one hres rfl (okWide_bool_mk htb true)
end Go.Tx
namespace Go.Proofs.Ytpiggpgocnlomaa
open Go Go.Ab Go.Tx
theorem own : ownKnob Try.prog.godebug = none := by kernel_rfl
theorem laid_out : laidOutB Try.prog = true := by kernel_rfl
end Go.Proofs.Ytpiggpgocnlomaa
end
section
/-
  TYPED FUNCTIONS (written by gen.py), each with the equation that the kernel checks: it is what the typed interpreter computes.
-/
set_option maxRecDepth 100000
set_option linter.unusedVariables false
namespace Go.Proofs.Ytpiggpgocnlomaa
open Go Go.Ab Go.Tx
noncomputable section
@[reducible] def I : Ty := .int .i64
@[reducible] def w64 (n : Int) : Int := IntKind.wrap .i64 n
def lookJ : List (List Tmp × FuncId × Kind × Join) → List Tmp → FuncId → Kind → Option Join
  | [], _, _, _ => none
  | (c, f, k, j) :: l, c', f', k' => if f = f' then (if k = k' then (if c = c' then some j else lookJ l c' f' k') else lookJ l c' f' k') else lookJ l c' f' k'
def awakeId : Nat := 14
def mkTH (js : List (List Tmp × FuncId × Kind × Join)) (inl : List (List Tmp × FuncId × Tmp)) : TH where
  lib := fun g => decide (g = awakeId)
  join := lookJ js
  inl := fun c f d => inl.any fun (c', f', d') => decide (f = f') && decide (d = d') && decide (c = c')
/-- functions that are known otherwise -/
def Lb : FuncId → Option (List V → Option V) := fun g => if g = awakeId then some (fun args => match args with
    | [] => some (.val (.bool true))
    | _ => none) else none
theorem hJ {js : List (List Tmp × FuncId × Kind × Join)} {inl : List (List Tmp × FuncId × Tmp)} : ∀ g, (mkTH js inl).lib g = false → Lb g = none := fun g h => by
  simp only [mkTH, decide_eq_false_iff_not] at h
  simp [Lb, h]
def law07_awake : Option Bool := some true
def e_law07_awake : Entry := ⟨14, [], [(.bool, 0)], fun _ => law07_awake⟩
theorem o_law07_awake : EntryOk Try.prog Hn.hints Lb e_law07_awake := fun x y h vs hv => by
  obtain rfl : true = y := Option.some.inj h
  simp only [e_law07_awake, ofPms, RVL] at hv
  subst hv
  refine ⟨.val (.bool true), ⟨1, fun m hm => ?_⟩, by simp [packT, e_law07_awake, ofL, packedT, ofTy, RV, RTy]⟩
  obtain ⟨m', rfl⟩ : ∃ m', m = m' + 1 := ⟨m - 1, by omega⟩
  simp [orcN, Lb, awakeId, e_law07_awake]
/-- ductility/ductilitylaw07.samples -/
def law07_samples (a0 : (List Int)) : Option Bool :=
  some (decide ((a0.length : Int) ≤ 62))
def e_law07_samples : Entry := ⟨34, [.ty (.sl I)], [(.bool, 0)], fun x => law07_samples x⟩
def j_law07_samples : TH := mkTH [] []
theorem k_law07_samples (x : denP e_law07_samples.ps) : fnT Try.prog Hn.hints j_law07_samples (tabT []) 40 34 (ofPms e_law07_samples.ps x) e_law07_samples.rs = e_law07_samples.F x := by kernel_rfl
theorem o_law07_samples : EntryOk Try.prog Hn.hints Lb e_law07_samples := entry_ok tab_nil hJ 40 _ _ _ _ k_law07_samples
/-- ductility/ductilitylaw07.channels -/
def law07_channels (a0 : (List (List Int))) : Option Bool :=
  (loopO (fun (s2 : Int) =>
      bif decide (s2 < (a0.length : Int)) then
        (idx a0 s2).bind fun x3 =>
        (law07_samples x3).bind fun x4 =>
        bif !x4 then
          some (.inr (.inr false))
        else
          some (.inl (w64 (s2 + 1)))
      else
        some (.inr (.inl ()))) 0).bind (Sum.elim (fun (p5 : Unit) =>
  some (decide ((a0.length : Int) ≤ 9))) some)
def e_law07_channels : Entry := ⟨15, [.ty (.sl (.sl I))], [(.bool, 0)], fun x => law07_channels x⟩
def j_law07_channels : TH := mkTH [([], 15, .block 0, { lv := [], ps := [], abn := true, D := ⟨65532⟩ }),
  ([], 15, .loop 0, { lv := [⟨none, 3, 0⟩], ps := [(I, 0)], D := ⟨65532⟩ })] []
theorem k_law07_channels (x : denP e_law07_channels.ps) : fnT Try.prog Hn.hints j_law07_channels (tabT [e_law07_samples]) 40 15 (ofPms e_law07_channels.ps x) e_law07_channels.rs = e_law07_channels.F x := by kernel_rfl
theorem o_law07_channels : EntryOk Try.prog Hn.hints Lb e_law07_channels := entry_ok (tab_cons o_law07_samples tab_nil) hJ 40 _ _ _ _ k_law07_channels
/-- ductility/ductilitybase.CopyInts -/
def base_CopyInts (a0 : (List Int)) : Option (List Int) :=
  (app [] a0).bind fun x1 =>
  some x1
def e_base_CopyInts : Entry := ⟨36, [.ty (.sl I)], [((.sl I), 1)], fun x => base_CopyInts x⟩
def j_base_CopyInts : TH := mkTH [] []
theorem k_base_CopyInts (x : denP e_base_CopyInts.ps) : fnT Try.prog Hn.hints j_base_CopyInts (tabT []) 40 36 (ofPms e_base_CopyInts.ps x) e_base_CopyInts.rs = e_base_CopyInts.F x := by kernel_rfl
theorem o_base_CopyInts : EntryOk Try.prog Hn.hints Lb e_base_CopyInts := entry_ok tab_nil hJ 40 _ _ _ _ k_base_CopyInts
/-- ductility/ductilitybase.CopyLists -/
def base_CopyLists (a0 : (List (List Int))) : Option (List (List Int)) :=
  (loopO (fun (s3 : ((List (List Int)) × Int)) =>
      bif decide (s3.2 < (a0.length : Int)) then
        (idx a0 s3.2).bind fun x4 =>
        (base_CopyInts x4).bind fun x5 =>
        (app s3.1 ([x5])).bind fun x6 =>
        some (.inl (x6, w64 (s3.2 + 1)))
      else
        some (.inr s3.1)) ([], 0)).bind fun (p7 : (List (List Int))) =>
  some p7
def e_base_CopyLists : Entry := ⟨17, [.ty (.sl (.sl I))], [((.sl (.sl I)), 2)], fun x => base_CopyLists x⟩
def j_base_CopyLists : TH := mkTH [([], 17, .block 0, { lv := [⟨none, 3, 0⟩], ps := [((.sl (.sl I)), 2)], D := ⟨524280⟩ }),
  ([], 17, .loop 0, { lv := [⟨none, 3, 0⟩, ⟨none, 4, 0⟩], ps := [((.sl (.sl I)), 2), (I, 0)], D := ⟨524280⟩ })] []
theorem k_base_CopyLists (x : denP e_base_CopyLists.ps) : fnT Try.prog Hn.hints j_base_CopyLists (tabT [e_base_CopyInts]) 40 17 (ofPms e_base_CopyLists.ps x) e_base_CopyLists.rs = e_base_CopyLists.F x := by kernel_rfl
theorem o_base_CopyLists : EntryOk Try.prog Hn.hints Lb e_base_CopyLists := entry_ok (tab_cons o_base_CopyInts tab_nil) hJ 40 _ _ _ _ k_base_CopyLists
/-- ductility/ductilityref07.CopyExplanation -/
def ref07_CopyExplanation (a0 : ((List Int) × (List Bool) × Unit)) : Option ((List Int) × (List Bool) × Unit) :=
  (base_CopyInts a0.1).bind fun x1 =>
  (app [] a0.2.1).bind fun x2 =>
  some (x1, x2, ())
def e_ref07_CopyExplanation : Entry := ⟨68, [.ty (.pair (.sl I) (.pair (.sl .bool) .unit))], [((.pair (.sl I) (.pair (.sl .bool) .unit)), 1)], fun x => ref07_CopyExplanation x⟩
def j_ref07_CopyExplanation : TH := mkTH [] []
theorem k_ref07_CopyExplanation (x : denP e_ref07_CopyExplanation.ps) : fnT Try.prog Hn.hints j_ref07_CopyExplanation (tabT [e_base_CopyInts]) 40 68 (ofPms e_ref07_CopyExplanation.ps x) e_ref07_CopyExplanation.rs = e_ref07_CopyExplanation.F x := by kernel_rfl
theorem o_ref07_CopyExplanation : EntryOk Try.prog Hn.hints Lb e_ref07_CopyExplanation := entry_ok (tab_cons o_base_CopyInts tab_nil) hJ 40 _ _ _ _ k_ref07_CopyExplanation
/-- ductility/sensor.samplesOf -/
def sensor_samplesOf (a0 : (List (List Int))) : Option Int :=
  bif decide ((a0.length : Int) = 0) then
    some 0
  else
    (idx a0 0).bind fun x1 =>
    some (x1.length : Int)
def e_sensor_samplesOf : Entry := ⟨108, [.ty (.sl (.sl I))], [(I, 0)], fun x => sensor_samplesOf x⟩
def j_sensor_samplesOf : TH := mkTH [] []
theorem k_sensor_samplesOf (x : denP e_sensor_samplesOf.ps) : fnT Try.prog Hn.hints j_sensor_samplesOf (tabT []) 40 108 (ofPms e_sensor_samplesOf.ps x) e_sensor_samplesOf.rs = e_sensor_samplesOf.F x := by kernel_rfl
theorem o_sensor_samplesOf : EntryOk Try.prog Hn.hints Lb e_sensor_samplesOf := entry_ok tab_nil hJ 40 _ _ _ _ k_sensor_samplesOf
/-- ductility/sensor.unless -/
def sensor_unless (a0 : Bool) (a1 : Int) : Option Int :=
  bif a0 then
    some 0
  else
    some a1
def e_sensor_unless : Entry := ⟨106, [.ty .bool, .ty I], [(I, 0)], fun x => sensor_unless x.1 x.2⟩
def j_sensor_unless : TH := mkTH [] []
theorem k_sensor_unless (x : denP e_sensor_unless.ps) : fnT Try.prog Hn.hints j_sensor_unless (tabT []) 40 106 (ofPms e_sensor_unless.ps x) e_sensor_unless.rs = e_sensor_unless.F x := by kernel_rfl
theorem o_sensor_unless : EntryOk Try.prog Hn.hints Lb e_sensor_unless := entry_ok tab_nil hJ 40 _ _ _ _ k_sensor_unless
/-- ductility/sensor.first -/
def sensor_first (a0 : (List Int)) : Option Int :=
  (loopO (fun (s2 : Int) =>
      bif decide (s2 < (a0.length : Int)) then
        (idx a0 s2).bind fun x3 =>
        bif !(decide (x3 = 0)) then
          some (.inr (.inr x3))
        else
          some (.inl (w64 (s2 + 1)))
      else
        some (.inr (.inl ()))) 0).bind (Sum.elim (fun (p4 : Unit) =>
  some 0) some)
def e_sensor_first : Entry := ⟨105, [.ty (.sl I)], [(I, 0)], fun x => sensor_first x⟩
def j_sensor_first : TH := mkTH [([], 105, .block 0, { lv := [], ps := [], abn := true, D := ⟨32660⟩ }),
  ([], 105, .loop 0, { lv := [⟨none, 7, 0⟩], ps := [(I, 0)], D := ⟨32660⟩ })] []
theorem k_sensor_first (x : denP e_sensor_first.ps) : fnT Try.prog Hn.hints j_sensor_first (tabT []) 40 105 (ofPms e_sensor_first.ps x) e_sensor_first.rs = e_sensor_first.F x := by kernel_rfl
theorem o_sensor_first : EntryOk Try.prog Hn.hints Lb e_sensor_first := entry_ok tab_nil hJ 40 _ _ _ _ k_sensor_first
/-- ductility/sensor.within -/
def sensor_within (a0 : Int) (a1 : Int) (a2 : Int) : Option Bool :=
  (bif decide (a1 ≤ a0) then
      some (decide (a0 ≤ a2))
    else
      some false).bind fun (p1 : Bool) =>
  some p1
def e_sensor_within : Entry := ⟨107, [.ty I, .ty I, .ty I], [(.bool, 0)], fun x => sensor_within x.1 x.2.1 x.2.2⟩
def j_sensor_within : TH := mkTH [([], 107, .region 1, { lv := [⟨none, 6, 0⟩], ps := [(.bool, 0)], D := ⟨32704⟩ })] []
theorem k_sensor_within (x : denP e_sensor_within.ps) : fnT Try.prog Hn.hints j_sensor_within (tabT []) 40 107 (ofPms e_sensor_within.ps x) e_sensor_within.rs = e_sensor_within.F x := by kernel_rfl
theorem o_sensor_within : EntryOk Try.prog Hn.hints Lb e_sensor_within := entry_ok tab_nil hJ 40 _ _ _ _ k_sensor_within
/-- ductility/sensor.sized -/
def sensor_sized (a0 : Int) (a1 : Int) : Option Bool :=
  (sensor_within a0 (w64 (0 - a1)) a1).bind fun x1 =>
  some x1
def e_sensor_sized : Entry := ⟨118, [.ty I, .ty I], [(.bool, 0)], fun x => sensor_sized x.1 x.2⟩
def j_sensor_sized : TH := mkTH [] []
theorem k_sensor_sized (x : denP e_sensor_sized.ps) : fnT Try.prog Hn.hints j_sensor_sized (tabT [e_sensor_within]) 40 118 (ofPms e_sensor_sized.ps x) e_sensor_sized.rs = e_sensor_sized.F x := by kernel_rfl
theorem o_sensor_sized : EntryOk Try.prog Hn.hints Lb e_sensor_sized := entry_ok (tab_cons o_sensor_within tab_nil) hJ 40 _ _ _ _ k_sensor_sized
/-- ductility/sensor.CheckRaw$1 -/
def sensor_CheckRaw_1 (a0 : Int) (a1 : Int) : Option Int :=
  (sensor_sized a1 (100000 : Int)).bind fun x1 =>
  (sensor_unless x1 (2 : Int)).bind fun x2 =>
  some x2
def e_sensor_CheckRaw_1 : Entry := ⟨142, [.ty I, .ty I], [(I, 0)], fun x => sensor_CheckRaw_1 x.1 x.2⟩
def j_sensor_CheckRaw_1 : TH := mkTH [] []
theorem k_sensor_CheckRaw_1 (x : denP e_sensor_CheckRaw_1.ps) : fnT Try.prog Hn.hints j_sensor_CheckRaw_1 (tabT [e_sensor_sized, e_sensor_unless]) 40 142 (ofPms e_sensor_CheckRaw_1.ps x) e_sensor_CheckRaw_1.rs = e_sensor_CheckRaw_1.F x := by kernel_rfl
theorem o_sensor_CheckRaw_1 : EntryOk Try.prog Hn.hints Lb e_sensor_CheckRaw_1 := entry_ok (tab_cons o_sensor_sized (tab_cons o_sensor_unless tab_nil)) hJ 40 _ _ _ _ k_sensor_CheckRaw_1
/-- ductility/sensor.each[int] -/
def sensor_each_int_of_sensor_CheckRaw_1 (a0 : (List Int)) : Option (Int × Int) :=
  (loopO (fun (s2 : Int) =>
      bif decide (s2 < (a0.length : Int)) then
        (idx a0 s2).bind fun x3 =>
        (sensor_CheckRaw_1 s2 x3).bind fun x4 =>
        bif !(decide (x4 = 0)) then
          some (.inr (.inr (s2, x4)))
        else
          some (.inl (w64 (s2 + 1)))
      else
        some (.inr (.inl ()))) 0).bind (Sum.elim (fun (p5 : Unit) =>
  some (0, 0)) some)
def e_sensor_each_int_of_sensor_CheckRaw_1 : Entry := ⟨141, [.ty (.sl I), .fn 142 []], [(I, 0), (I, 0)], fun x => sensor_each_int_of_sensor_CheckRaw_1 x.1⟩
def j_sensor_each_int_of_sensor_CheckRaw_1 : TH := mkTH [([], 141, .block 0, { lv := [], ps := [], abn := true, D := ⟨33552880⟩ }),
  ([], 141, .loop 0, { lv := [⟨none, 11, 0⟩], ps := [(I, 0)], D := ⟨33552880⟩ })] []
theorem k_sensor_each_int_of_sensor_CheckRaw_1 (x : denP e_sensor_each_int_of_sensor_CheckRaw_1.ps) : fnT Try.prog Hn.hints j_sensor_each_int_of_sensor_CheckRaw_1 (tabT [e_sensor_CheckRaw_1]) 40 141 (ofPms e_sensor_each_int_of_sensor_CheckRaw_1.ps x) e_sensor_each_int_of_sensor_CheckRaw_1.rs = e_sensor_each_int_of_sensor_CheckRaw_1.F x := by kernel_rfl
theorem o_sensor_each_int_of_sensor_CheckRaw_1 : EntryOk Try.prog Hn.hints Lb e_sensor_each_int_of_sensor_CheckRaw_1 := entry_ok (tab_cons o_sensor_CheckRaw_1 tab_nil) hJ 40 _ _ _ _ k_sensor_each_int_of_sensor_CheckRaw_1
/-- ductility/sensor.CheckRaw -/
def sensor_CheckRaw (a0 : (List Int)) : Option (Int × Int) :=
  (sensor_unless (decide ((a0.length : Int) > 0)) (10 : Int)).bind fun x1 =>
  (sensor_unless (decide ((a0.length : Int) ≤ 60)) (8 : Int)).bind fun x2 =>
  (sensor_first ([x1, x2])).bind fun x3 =>
  bif !(decide (x3 = 0)) then
    some (0, x3)
  else
    (sensor_each_int_of_sensor_CheckRaw_1 a0).bind fun x4 =>
    some (x4.1, x4.2)
def e_sensor_CheckRaw : Entry := ⟨80, [.ty (.sl I)], [(I, 0), (I, 0)], fun x => sensor_CheckRaw x⟩
def j_sensor_CheckRaw : TH := mkTH [] []
theorem k_sensor_CheckRaw (x : denP e_sensor_CheckRaw.ps) : fnT Try.prog Hn.hints j_sensor_CheckRaw (tabT [e_sensor_each_int_of_sensor_CheckRaw_1, e_sensor_first, e_sensor_unless]) 40 80 (ofPms e_sensor_CheckRaw.ps x) e_sensor_CheckRaw.rs = e_sensor_CheckRaw.F x := by kernel_rfl
theorem o_sensor_CheckRaw : EntryOk Try.prog Hn.hints Lb e_sensor_CheckRaw := entry_ok (tab_cons o_sensor_each_int_of_sensor_CheckRaw_1 (tab_cons o_sensor_first (tab_cons o_sensor_unless tab_nil))) hJ 40 _ _ _ _ k_sensor_CheckRaw
/-- ductility/sensor.rawErr -/
def sensor_rawErr (a0 : (List Int)) : Option Int :=
  (sensor_CheckRaw a0).bind fun x1 =>
  some x1.2
def e_sensor_rawErr : Entry := ⟨115, [.ty (.sl I)], [(I, 0)], fun x => sensor_rawErr x⟩
def j_sensor_rawErr : TH := mkTH [] []
theorem k_sensor_rawErr (x : denP e_sensor_rawErr.ps) : fnT Try.prog Hn.hints j_sensor_rawErr (tabT [e_sensor_CheckRaw]) 40 115 (ofPms e_sensor_rawErr.ps x) e_sensor_rawErr.rs = e_sensor_rawErr.F x := by kernel_rfl
theorem o_sensor_rawErr : EntryOk Try.prog Hn.hints Lb e_sensor_rawErr := entry_ok (tab_cons o_sensor_CheckRaw tab_nil) hJ 40 _ _ _ _ k_sensor_rawErr
/-- ductility/sensor.channelsErr -/
def sensor_channelsErr (a0 : (List (List Int))) (a1 : Int) (a2 : Int) : Option Int :=
  ((loopO (fun (s2 : Int) =>
        bif decide (s2 < (a0.length : Int)) then
          (idx a0 s2).bind fun x3 =>
          (sensor_rawErr x3).bind fun x4 =>
          (sensor_unless (decide ((x3.length : Int) = a2)) (13 : Int)).bind fun x5 =>
          (sensor_first ([x4, x5])).bind fun x6 =>
          bif !(decide (x6 = 0)) then
            some (.inr (.inr (s2, x6)))
          else
            some (.inl (w64 (s2 + 1)))
        else
          some (.inr (.inl ()))) 0).bind (Sum.elim (fun (p7 : Unit) =>
    some (0, 0)) some)).bind fun (p8 : (Int × Int)) =>
  (sensor_unless (decide ((a0.length : Int) > 0)) (10 : Int)).bind fun x9 =>
  (sensor_unless (decide ((a0.length : Int) ≤ a1)) (8 : Int)).bind fun x10 =>
  (sensor_first ([x9, x10, p8.2])).bind fun x11 =>
  some x11
def e_sensor_channelsErr : Entry := ⟨139, [.ty (.sl (.sl I)), .ty I, .ty I], [(I, 0)], fun x => sensor_channelsErr x.1 x.2.1 x.2.2⟩
def j_sensor_channelsErr : TH := mkTH [([12], 131, .inl 0, { lv := [⟨none, 4, 0⟩, ⟨none, 5, 0⟩], ps := [(I, 0), (I, 0)], D := ⟨33554416⟩, rs := [⟨0, 5⟩] }),
  ([12], 131, .block 0, { lv := [], ps := [], abn := true, D := ⟨33552880⟩, rs := [⟨0, 5⟩] }),
  ([12], 131, .loop 0, { lv := [⟨none, 11, 0⟩], ps := [(I, 0)], D := ⟨33552880⟩, rs := [⟨0, 5⟩] })] []
theorem k_sensor_channelsErr (x : denP e_sensor_channelsErr.ps) : fnT Try.prog Hn.hints j_sensor_channelsErr (tabT [e_sensor_first, e_sensor_rawErr, e_sensor_unless]) 40 139 (ofPms e_sensor_channelsErr.ps x) e_sensor_channelsErr.rs = e_sensor_channelsErr.F x := by kernel_rfl
theorem o_sensor_channelsErr : EntryOk Try.prog Hn.hints Lb e_sensor_channelsErr := entry_ok (tab_cons o_sensor_first (tab_cons o_sensor_rawErr (tab_cons o_sensor_unless tab_nil))) hJ 40 _ _ _ _ k_sensor_channelsErr
/-- slices.Index[[]int,int] -/
def slices_Index_Lint_int (a0 : (List Int)) (a1 : Int) : Option Int :=
  (loopO (fun (s2 : Int) =>
      bif decide (s2 < (a0.length : Int)) then
        (idx a0 s2).bind fun x3 =>
        bif decide (a1 = x3) then
          some (.inr (.inr s2))
        else
          some (.inl (w64 (s2 + 1)))
      else
        some (.inr (.inl ()))) 0).bind (Sum.elim (fun (p4 : Unit) =>
  some (-1)) some)
def e_slices_Index_Lint_int : Entry := ⟨186, [.ty (.sl I), .ty I], [(I, 0)], fun x => slices_Index_Lint_int x.1 x.2⟩
def j_slices_Index_Lint_int : TH := mkTH [([], 186, .block 0, { lv := [], ps := [], abn := true, D := ⟨524080⟩ }),
  ([], 186, .loop 0, { lv := [⟨none, 8, 0⟩], ps := [(I, 0)], D := ⟨524080⟩ })] []
theorem k_slices_Index_Lint_int (x : denP e_slices_Index_Lint_int.ps) : fnT Try.prog Hn.hints j_slices_Index_Lint_int (tabT []) 40 186 (ofPms e_slices_Index_Lint_int.ps x) e_slices_Index_Lint_int.rs = e_slices_Index_Lint_int.F x := by kernel_rfl
theorem o_slices_Index_Lint_int : EntryOk Try.prog Hn.hints Lb e_slices_Index_Lint_int := entry_ok tab_nil hJ 40 _ _ _ _ k_slices_Index_Lint_int
/-- slices.Contains[[]int,int] -/
def slices_Contains_Lint_int (a0 : (List Int)) (a1 : Int) : Option Bool :=
  (slices_Index_Lint_int a0 a1).bind fun x1 =>
  some (decide (x1 ≥ 0))
def e_slices_Contains_Lint_int : Entry := ⟨172, [.ty (.sl I), .ty I], [(.bool, 0)], fun x => slices_Contains_Lint_int x.1 x.2⟩
def j_slices_Contains_Lint_int : TH := mkTH [] []
theorem k_slices_Contains_Lint_int (x : denP e_slices_Contains_Lint_int.ps) : fnT Try.prog Hn.hints j_slices_Contains_Lint_int (tabT [e_slices_Index_Lint_int]) 40 172 (ofPms e_slices_Contains_Lint_int.ps x) e_slices_Contains_Lint_int.rs = e_slices_Contains_Lint_int.F x := by kernel_rfl
theorem o_slices_Contains_Lint_int : EntryOk Try.prog Hn.hints Lb e_slices_Contains_Lint_int := entry_ok (tab_cons o_slices_Index_Lint_int tab_nil) hJ 40 _ _ _ _ k_slices_Contains_Lint_int
/-- ductility/sensor.sourcesOf -/
def sensor_sourcesOf (a0 : ((List Int) × (List Bool) × Unit)) (a1 : Int) : Option ((List (Int × Bool × Unit)) × Int) :=
  (bif !(decide ((a0.1.length : Int) = a1)) then
      some true
    else
      some (!(decide ((a0.2.1.length : Int) = a1)))).bind fun (p1 : Bool) =>
  bif p1 then
    some ([], 10)
  else
    ((loopO (fun (s3 : (Int × (List (Int × Bool × Unit)))) =>
          bif decide (s3.1 < (a0.1.length : Int)) then
            (idx a0.1 s3.1).bind fun x4 =>
            (idx a0.2.1 s3.1).bind fun x5 =>
            (app s3.2 ([(x4, x5, ())])).bind fun x6 =>
            (bif !(decide (x4 = (-1))) then
                (slc a0.1 0 s3.1).bind fun x7 =>
                (slices_Contains_Lint_int x7 x4).bind fun x8 =>
                some x8
              else
                some false).bind fun (p9 : Bool) =>
            ((sensor_within x4 (-1 : Int) (w64 (a1 - 1))).bind fun x10 =>
              (sensor_unless x10 (6 : Int)).bind fun x11 =>
              (sensor_unless (!p9) (23 : Int)).bind fun x12 =>
              bif !(decide (x4 = (-1))) then
                (sensor_unless true (3 : Int)).bind fun x13 =>
                (sensor_first ([x11, x12, x13])).bind fun x14 =>
                some x14
              else
                (idx a0.2.1 s3.1).bind fun x15 =>
                (sensor_unless (!x15) (3 : Int)).bind fun x16 =>
                (sensor_first ([x11, x12, x16])).bind fun x17 =>
                some x17).bind fun (p18 : Int) =>
            bif !(decide (p18 = 0)) then
              some (.inr (.inr (s3.1, p18, x6)))
            else
              some (.inl (w64 (s3.1 + 1), x6))
          else
            some (.inr (.inl s3.2))) (0, [])).bind (Sum.elim (fun (p19 : (List (Int × Bool × Unit))) =>
      some (0, 0, p19)) some)).bind fun (p20 : (Int × Int × (List (Int × Bool × Unit)))) =>
    some (p20.2.2, p20.2.1)
def e_sensor_sourcesOf : Entry := ⟨136, [.ty (.pair (.sl I) (.pair (.sl .bool) .unit)), .ty I], [((.sl (.pair I (.pair .bool .unit))), 1), (I, 0)], fun x => sensor_sourcesOf x.1 x.2⟩
def j_sensor_sourcesOf : TH := mkTH [([], 136, .region 1, { lv := [⟨none, 20, 0⟩], ps := [(.bool, 0)], D := ⟨2096640⟩, rs := [⟨0, 2⟩] }),
  ([25], 141, .inl 0, { lv := [⟨none, 4, 0⟩, ⟨none, 5, 0⟩, ⟨some 0, 6, 0⟩], ps := [(I, 0), (I, 0), ((.sl (.pair I (.pair .bool .unit))), 1)], D := ⟨33554416⟩, wr := [⟨0, 6⟩], rs := [⟨0, 2⟩, ⟨0, 3⟩, ⟨0, 6⟩] }),
  ([25], 141, .block 0, { lv := [⟨some 0, 6, 0⟩], ps := [((.sl (.pair I (.pair .bool .unit))), 1)], abn := true, D := ⟨33552880⟩, wr := [⟨0, 6⟩], rs := [⟨0, 2⟩, ⟨0, 3⟩, ⟨0, 6⟩] }),
  ([25], 141, .loop 0, { lv := [⟨none, 11, 0⟩, ⟨some 0, 6, 0⟩], ps := [(I, 0), ((.sl (.pair I (.pair .bool .unit))), 1)], D := ⟨33552880⟩, wr := [⟨0, 6⟩], rs := [⟨0, 2⟩, ⟨0, 3⟩, ⟨0, 6⟩] }),
  ([19, 25], 171, .region 2, { lv := [⟨none, 8, 0⟩], ps := [(.bool, 0)], D := ⟨536346880⟩, rs := [⟨0, 2⟩] }),
  ([19, 25], 171, .region 3, { lv := [⟨none, 7, 0⟩], ps := [(I, 0)], D := ⟨1125899369971840⟩, rs := [⟨0, 2⟩] })] []
theorem k_sensor_sourcesOf (x : denP e_sensor_sourcesOf.ps) : fnT Try.prog Hn.hints j_sensor_sourcesOf (tabT [e_sensor_first, e_sensor_unless, e_sensor_within, e_slices_Contains_Lint_int]) 40 136 (ofPms e_sensor_sourcesOf.ps x) e_sensor_sourcesOf.rs = e_sensor_sourcesOf.F x := by kernel_rfl
theorem o_sensor_sourcesOf : EntryOk Try.prog Hn.hints Lb e_sensor_sourcesOf := entry_ok (tab_cons o_sensor_first (tab_cons o_sensor_unless (tab_cons o_sensor_within (tab_cons o_slices_Contains_Lint_int tab_nil)))) hJ 40 _ _ _ _ k_sensor_sourcesOf
/-- (ductility/sensor.source).sign -/
def sensor_source_sign (a0 : (Int × Bool × Unit)) : Option Int :=
  bif a0.2.1 then
    some (-1)
  else
    some 1
def e_sensor_source_sign : Entry := ⟨140, [.ty (.pair I (.pair .bool .unit))], [(I, 0)], fun x => sensor_source_sign x⟩
def j_sensor_source_sign : TH := mkTH [] []
theorem k_sensor_source_sign (x : denP e_sensor_source_sign.ps) : fnT Try.prog Hn.hints j_sensor_source_sign (tabT []) 40 140 (ofPms e_sensor_source_sign.ps x) e_sensor_source_sign.rs = e_sensor_source_sign.F x := by kernel_rfl
theorem o_sensor_source_sign : EntryOk Try.prog Hn.hints Lb e_sensor_source_sign := entry_ok tab_nil hJ 40 _ _ _ _ k_sensor_source_sign
/-- ductility/sensor.Undone -/
def sensor_Undone (a0 : (List (List Int))) (a1 : ((List Int) × (List Bool) × Unit)) : Option ((List (List Int)) × Int) :=
  (sensor_samplesOf a0).bind fun x1 =>
  (sensor_channelsErr a0 (4 : Int) x1).bind fun x2 =>
  bif !(decide (x2 = 0)) then
    some ([], x2)
  else
    (sensor_sourcesOf a1 (a0.length : Int)).bind fun x3 =>
    bif !(decide (x3.2 = 0)) then
      some ([], x3.2)
    else
      (mkS ([] : (List Int)) (a0.length : Int)).bind fun x4 =>
      bif decide ((a0.length : Int) = (a0.length : Int)) then
        (loopO (fun (s6 : ((List (List Int)) × Int)) =>
            bif decide (s6.2 < (x4.length : Int)) then
              (idx a0 0).bind fun x7 =>
              (mkS (0 : Int) (x7.length : Int)).bind fun x8 =>
              bif decide ((x7.length : Int) = (x7.length : Int)) then
                (idx s6.1 s6.2).bind fun x9 =>
                (idx s6.1 s6.2).bind fun x10 =>
                let l11 : (List (List Int)) := List.set s6.1 s6.2.toNat x8
                some (.inl (l11, w64 (s6.2 + 1)))
              else
                none
            else
              some (.inr s6.1)) (x4, 0)).bind fun (p12 : (List (List Int))) =>
        (loopO (fun (s14 : ((List (List Int)) × Int)) =>
            bif decide (s14.2 < (x3.1.length : Int)) then
              ((idx x3.1 s14.2).bind fun x15 =>
                bif decide (x15.1 = (-1)) then
                  some s14.1
                else
                  (idx a0 s14.2).bind fun x16 =>
                  (loopO (fun (s18 : ((List (List Int)) × Int)) =>
                      bif decide (s18.2 < (x16.length : Int)) then
                        (idx x16 s18.2).bind fun x19 =>
                        (idx s18.1 x15.1).bind fun x20 =>
                        (sensor_source_sign x15).bind fun x21 =>
                        (idx x20 s18.2).bind fun x22 =>
                        (idx s18.1 x15.1).bind fun x23 =>
                        (idx x23 s18.2).bind fun x24 =>
                        let l25 : (List Int) := List.set x23 s18.2.toNat (w64 (x21 * x19))
                        let l26 : (List (List Int)) := List.set s18.1 x15.1.toNat l25
                        some (.inl (l26, w64 (s18.2 + 1)))
                      else
                        some (.inr s18.1)) (s14.1, 0)).bind fun (p27 : (List (List Int))) =>
                  some p27).bind fun (p28 : (List (List Int))) =>
              some (.inl (p28, w64 (s14.2 + 1)))
            else
              some (.inr s14.1)) (p12, 0)).bind fun (p29 : (List (List Int))) =>
        some (p29, 0)
      else
        none
def e_sensor_Undone : Entry := ⟨76, [.ty (.sl (.sl I)), .ty (.pair (.sl I) (.pair (.sl .bool) .unit))], [((.sl (.sl I)), 2), (I, 0)], fun x => sensor_Undone x.1 x.2⟩
def j_sensor_Undone : TH := mkTH [([], 76, .block 0, { lv := [⟨none, 9, 0⟩], ps := [((.sl (.sl I)), 2)], D := ⟨562864259597824⟩ }),
  ([], 76, .loop 0, { lv := [⟨none, 9, 0⟩, ⟨none, 37, 0⟩], ps := [((.sl (.sl I)), 2), (I, 0)], D := ⟨562864259597824⟩ }),
  ([], 76, .block 2, { lv := [⟨none, 9, 0⟩], ps := [((.sl (.sl I)), 2)], D := ⟨4835703276206716885170816⟩, wr := [⟨0, 12⟩] }),
  ([], 76, .loop 2, { lv := [⟨none, 9, 0⟩, ⟨none, 51, 0⟩], ps := [((.sl (.sl I)), 2), (I, 0)], D := ⟨4835703276206716885170816⟩, wr := [⟨0, 12⟩], rs := [⟨0, 12⟩] }),
  ([], 76, .block 3, { lv := [⟨none, 9, 0⟩], ps := [((.sl (.sl I)), 2)], D := ⟨2417851630222059094702720⟩, wr := [⟨0, 12⟩], rs := [⟨0, 12⟩] }),
  ([], 76, .block 4, { lv := [⟨none, 9, 0⟩], ps := [((.sl (.sl I)), 2)], D := ⟨2417835516342592363061888⟩, rs := [⟨0, 12⟩] }),
  ([], 76, .loop 4, { lv := [⟨none, 9, 0⟩, ⟨none, 64, 0⟩], ps := [((.sl (.sl I)), 2), (I, 0)], D := ⟨2417835516342592363061888⟩, rs := [⟨0, 12⟩] })] []
theorem k_sensor_Undone (x : denP e_sensor_Undone.ps) : fnT Try.prog Hn.hints j_sensor_Undone (tabT [e_sensor_channelsErr, e_sensor_samplesOf, e_sensor_source_sign, e_sensor_sourcesOf]) 40 76 (ofPms e_sensor_Undone.ps x) e_sensor_Undone.rs = e_sensor_Undone.F x := by kernel_rfl
theorem o_sensor_Undone : EntryOk Try.prog Hn.hints Lb e_sensor_Undone := entry_ok (tab_cons o_sensor_channelsErr (tab_cons o_sensor_samplesOf (tab_cons o_sensor_source_sign (tab_cons o_sensor_sourcesOf tab_nil)))) hJ 40 _ _ _ _ k_sensor_Undone
/-- ductility/ductilitybase.Within -/
def base_Within (a0 : Int) (a1 : Int) (a2 : Int) : Option Bool :=
  (bif decide (a1 ≤ a0) then
      some (decide (a0 ≤ a2))
    else
      some false).bind fun (p1 : Bool) =>
  some p1
def e_base_Within : Entry := ⟨20, [.ty I, .ty I, .ty I], [(.bool, 0)], fun x => base_Within x.1 x.2.1 x.2.2⟩
def j_base_Within : TH := mkTH [([], 20, .region 1, { lv := [⟨none, 6, 0⟩], ps := [(.bool, 0)], D := ⟨32704⟩ })] []
theorem k_base_Within (x : denP e_base_Within.ps) : fnT Try.prog Hn.hints j_base_Within (tabT []) 40 20 (ofPms e_base_Within.ps x) e_base_Within.rs = e_base_Within.F x := by kernel_rfl
theorem o_base_Within : EntryOk Try.prog Hn.hints Lb e_base_Within := entry_ok tab_nil hJ 40 _ _ _ _ k_base_Within
/-- ductility/ductilityref07.CheckRaw -/
def ref07_CheckRaw (a0 : (List Int)) : Option (Int × Int) :=
  bif decide ((a0.length : Int) = 0) then
    some (0, 10)
  else
    bif decide ((a0.length : Int) > 60) then
      some (0, 8)
    else
      (loopO (fun (s2 : Int) =>
          bif decide (s2 < (a0.length : Int)) then
            (idx a0 s2).bind fun x3 =>
            (base_Within x3 (-100000 : Int) (100000 : Int)).bind fun x4 =>
            bif !x4 then
              some (.inr (.inr (s2, 2)))
            else
              some (.inl (w64 (s2 + 1)))
          else
            some (.inr (.inl ()))) 0).bind (Sum.elim (fun (p5 : Unit) =>
      some (0, 0)) some)
def e_ref07_CheckRaw : Entry := ⟨84, [.ty (.sl I)], [(I, 0), (I, 0)], fun x => ref07_CheckRaw x⟩
def j_ref07_CheckRaw : TH := mkTH [([], 84, .block 0, { lv := [], ps := [], abn := true, D := ⟨16775196⟩ }),
  ([], 84, .loop 0, { lv := [⟨none, 4, 0⟩], ps := [(I, 0)], D := ⟨16775196⟩ })] []
theorem k_ref07_CheckRaw (x : denP e_ref07_CheckRaw.ps) : fnT Try.prog Hn.hints j_ref07_CheckRaw (tabT [e_base_Within]) 40 84 (ofPms e_ref07_CheckRaw.ps x) e_ref07_CheckRaw.rs = e_ref07_CheckRaw.F x := by kernel_rfl
theorem o_ref07_CheckRaw : EntryOk Try.prog Hn.hints Lb e_ref07_CheckRaw := entry_ok (tab_cons o_base_Within tab_nil) hJ 40 _ _ _ _ k_ref07_CheckRaw
/-- ductility/ductilityref07.RawErr -/
def ref07_RawErr (a0 : (List Int)) : Option Int :=
  (ref07_CheckRaw a0).bind fun x1 =>
  some x1.2
def e_ref07_RawErr : Entry := ⟨39, [.ty (.sl I)], [(I, 0)], fun x => ref07_RawErr x⟩
def j_ref07_RawErr : TH := mkTH [] []
theorem k_ref07_RawErr (x : denP e_ref07_RawErr.ps) : fnT Try.prog Hn.hints j_ref07_RawErr (tabT [e_ref07_CheckRaw]) 40 39 (ofPms e_ref07_RawErr.ps x) e_ref07_RawErr.rs = e_ref07_RawErr.F x := by kernel_rfl
theorem o_ref07_RawErr : EntryOk Try.prog Hn.hints Lb e_ref07_RawErr := entry_ok (tab_cons o_ref07_CheckRaw tab_nil) hJ 40 _ _ _ _ k_ref07_RawErr
/-- ductility/ductilityref07.ChannelsErr -/
def ref07_ChannelsErr (a0 : (List (List Int))) (a1 : Int) : Option Int :=
  bif decide ((a0.length : Int) = 0) then
    some 10
  else
    bif decide ((a0.length : Int) > a1) then
      some 8
    else
      (loopO (fun (s2 : Int) =>
          bif decide (s2 < (a0.length : Int)) then
            (idx a0 s2).bind fun x3 =>
            (ref07_RawErr x3).bind fun x4 =>
            bif !(decide (x4 = 0)) then
              some (.inr (.inr x4))
            else
              (idx a0 s2).bind fun x5 =>
              (idx a0 0).bind fun x6 =>
              bif !(decide ((x5.length : Int) = (x6.length : Int))) then
                some (.inr (.inr 13))
              else
                some (.inl (w64 (s2 + 1)))
          else
            some (.inr (.inl ()))) 0).bind (Sum.elim (fun (p7 : Unit) =>
      some 0) some)
def e_ref07_ChannelsErr : Entry := ⟨77, [.ty (.sl (.sl I)), .ty I], [(I, 0)], fun x => ref07_ChannelsErr x.1 x.2⟩
def j_ref07_ChannelsErr : TH := mkTH [([], 77, .block 0, { lv := [], ps := [], abn := true, D := ⟨274877890672⟩ }),
  ([], 77, .loop 0, { lv := [⟨none, 5, 0⟩], ps := [(I, 0)], D := ⟨274877890672⟩ })] []
theorem k_ref07_ChannelsErr (x : denP e_ref07_ChannelsErr.ps) : fnT Try.prog Hn.hints j_ref07_ChannelsErr (tabT [e_ref07_RawErr]) 40 77 (ofPms e_ref07_ChannelsErr.ps x) e_ref07_ChannelsErr.rs = e_ref07_ChannelsErr.F x := by kernel_rfl
theorem o_ref07_ChannelsErr : EntryOk Try.prog Hn.hints Lb e_ref07_ChannelsErr := entry_ok (tab_cons o_ref07_RawErr tab_nil) hJ 40 _ _ _ _ k_ref07_ChannelsErr
/-- ductility/ductilityref07.ExplanationErr -/
def ref07_ExplanationErr (a0 : ((List Int) × (List Bool) × Unit)) (a1 : Int) : Option Int :=
  (bif !(decide ((a0.1.length : Int) = a1)) then
      some true
    else
      some (!(decide ((a0.2.1.length : Int) = a1)))).bind fun (p1 : Bool) =>
  bif p1 then
    some 10
  else
    (loopO (fun (s3 : Int) =>
        bif decide (s3 < a1) then
          (idx a0.1 s3).bind fun x4 =>
          (base_Within x4 (-1 : Int) (w64 (a1 - 1))).bind fun x5 =>
          bif !x5 then
            some (.inr (.inr 6))
          else
            (loopO (fun (s7 : Int) =>
                bif decide (s7 < s3) then
                  ((idx a0.1 s3).bind fun x8 =>
                    bif !(decide (x8 = (-1))) then
                      (idx a0.1 s7).bind fun x9 =>
                      (idx a0.1 s3).bind fun x10 =>
                      some (decide (x9 = x10))
                    else
                      some false).bind fun (p11 : Bool) =>
                  bif p11 then
                    some (.inr (.inr (.inr (.inr 23))))
                  else
                    some (.inl (w64 (s7 + 1)))
                else
                  some (.inr (.inl ()))) 0).bind (Sum.elim (fun (p12 : Unit) =>
            ((idx a0.1 s3).bind fun x13 =>
              bif decide (x13 = (-1)) then
                (idx a0.2.1 s3).bind fun x14 =>
                some x14
              else
                some false).bind fun (p15 : Bool) =>
            bif p15 then
              some (.inr (.inr 3))
            else
              some (.inl (w64 (s3 + 1)))) some)
        else
          some (.inr (.inl ()))) 0).bind (Sum.elim (fun (p16 : Unit) =>
    some 0) some)
def e_ref07_ExplanationErr : Entry := ⟨74, [.ty (.pair (.sl I) (.pair (.sl .bool) .unit)), .ty I], [(I, 0)], fun x => ref07_ExplanationErr x.1 x.2⟩
def j_ref07_ExplanationErr : TH := mkTH [([], 74, .region 1, { lv := [⟨none, 18, 0⟩], ps := [(.bool, 0)], D := ⟨524160⟩, rs := [⟨0, 2⟩] }),
  ([], 74, .block 0, { lv := [], ps := [], abn := true, D := ⟨1180591620717410779248⟩, rs := [⟨0, 2⟩] }),
  ([], 74, .loop 0, { lv := [⟨none, 5, 0⟩], ps := [(I, 0)], D := ⟨1180591620717410779248⟩, rs := [⟨0, 2⟩] }),
  ([], 74, .block 2, { lv := [], ps := [], abn := true, D := ⟨144115179485921360⟩, rs := [⟨0, 2⟩] }),
  ([], 74, .loop 2, { lv := [⟨none, 6, 0⟩], ps := [(I, 0)], D := ⟨144115179485921360⟩, rs := [⟨0, 2⟩] }),
  ([], 74, .region 11, { lv := [⟨none, 56, 0⟩], ps := [(.bool, 0)], D := ⟨144114913197948928⟩, rs := [⟨0, 2⟩] }),
  ([], 74, .region 13, { lv := [⟨none, 69, 0⟩], ps := [(.bool, 0)], D := ⟨1180447505529335447552⟩, rs := [⟨0, 2⟩] })] []
theorem k_ref07_ExplanationErr (x : denP e_ref07_ExplanationErr.ps) : fnT Try.prog Hn.hints j_ref07_ExplanationErr (tabT [e_base_Within]) 40 74 (ofPms e_ref07_ExplanationErr.ps x) e_ref07_ExplanationErr.rs = e_ref07_ExplanationErr.F x := by kernel_rfl
theorem o_ref07_ExplanationErr : EntryOk Try.prog Hn.hints Lb e_ref07_ExplanationErr := entry_ok (tab_cons o_base_Within tab_nil) hJ 40 _ _ _ _ k_ref07_ExplanationErr
/-- ductility/ductilityref07.Undone -/
def ref07_Undone (a0 : (List (List Int))) (a1 : ((List Int) × (List Bool) × Unit)) : Option (List (List Int)) :=
  (loopO (fun (s3 : ((List (List Int)) × Int)) =>
      bif decide (s3.2 < (a0.length : Int)) then
        (idx a0 0).bind fun x4 =>
        (mkS (0 : Int) (x4.length : Int)).bind fun x5 =>
        bif decide ((x4.length : Int) = (x4.length : Int)) then
          (app s3.1 ([x5])).bind fun x6 =>
          some (.inl (x6, w64 (s3.2 + 1)))
        else
          none
      else
        some (.inr s3.1)) ([], 0)).bind fun (p7 : (List (List Int))) =>
  (loopO (fun (s9 : ((List (List Int)) × Int)) =>
      bif decide (s9.2 < (a0.length : Int)) then
        (loopO (fun (s11 : ((List (List Int)) × Int)) =>
            ((idx a0 s9.2).bind fun x12 =>
              bif decide (s11.2 < (x12.length : Int)) then
                (idx a1.1 s9.2).bind fun x13 =>
                some (decide (x13 ≥ 0))
              else
                some false).bind fun (p14 : Bool) =>
            bif p14 then
              (idx a1.1 s9.2).bind fun x15 =>
              (idx s11.1 x15).bind fun x16 =>
              (idx a0 s9.2).bind fun x17 =>
              (idx x17 s11.2).bind fun x18 =>
              (idx x16 s11.2).bind fun x19 =>
              (idx s11.1 x15).bind fun x20 =>
              (idx x20 s11.2).bind fun x21 =>
              let l22 : (List Int) := List.set x20 s11.2.toNat x18
              let l23 : (List (List Int)) := List.set s11.1 x15.toNat l22
              (idx a1.2.1 s9.2).bind fun x24 =>
              (bif x24 then
                  (idx a1.1 s9.2).bind fun x25 =>
                  (idx l23 x25).bind fun x26 =>
                  (idx a0 s9.2).bind fun x27 =>
                  (idx x27 s11.2).bind fun x28 =>
                  (idx x26 s11.2).bind fun x29 =>
                  (idx l23 x25).bind fun x30 =>
                  (idx x30 s11.2).bind fun x31 =>
                  let l32 : (List Int) := List.set x30 s11.2.toNat (w64 (0 - x28))
                  let l33 : (List (List Int)) := List.set l23 x25.toNat l32
                  some l33
                else
                  some l23).bind fun (p34 : (List (List Int))) =>
              some (.inl (p34, w64 (s11.2 + 1)))
            else
              some (.inr s11.1)) (s9.1, 0)).bind fun (p35 : (List (List Int))) =>
        some (.inl (p35, w64 (s9.2 + 1)))
      else
        some (.inr s9.1)) (p7, 0)).bind fun (p36 : (List (List Int))) =>
  some p36
def e_ref07_Undone : Entry := ⟨79, [.ty (.sl (.sl I)), .ty (.pair (.sl I) (.pair (.sl .bool) .unit))], [((.sl (.sl I)), 2)], fun x => ref07_Undone x.1 x.2⟩
def j_ref07_Undone : TH := mkTH [([], 79, .block 0, { lv := [⟨none, 5, 0⟩], ps := [((.sl (.sl I)), 2)], D := ⟨8388192⟩ }),
  ([], 79, .loop 0, { lv := [⟨none, 5, 0⟩, ⟨none, 6, 0⟩], ps := [((.sl (.sl I)), 2), (I, 0)], D := ⟨8388192⟩ }),
  ([], 79, .block 2, { lv := [⟨none, 5, 0⟩], ps := [((.sl (.sl I)), 2)], D := ⟨77371252455336267172807072⟩ }),
  ([], 79, .loop 2, { lv := [⟨none, 5, 0⟩, ⟨none, 7, 0⟩], ps := [((.sl (.sl I)), 2), (I, 0)], D := ⟨77371252455336267172807072⟩, rs := [⟨0, 3⟩] }),
  ([], 79, .block 4, { lv := [⟨none, 5, 0⟩], ps := [((.sl (.sl I)), 2)], D := ⟨77371252455336266644324640⟩, rs := [⟨0, 3⟩] }),
  ([], 79, .loop 4, { lv := [⟨none, 5, 0⟩, ⟨none, 8, 0⟩], ps := [((.sl (.sl I)), 2), (I, 0)], D := ⟨77371252455336266644324640⟩, rs := [⟨0, 3⟩] }),
  ([], 79, .region 10, { lv := [⟨none, 43, 0⟩], ps := [(.bool, 0)], D := ⟨17591649173504⟩, rs := [⟨0, 3⟩] }),
  ([], 79, .cond 67, { lv := [⟨none, 5, 0⟩], ps := [((.sl (.sl I)), 2)], D := ⟨77371031094407382666575904⟩, rs := [⟨0, 3⟩] })] []
theorem k_ref07_Undone (x : denP e_ref07_Undone.ps) : fnT Try.prog Hn.hints j_ref07_Undone (tabT []) 40 79 (ofPms e_ref07_Undone.ps x) e_ref07_Undone.rs = e_ref07_Undone.F x := by kernel_rfl
theorem o_ref07_Undone : EntryOk Try.prog Hn.hints Lb e_ref07_Undone := entry_ok tab_nil hJ 40 _ _ _ _ k_ref07_Undone
/-- ductility/ductilitybase.Ints -/
def base_Ints (a0 : (List Int)) (a1 : (List Int)) : Option Bool :=
  bif !(decide ((a0.length : Int) = (a1.length : Int))) then
    some false
  else
    (loopO (fun (s2 : Int) =>
        bif decide (s2 < (a0.length : Int)) then
          (idx a0 s2).bind fun x3 =>
          (idx a1 s2).bind fun x4 =>
          bif !(decide (x3 = x4)) then
            some (.inr (.inr false))
          else
            some (.inl (w64 (s2 + 1)))
        else
          some (.inr (.inl ()))) 0).bind (Sum.elim (fun (p5 : Unit) =>
    some true) some)
def e_base_Ints : Entry := ⟨21, [.ty (.sl I), .ty (.sl I)], [(.bool, 0)], fun x => base_Ints x.1 x.2⟩
def j_base_Ints : TH := mkTH [([], 21, .block 0, { lv := [], ps := [], abn := true, D := ⟨67106864⟩ }),
  ([], 21, .loop 0, { lv := [⟨none, 5, 0⟩], ps := [(I, 0)], D := ⟨67106864⟩ })] []
theorem k_base_Ints (x : denP e_base_Ints.ps) : fnT Try.prog Hn.hints j_base_Ints (tabT []) 40 21 (ofPms e_base_Ints.ps x) e_base_Ints.rs = e_base_Ints.F x := by kernel_rfl
theorem o_base_Ints : EntryOk Try.prog Hn.hints Lb e_base_Ints := entry_ok tab_nil hJ 40 _ _ _ _ k_base_Ints
/-- ductility/ductilitybase.Lists -/
def base_Lists (a0 : (List (List Int))) (a1 : (List (List Int))) : Option Bool :=
  bif !(decide ((a0.length : Int) = (a1.length : Int))) then
    some false
  else
    (loopO (fun (s2 : Int) =>
        bif decide (s2 < (a0.length : Int)) then
          (idx a0 s2).bind fun x3 =>
          (idx a1 s2).bind fun x4 =>
          (base_Ints x3 x4).bind fun x5 =>
          bif !x5 then
            some (.inr (.inr false))
          else
            some (.inl (w64 (s2 + 1)))
        else
          some (.inr (.inl ()))) 0).bind (Sum.elim (fun (p6 : Unit) =>
    some true) some)
def e_base_Lists : Entry := ⟨78, [.ty (.sl (.sl I)), .ty (.sl (.sl I))], [(.bool, 0)], fun x => base_Lists x.1 x.2⟩
def j_base_Lists : TH := mkTH [([], 78, .block 0, { lv := [], ps := [], abn := true, D := ⟨134215728⟩ }),
  ([], 78, .loop 0, { lv := [⟨none, 5, 0⟩], ps := [(I, 0)], D := ⟨134215728⟩ })] []
theorem k_base_Lists (x : denP e_base_Lists.ps) : fnT Try.prog Hn.hints j_base_Lists (tabT [e_base_Ints]) 40 78 (ofPms e_base_Lists.ps x) e_base_Lists.rs = e_base_Lists.F x := by kernel_rfl
theorem o_base_Lists : EntryOk Try.prog Hn.hints Lb e_base_Lists := entry_ok (tab_cons o_base_Ints tab_nil) hJ 40 _ _ _ _ k_base_Lists
/-- ductility/ductilitylaw07.SensorUndone -/
def law07_SensorUndone (a0 : (List (List Int))) (a1 : ((List Int) × (List Bool) × Unit)) : Option Bool :=
  (law07_awake).bind fun x1 =>
  bif !x1 then
    some false
  else
    ((law07_channels a0).bind fun x2 =>
      bif !x2 then
        some true
      else
        bif decide ((a1.1.length : Int) > 6) then
          some true
        else
          some (decide ((a1.2.1.length : Int) > 6))).bind fun (p3 : Bool) =>
    bif p3 then
      some true
    else
      (base_CopyLists a0).bind fun x4 =>
      (ref07_CopyExplanation a1).bind fun x5 =>
      (sensor_Undone x4 x5).bind fun x6 =>
      (ref07_ChannelsErr a0 (4 : Int)).bind fun x7 =>
      (bif decide (x7 = 0) then
          (ref07_ExplanationErr a1 (a0.length : Int)).bind fun x8 =>
          some x8
        else
          some x7).bind fun (p9 : Int) =>
      bif !(decide (p9 = 0)) then
        (bif decide (x6.2 = p9) then
            some (decide ((x6.1.length : Int) = 0))
          else
            some false).bind fun (p10 : Bool) =>
        some p10
      else
        (bif decide (x6.2 = 0) then
            (ref07_Undone a0 a1).bind fun x11 =>
            (base_Lists x6.1 x11).bind fun x12 =>
            some x12
          else
            some false).bind fun (p13 : Bool) =>
        some p13
def e_law07_SensorUndone : Entry := ⟨11, [.ty (.sl (.sl I)), .ty (.pair (.sl I) (.pair (.sl .bool) .unit))], [(.bool, 0)], fun x => law07_SensorUndone x.1 x.2⟩
def j_law07_SensorUndone : TH := mkTH [([], 11, .region 3, { lv := [⟨none, 24, 0⟩], ps := [(.bool, 0)], D := ⟨33553408⟩, rs := [⟨0, 3⟩] }),
  ([], 11, .cond 36, { lv := [⟨none, 7, 0⟩], ps := [(I, 0)], D := ⟨2061584302208⟩ }),
  ([], 11, .region 10, { lv := [⟨none, 4, 0⟩], ps := [(.bool, 0)], D := ⟨2243003720663056⟩ }),
  ([], 11, .region 11, { lv := [⟨none, 4, 0⟩], ps := [(.bool, 0)], D := ⟨1150669704793161744⟩ })] []
theorem k_law07_SensorUndone (x : denP e_law07_SensorUndone.ps) : fnT Try.prog Hn.hints j_law07_SensorUndone (tabT [e_base_CopyLists, e_base_Lists, e_law07_awake, e_law07_channels, e_ref07_ChannelsErr, e_ref07_CopyExplanation, e_ref07_ExplanationErr, e_ref07_Undone, e_sensor_Undone]) 40 11 (ofPms e_law07_SensorUndone.ps x) e_law07_SensorUndone.rs = e_law07_SensorUndone.F x := by kernel_rfl
theorem o_law07_SensorUndone : EntryOk Try.prog Hn.hints Lb e_law07_SensorUndone := entry_ok (tab_cons o_base_CopyLists (tab_cons o_base_Lists (tab_cons o_law07_awake (tab_cons o_law07_channels (tab_cons o_ref07_ChannelsErr (tab_cons o_ref07_CopyExplanation (tab_cons o_ref07_ExplanationErr (tab_cons o_ref07_Undone (tab_cons o_sensor_Undone tab_nil))))))))) hJ 40 _ _ _ _ k_law07_SensorUndone
end
end Go.Proofs.Ytpiggpgocnlomaa
end
section
/-
  PLAIN LAWS of the primitives of typed functions: loops, lists, numbers.
-/
set_option linter.unusedVariables false
namespace Go.Tx
open Go
theorem wrap_id {n : Int} (h1 : -9223372036854775808 ≤ n) (h2 : n ≤ 9223372036854775807) : IntKind.wrap .i64 n = n := by
  rw [IntKind.wrap_i64]; omega
theorem idx_nat {α : Type} (l : List α) (i : Nat) : idx l (i : Int) = l[i]? := by simp [idx]
theorem idx_zero {α : Type} (l : List α) : idx l 0 = l[0]? := by simp [idx]
theorem idx_of {α : Type} {l : List α} {i : Nat} {a : α} (h : l[i]? = some a) : idx l (i : Int) = some a := by simp [idx, h]
theorem app_of {α : Type} {l l2 : List α} (h : l.length + l2.length ≤ 4294967296) : app l l2 = some (l ++ l2) := by simp [app, h]

section
variable {σ ρ : Type} {f : σ → Option (σ ⊕ ρ)}
theorem loopN_mono : ∀ {n m : Nat} {s : σ} {r : ρ}, loopN f n s = some r → n ≤ m → loopN f m s = some r
  | 0, m, s, r, h, _ => by simp [loopN] at h
  | n + 1, 0, s, r, h, hm => by omega
  | n + 1, m + 1, s, r, h, hm => by
    simp only [loopN] at h ⊢
    cases hf : f s with
    | none => rw [hf] at h; cases h
    | some x =>
      rw [hf] at h
      cases x with
      | inl s' => exact loopN_mono h (by omega)
      | inr r' => exact h
theorem loopO_of {n : Nat} {s : σ} {r : ρ} (h : loopN f n s = some r) : loopO f s = some r := by
  have hex : ∃ n r, loopN f n s = some r := ⟨n, r, h⟩
  cases hl : loopO f s with
  | none => exfalso; unfold loopO at hl; rw [dif_pos hex] at hl; cases hl
  | some r' =>
    obtain ⟨m, hm⟩ := loopO_some hl
    have h1 := loopN_mono h (Nat.le_max_left n m)
    have h2 := loopN_mono hm (Nat.le_max_right n m)
    rw [← h1, ← h2]
theorem loopO_inl {s s' : σ} (h : f s = some (.inl s')) : loopO f s = loopO f s' := by
  cases hl : loopO f s' with
  | some r =>
    obtain ⟨n, hn⟩ := loopO_some hl
    exact loopO_of (n := n + 1) (by simp [loopN, h, hn])
  | none =>
    cases hl2 : loopO f s with
    | none => rfl
    | some r =>
      obtain ⟨n, hn⟩ := loopO_some hl2
      cases n with
      | zero => simp [loopN] at hn
      | succ n =>
        simp only [loopN, h] at hn
        rw [loopO_of hn] at hl
        cases hl
theorem loopO_inr {s : σ} {r : ρ} (h : f s = some (.inr r)) : loopO f s = some r := loopO_of (n := 1) (by simp [loopN, h])
/-- A LOOP with an invariant that counts up to n -/
theorem loop_inv (n : Nat) (I : Nat → σ → Prop) (Q : ρ → Prop)
    (hs : ∀ i s, i ≤ n → I i s → (∃ s', f s = some (.inl s') ∧ i < n ∧ I (i + 1) s') ∨ (∃ r, f s = some (.inr r) ∧ Q r)) {s : σ} (h0 : I 0 s) : ∃ r, loopO f s = some r ∧ Q r := by
  have h : ∀ k i s, n - i = k → i ≤ n → I i s → ∃ r, loopO f s = some r ∧ Q r := by
    intro k
    induction k with
    | zero =>
      intro i s hk hi hI
      rcases hs i s hi hI with ⟨s', _, h, _⟩ | ⟨r, h, hq⟩
      · omega
      · exact ⟨r, loopO_inr h, hq⟩
    | succ k ih =>
      intro i s hk hi hI
      rcases hs i s hi hI with ⟨s', h, hlt, hI'⟩ | ⟨r, h, hq⟩
      · obtain ⟨r, hr, hq⟩ := ih (i + 1) s' (by omega) (by omega) hI'
        exact ⟨r, by rw [loopO_inl h, hr], hq⟩
      · exact ⟨r, loopO_inr h, hq⟩
  exact h n 0 s (by omega) (by omega) h0
end
/-- the first element at which g answers -/
def findI {α ρ : Type} (g : Nat → α → Option ρ) : Nat → List α → Option ρ
  | _, [] => none
  | k, a :: l => match g k a with
    | some r => some r
    | none => findI g (k + 1) l
theorem findI_const {α ρ : Type} (g : α → Option ρ) : ∀ (l : List α) (k : Nat), findI (fun _ a => g a) k l = l.findSome? g
  | [], k => rfl
  | a :: l, k => by simp only [findI, List.findSome?_cons]; cases g a <;> simp [findI_const g l]
def toSum {ρ : Type} : Option ρ → Unit ⊕ ρ
  | some r => .inr r
  | none => .inl ()
def stp {ρ : Type} (i : Nat) : Option ρ → Int ⊕ (Unit ⊕ ρ)
  | some r => .inr (.inr r)
  | none => .inl ((i : Int) + 1)
/-- A LOOP over a list that goes until g answers -/
theorem loop_list {α ρ : Type} (l : List α) {f : Int → Option (Int ⊕ (Unit ⊕ ρ))} (g : Nat → α → Option ρ)
    (h : ∀ (i : Nat) (a : α), l[i]? = some a → f i = some (stp i (g i a)))
    (he : f l.length = some (.inr (.inl ()))) : loopO f 0 = some (toSum (findI g 0 l)) := by
  have key : ∀ (l2 l1 : List α), l1 ++ l2 = l → loopO f (l1.length : Nat) = some (toSum (findI g l1.length l2)) := by
    intro l2
    induction l2 with
    | nil =>
      intro l1 e
      have : l1 = l := by simpa using e
      subst this
      rw [loopO_inr he]; rfl
    | cons a l2 ih =>
      intro l1 e
      have hi : l[l1.length]? = some a := by rw [← e]; simp
      have hf := h _ _ hi
      simp only [findI]
      cases hg : g l1.length a with
      | some r => rw [hg] at hf; rw [loopO_inr hf]; rfl
      | none =>
        rw [hg] at hf
        rw [loopO_inl hf]
        have := ih (l1 ++ [a]) (by simp [e])
        simpa using this
  simpa using key l [] rfl
/-- folding with the index -/
def foldI {α β : Type} (g : Nat → β → α → β) : Nat → β → List α → β
  | _, b, [] => b
  | k, b, a :: l => foldI g (k + 1) (g k b a) l
theorem loop_fold {α β ρ : Type} (l : List α) {f : β × Int → Option ((β × Int) ⊕ ρ)} (g : Nat → β → α → β) (fin : β → ρ) (I : Nat → β → Prop) {b0 : β} (h0 : I 0 b0)
    (h : ∀ (i : Nat) (a : α) (b : β), l[i]? = some a → I i b → f (b, (i : Int)) = some (.inl (g i b a, (i : Int) + 1)) ∧ I (i + 1) (g i b a))
    (he : ∀ b, I l.length b → f (b, (l.length : Int)) = some (.inr (fin b))) : loopO f (b0, 0) = some (fin (foldI g 0 b0 l)) := by
  have key : ∀ (l2 l1 : List α) (b : β), l1 ++ l2 = l → I l1.length b → loopO f (b, ((l1.length : Nat) : Int)) = some (fin (foldI g l1.length b l2)) := by
    intro l2
    induction l2 with
    | nil =>
      intro l1 b e hI
      have : l1 = l := by simpa using e
      subst this
      rw [loopO_inr (he b hI)]; rfl
    | cons a l2 ih =>
      intro l1 b e hI
      have hi : l[l1.length]? = some a := by rw [← e]; simp
      obtain ⟨hf, hI'⟩ := h _ _ _ hi hI
      rw [loopO_inl hf]
      have := ih (l1 ++ [a]) (g l1.length b a) (by simp [e]) (by simpa using hI')
      simpa [foldI] using this
  simpa using key l [] b0 rfl (by simpa using h0)
end Go.Tx
end
section
/-
  PLAIN TOOLS: what an option is said to hold; loops by a measure, by an index.
-/
set_option linter.unusedVariables false
namespace Go.Tx
open Go
def Ok {α : Type} (o : Option α) (Q : α → Prop) : Prop := ∃ a, o = some a ∧ Q a
section
variable {α β σ ρ τ : Type}
theorem ok_some {a : α} {Q : α → Prop} : Ok (some a) Q ↔ Q a := ⟨fun ⟨_, h, hq⟩ => by cases h; exact hq, fun h => ⟨a, rfl, h⟩⟩
theorem ok_none {Q : α → Prop} : Ok (none : Option α) Q ↔ False := ⟨fun ⟨_, h, _⟩ => (by cases h), fun h => h.elim⟩
theorem ok_eq {o : Option α} {a : α} : Ok o (fun r => r = a) ↔ o = some a := ⟨fun ⟨_, h, hq⟩ => by rw [h, hq], fun h => ⟨a, h, rfl⟩⟩
theorem Ok.eq {o : Option α} {a : α} (h : Ok o (fun r => r = a)) : o = some a := ok_eq.1 h
theorem Ok.mono {o : Option α} {P Q : α → Prop} (h : Ok o P) (hq : ∀ a, P a → Q a) : Ok o Q := by obtain ⟨a, h1, h2⟩ := h; exact ⟨a, h1, hq a h2⟩
theorem Ok.bind {o : Option α} {k : α → Option β} {P : α → Prop} {Q : β → Prop} (h : Ok o P) (hk : ∀ a, P a → Ok (k a) Q) : Ok (o.bind k) Q := by
  obtain ⟨a, h1, h2⟩ := h; rw [h1]; exact hk a h2
theorem ok_bind {o : Option α} {k : α → Option β} {Q : β → Prop} : Ok (o.bind k) Q ↔ Ok o fun a => Ok (k a) Q := by
  cases o with
  | none => simp [ok_none]
  | some a => simp [ok_some]
theorem ok_bif {c : Bool} {a b : Option α} {Q : α → Prop} : Ok (bif c then a else b) Q ↔ (c = true → Ok a Q) ∧ (c = false → Ok b Q) := by cases c <;> simp
theorem ok_ite {c : Prop} [Decidable c] {a b : Option α} {Q : α → Prop} : Ok (if c then a else b) Q ↔ (c → Ok a Q) ∧ (¬ c → Ok b Q) := by by_cases h : c <;> simp [h]
theorem bif_dec {c : Prop} [Decidable c] {a b : α} : (bif decide c then a else b) = if c then a else b := by by_cases h : c <;> simp [h]
theorem bif_ndec {c : Prop} [Decidable c] {a b : α} : (bif !(decide c) then a else b) = if c then b else a := by by_cases h : c <;> simp [h]
theorem idx_in {l : List α} {n : Int} (d : α) (h0 : 0 ≤ n) (h1 : n < l.length) : idx l n = some (l.getD n.toNat d) := by
  unfold idx
  rw [if_pos h0]
  have : n.toNat < l.length := by omega
  simp [this]
theorem idx_int {l : List Int} {n : Int} (h0 : 0 ≤ n) (h1 : n < l.length) : idx l n = some (l.getD n.toNat 0) := idx_in 0 h0 h1
theorem idx_nil {l : List (List α)} {n : Int} (h0 : 0 ≤ n) (h1 : n < l.length) : idx l n = some (l.getD n.toNat []) := idx_in [] h0 h1
theorem w64_in {n : Int} (h1 : -9223372036854775808 ≤ n) (h2 : n ≤ 9223372036854775807) : IntKind.wrap .i64 n = n := wrap_id h1 h2
theorem app_in {l l2 : List α} (h : l.length + l2.length ≤ 4294967296) : app l l2 = some (l ++ l2) := app_of h
theorem app_one {l : List α} {a : α} (h : l.length ≤ 4294967295) : app l [a] = some (l ++ [a]) := app_of (by simp; omega)
theorem app_nil {l2 : List α} (h : l2.length ≤ 4294967296) : app [] l2 = some l2 := by rw [app_of (by simpa using h)]; rfl
theorem slc_in {l : List α} {a b : Int} (h : 0 ≤ a ∧ a ≤ b ∧ b ≤ l.length) : slc l a b = some ((l.take b.toNat).drop a.toNat) := by unfold slc; rw [if_pos h]
theorem mkS_in {z : α} {n : Int} (h : 0 ≤ n ∧ n ≤ 4294967296) : mkS z n = some (List.replicate n.toNat z) := by unfold mkS; rw [if_pos h]

/-- one round of a loop -/
def Rnd (o : Option (σ ⊕ ρ)) (I : σ → Prop) (Q : ρ → Prop) : Prop := Ok o fun x => match x with
  | .inl s => I s
  | .inr r => Q r
theorem rnd_inl {s : σ} {I : σ → Prop} {Q : ρ → Prop} : Rnd (some (.inl s)) I Q ↔ I s := ok_some
theorem rnd_inr {r : ρ} {I : σ → Prop} {Q : ρ → Prop} : Rnd (some (.inr r) : Option (σ ⊕ ρ)) I Q ↔ Q r := ok_some
theorem rnd_bind {o : Option α} {k : α → Option (σ ⊕ ρ)} {I : σ → Prop} {Q : ρ → Prop} : Rnd (o.bind k) I Q ↔ Ok o fun a => Rnd (k a) I Q := ok_bind
theorem rnd_bif {c : Bool} {a b : Option (σ ⊕ ρ)} {I : σ → Prop} {Q : ρ → Prop} : Rnd (bif c then a else b) I Q ↔ (c = true → Rnd a I Q) ∧ (c = false → Rnd b I Q) := ok_bif
theorem rnd_ite {c : Prop} [Decidable c] {a b : Option (σ ⊕ ρ)} {I : σ → Prop} {Q : ρ → Prop} : Rnd (if c then a else b) I Q ↔ (c → Rnd a I Q) ∧ (¬ c → Rnd b I Q) := ok_ite
/-- A LOOP by a measure -/
theorem loop_wf {f : σ → Option (σ ⊕ ρ)} (μ : σ → Nat) (I : σ → Prop) (Q : ρ → Prop) {s : σ} (h0 : I s)
    (hs : ∀ s, I s → Rnd (f s) (fun s' => I s' ∧ μ s' < μ s) Q) : Ok (loopO f s) Q := by
  have key : ∀ n s, μ s ≤ n → I s → Ok (loopO f s) Q := by
    intro n
    induction n with
    | zero =>
      intro s hn hI
      obtain ⟨x, hx, h⟩ := hs s hI
      cases x with
      | inl s' => exact absurd h.2 (by omega)
      | inr r => exact ⟨r, loopO_inr hx, h⟩
    | succ n ih =>
      intro s hn hI
      obtain ⟨x, hx, h⟩ := hs s hI
      cases x with
      | inl s' => rw [loopO_inl hx]; exact ih s' (by have := h.2; omega) h.1
      | inr r => exact ⟨r, loopO_inr hx, h⟩
  exact key _ s (Nat.le_refl _) h0
/-- A LOOP that counts up to n -/
theorem loop_up {f : σ → Option (σ ⊕ ρ)} (n : Nat) (I : Nat → σ → Prop) (Q : ρ → Prop) {s : σ} (h0 : I 0 s)
    (hs : ∀ i s, i ≤ n → I i s → Rnd (f s) (fun s' => i < n ∧ I (i + 1) s') Q) : Ok (loopO f s) Q := by
  obtain ⟨r, h1, h2⟩ := loop_inv n I Q (fun i s hi hI => by
    obtain ⟨x, hx, h⟩ := hs i s hi hI
    cases x with
    | inl s' => exact .inl ⟨s', hx, h⟩
    | inr r => exact .inr ⟨r, hx, h⟩) h0
  exact ⟨r, h1, h2⟩
theorem ok_elim {o : Option (α ⊕ β)} {k : α → Option β} {Q : β → Prop} : Ok (o.bind (Sum.elim k some)) Q ↔ Ok o fun x => match x with
    | .inl a => Ok (k a) Q
    | .inr b => Q b := by
  rw [ok_bind]
  cases o with
  | none => simp [ok_none]
  | some x => cases x <;> simp [ok_some]
end
theorem rnd_elim {α σ ρ : Type} {o : Option (α ⊕ (σ ⊕ ρ))} {k : α → Option (σ ⊕ ρ)} {I : σ → Prop} {Q : ρ → Prop} : Rnd (o.bind (Sum.elim k some)) I Q ↔ Ok o fun x => match x with
    | .inl a => Rnd (k a) I Q
    | .inr b => match b with
      | .inl s => I s
      | .inr r => Q r := by
  cases o with
  | none => simp [Rnd, ok_none]
  | some x => cases x with
    | inl a => simp only [Option.bind_some, Sum.elim_inl, ok_some]
    | inr b => simp only [Option.bind_some, Sum.elim_inr, ok_some]; unfold Rnd; rw [ok_some]
theorem getD_at {α : Type} {l : List α} {i : Nat} {a d : α} (h : l[i]? = some a) : l.getD i d = a := by simp [h]
theorem take_next {α : Type} {l : List α} {i : Nat} (d : α) (h : i < l.length) : l.take (i + 1) = l.take i ++ [l.getD i d] := by
  rw [List.take_add_one]; simp [h]
end Go.Tx
end
section
/-
  PLAIN TOOLS: loops over a list that look for something; comparing and copying lists.
-/
set_option linter.unusedVariables false
namespace Go.Tx
open Go
section
variable {α β ρ τ : Type}
theorem len_lt {l : List α} {i : Nat} {a : α} (h : l[i]? = some a) : i < l.length := (List.getElem?_eq_some_iff.1 h).1
/-- A LOOP over a list that ends early where g answers -/
theorem for_find (l : List α) (K : Int → Option (Int ⊕ (Unit ⊕ ρ))) (g : Nat → α → Option ρ) (h : ∀ (i : Nat) (a : α), l[i]? = some a → K i = some (stp i (g i a))) :
    loopO (fun s => bif decide (s < (l.length : Int)) then K s else some (.inr (.inl ()))) 0 = some (toSum (findI g 0 l)) := by
  refine loop_list l g (fun i a hi => ?_) ?_
  · have := len_lt hi
    have e : decide ((i : Int) < (l.length : Int)) = true := by simp; omega
    simp only [e, cond_true]
    exact h i a hi
  · simp
theorem elim_toSum {o : Option ρ} {k : Unit → Option ρ} : (some (toSum o)).bind (Sum.elim k some) = (match o with
    | some r => some r
    | none => k ()) := by cases o <;> rfl
theorem findI_none {g : Nat → α → Option ρ} : ∀ {l : List α} {k : Nat}, findI g k l = none ↔ ∀ i a, l[i]? = some a → g (k + i) a = none
  | [], k => by simp [findI]
  | a :: l, k => by
    simp only [findI]
    cases hg : g k a with
    | some r =>
      simp only [reduceCtorEq, false_iff]
      intro h
      have := h 0 a rfl
      simp [hg] at this
    | none =>
      simp only
      rw [findI_none (l := l) (k := k + 1)]
      constructor
      · intro h i b hb
        cases i with
        | zero => simp at hb; subst hb; simpa using hg
        | succ i => have := h i b (by simpa using hb); rw [← this]; congr 1; omega
      · intro h i b hb
        have := h (i + 1) b (by simpa using hb)
        rw [← this]; congr 1; omega
theorem findI_some {g : Nat → α → Option ρ} {r : ρ} : ∀ {l : List α} {k : Nat}, findI g k l = some r → ∃ i a, l[i]? = some a ∧ g (k + i) a = some r ∧ ∀ j b, j < i → l[j]? = some b → g (k + j) b = none
  | [], k, h => by simp [findI] at h
  | a :: l, k, h => by
    simp only [findI] at h
    cases hg : g k a with
    | some r' =>
      rw [hg] at h
      simp only [Option.some.injEq] at h
      subst h
      exact ⟨0, a, rfl, by simpa using hg, fun j b hj => by omega⟩
    | none =>
      rw [hg] at h
      obtain ⟨i, b, h1, h2, h3⟩ := findI_some (l := l) (k := k + 1) h
      refine ⟨i + 1, b, by simpa using h1, by rw [← h2]; congr 1; omega, fun j c hj hc => ?_⟩
      cases j with
      | zero => simp at hc; subst hc; simpa using hg
      | succ j => have := h3 j c (by omega) (by simpa using hc); rw [← this]; congr 1; omega
/-- the index of one -/
theorem for_idx (l : List α) (p : α → Bool) (hl : l.length ≤ 1000000000) :
    Ok ((loopO (fun (s2 : Int) =>
      bif decide (s2 < (l.length : Int)) then
        (idx l s2).bind fun x3 =>
        bif p x3 then
          some (.inr (.inr s2))
        else
          some (.inl (IntKind.wrap .i64 (s2 + 1)))
      else
        some (.inr (.inl ()))) 0).bind (Sum.elim (fun (p5 : Unit) =>
    some (-1)) some)) fun r => decide (r ≥ 0) = l.any p := by
  rw [for_find l _ (fun i a => if p a then some (i : Int) else none) (fun i a hi => by
    have := len_lt hi
    rw [idx_of hi]
    simp only [Option.bind_some]
    cases hp : p a
    · simp only [cond_false, Bool.false_eq_true, if_false, stp]; rw [wrap_id (by omega) (by omega)]
    · simp [stp]), elim_toSum]
  cases hf : findI (fun i a => if p a then some (i : Int) else none) 0 l with
  | none =>
    rw [findI_none] at hf
    have : l.any p = false := by
      rw [List.any_eq_false]
      intro x hx
      obtain ⟨i, hi⟩ := List.mem_iff_getElem?.1 hx
      have := hf i x hi
      simpa using this
    exact ⟨_, rfl, by rw [this]; rfl⟩
  | some r =>
    obtain ⟨i, a, h1, h2, _⟩ := findI_some hf
    have hp : p a = true := by
      cases hp : p a
      · simp [hp] at h2
      · rfl
    have : l.any p = true := List.any_eq_true.2 ⟨a, List.mem_of_getElem? h1, hp⟩
    simp only [hp, if_true, Option.some.injEq] at h2
    exact ⟨_, rfl, by rw [this]; simp; omega⟩
/-- is there one? -/
theorem for_any (l : List α) (pf : α → Option Bool) (p : α → Bool) (h : ∀ x ∈ l, pf x = some (p x)) (hl : l.length ≤ 1000000000) :
    ((loopO (fun (s2 : Int) =>
      bif decide (s2 < (l.length : Int)) then
        (idx l s2).bind fun x3 =>
        (pf x3).bind fun x4 =>
        bif x4 then
          some (.inr (.inr s2))
        else
          some (.inl (IntKind.wrap .i64 (s2 + 1)))
      else
        some (.inr (.inl ()))) 0).bind (Sum.elim (fun (p5 : Unit) =>
    some (-1)) some)).bind (fun x1 => some (decide (x1 ≥ 0))) = some (l.any p) := by
  rw [for_find l _ (fun i a => if p a then some (i : Int) else none) (fun i a hi => by
    have := len_lt hi
    rw [idx_of hi]
    simp only [Option.bind_some]
    rw [h a (List.mem_of_getElem? hi)]
    simp only [Option.bind_some]
    cases hp : p a
    · simp only [cond_false, Bool.false_eq_true, if_false, stp]; rw [wrap_id (by omega) (by omega)]
    · simp [stp]), elim_toSum]
  cases hf : findI (fun i a => if p a then some (i : Int) else none) 0 l with
  | none =>
    rw [findI_none] at hf
    have : l.any p = false := by
      rw [List.any_eq_false]
      intro x hx
      obtain ⟨i, hi⟩ := List.mem_iff_getElem?.1 hx
      have := hf i x hi
      simpa using this
    rw [this]; rfl
  | some r =>
    obtain ⟨i, a, h1, h2, _⟩ := findI_some hf
    have hp : p a = true := by
      cases hp : p a
      · simp [hp] at h2
      · rfl
    have : l.any p = true := List.any_eq_true.2 ⟨a, List.mem_of_getElem? h1, hp⟩
    rw [this]
    simp only [hp, if_true, Option.some.injEq] at h2
    simp only [Option.bind_some]
    have : decide (r ≥ 0) = true := by simp; omega
    rw [this]
/-- the first error -/
def fst0 : List Int → Int
  | [] => 0
  | e :: l => if e = 0 then fst0 l else e
theorem findI_fst0 : ∀ (l : List Int) (k : Nat), findI (fun _ e => if e = 0 then none else some e) k l = if fst0 l = 0 then none else some (fst0 l)
  | [], k => rfl
  | e :: l, k => by
    simp only [findI, fst0]
    by_cases h : e = 0
    · simp only [h, if_true]; exact findI_fst0 l (k + 1)
    · simp [h]
theorem for_first (l : List Int) (hl : l.length ≤ 1000000000) :
    (loopO (fun (s2 : Int) =>
      bif decide (s2 < (l.length : Int)) then
        (idx l s2).bind fun x3 =>
        bif !(decide (x3 = 0)) then
          some (.inr (.inr x3))
        else
          some (.inl (IntKind.wrap .i64 (s2 + 1)))
      else
        some (.inr (.inl ()))) 0).bind (Sum.elim (fun (p4 : Unit) => some 0) some) = some (fst0 l) := by
  rw [for_find l _ (fun _ e => if e = 0 then none else some e) (fun i a hi => by
    have := len_lt hi
    rw [idx_of hi]
    simp only [Option.bind_some]
    by_cases h : a = 0
    · simp only [h, decide_true, Bool.not_true, cond_false, if_true, stp]; rw [wrap_id (by omega) (by omega)]
    · simp [h, stp]), elim_toSum, findI_fst0]
  by_cases h : fst0 l = 0
  · simp [h]
  · simp [h]
/-- the first error of items, with its index -/
def eachE (g : Nat → α → Int) : Nat → List α → Int × Int
  | _, [] => (0, 0)
  | k, a :: l => if g k a = 0 then eachE g (k + 1) l else ((k : Int), g k a)
theorem findI_each (g : Nat → α → Int) : ∀ (l : List α) (k : Nat), (match findI (fun i a => if g i a = 0 then none else some ((i : Int), g i a)) k l with
    | some r => some r
    | none => some (0, 0)) = some (eachE g k l)
  | [], k => rfl
  | a :: l, k => by
    simp only [findI, eachE]
    by_cases h : g k a = 0
    · simp only [h, if_true]; exact findI_each g l (k + 1)
    · simp [h]
theorem for_each (l : List α) (cb : Int → α → Option Int) (g : Nat → α → Int) (h : ∀ (i : Nat) a, l[i]? = some a → cb i a = some (g i a)) (hl : l.length ≤ 1000000000) :
    (loopO (fun (s2 : Int) =>
      bif decide (s2 < (l.length : Int)) then
        (idx l s2).bind fun x3 =>
        (cb s2 x3).bind fun x4 =>
        bif !(decide (x4 = 0)) then
          some (.inr (.inr (s2, x4)))
        else
          some (.inl (IntKind.wrap .i64 (s2 + 1)))
      else
        some (.inr (.inl ()))) 0).bind (Sum.elim (fun (p5 : Unit) =>
    some (0, 0)) some) = some (eachE g 0 l) := by
  rw [for_find l _ (fun i a => if g i a = 0 then none else some ((i : Int), g i a)) (fun i a hi => by
    have := len_lt hi
    rw [idx_of hi]
    simp only [Option.bind_some]
    rw [h i a hi]
    simp only [Option.bind_some]
    by_cases h : g i a = 0
    · simp only [h, decide_true, Bool.not_true, cond_false, if_true, stp]; rw [wrap_id (by omega) (by omega)]
    · simp [h, stp]), elim_toSum, ← findI_each g l 0]
  cases findI (fun i a => if g i a = 0 then none else some ((i : Int), g i a)) 0 l <;> rfl
theorem eachE_zero {g : Nat → α → Int} : ∀ {l : List α} {k : Nat}, (eachE g k l).2 = 0 ↔ ∀ i a, l[i]? = some a → g (k + i) a = 0
  | [], k => by simp [eachE]
  | a :: l, k => by
    simp only [eachE]
    by_cases h : g k a = 0
    · rw [if_pos h, eachE_zero]
      constructor
      · intro hh i b hb
        cases i with
        | zero => simp at hb; subst hb; simpa using h
        | succ i => have := hh i b (by simpa using hb); rw [← this]; congr 1; omega
      · intro hh i b hb
        have := hh (i + 1) b (by simpa using hb)
        rw [← this]; congr 1; omega
    · rw [if_neg h]
      constructor
      · intro hh; exact absurd hh h
      · intro hh; exact absurd (by simpa using hh 0 a rfl) h
end
end Go.Tx
end
section
/-
  PLAIN TOOLS: greatest common divisors.
-/
set_option linter.unusedVariables false
namespace Go.Tx
open Go
theorem euclid_loop {f : Int × Int → Option ((Int × Int) ⊕ Int)} (hf : ∀ s, f s = if s.2 = 0 then some (.inr s.1) else some (.inl (s.2, s.1.tmod s.2))) : ∀ (n : Nat) (a b : Int), b.natAbs ≤ n → ∃ r, loopO f (a, b) = some r ∧ r.natAbs = Int.gcd a b := by
  intro n
  induction n with
  | zero =>
    intro a b hb
    have : b = 0 := by omega
    subst this
    exact ⟨a, loopO_inr (by rw [hf]; simp), by simp⟩
  | succ n ih =>
    intro a b hb
    by_cases h0 : b = 0
    · subst h0
      exact ⟨a, loopO_inr (by rw [hf]; simp), by simp⟩
    · have hlt : (a.tmod b).natAbs < b.natAbs := by
        rw [Int.natAbs_tmod]; exact Nat.mod_lt _ (by omega)
      obtain ⟨r, h1, h2⟩ := ih b (a.tmod b) (by omega)
      refine ⟨r, by rw [loopO_inl (s' := (b, a.tmod b)) (by rw [hf]; simp [h0])]; exact h1, ?_⟩
      rw [h2]
      unfold Int.gcd
      rw [Int.natAbs_tmod, Nat.gcd_comm, ← Nat.gcd_rec, Nat.gcd_comm]
/-- the greatest common divisor of some numbers -/
def gcdF : Nat → List Int → Nat
  | g, [] => g
  | g, n :: l => gcdF (Nat.gcd g n.natAbs) l
def gcdL (l : List Int) : Nat := gcdF 0 l
theorem gcdF_snoc (g : Nat) (n : Int) : ∀ (l : List Int), gcdF g (l ++ [n]) = Nat.gcd (gcdF g l) n.natAbs := by
  intro l
  induction l generalizing g with
  | nil => rfl
  | cons m l ih => simp only [List.cons_append, gcdF]; exact ih _
theorem gcdL_two (a b : Int) : gcdL [a, b] = Int.gcd a b := by simp [gcdL, gcdF, Int.gcd]
theorem gcdL_three (a b c : Int) : gcdL [a, b, c] = Nat.gcd (Int.gcd a b) c.natAbs := by simp [gcdL, gcdF, Int.gcd]
theorem gcdF_le {B : Nat} : ∀ {l : List Int} {g : Nat}, g ≤ B → (∀ x ∈ l, x.natAbs ≤ B) → gcdF g l ≤ B
  | [], g, hg, _ => hg
  | n :: l, g, hg, h => by
    simp only [gcdF]
    refine gcdF_le ?_ fun x hx => h x (by simp [hx])
    have h1 := h n (by simp)
    by_cases hg0 : g = 0
    · subst hg0; simpa using h1
    · exact Nat.le_trans (Nat.le_of_dvd (by omega) (Nat.gcd_dvd_left g n.natAbs)) hg
theorem gcdF_zero : ∀ {l : List Int} {g : Nat}, gcdF g l = 0 ↔ g = 0 ∧ ∀ x ∈ l, x = 0
  | [], g => by simp [gcdF]
  | n :: l, g => by
    simp only [gcdF, gcdF_zero (l := l), Nat.gcd_eq_zero_iff, List.mem_cons, forall_eq_or_imp]
    constructor
    · rintro ⟨⟨h1, h2⟩, h3⟩; exact ⟨h1, by omega, h3⟩
    · rintro ⟨h1, h2, h3⟩; exact ⟨⟨h1, by omega⟩, h3⟩
theorem gcdF_dvd_start : ∀ (l : List Int) (g : Nat), gcdF g l ∣ g
  | [], g => Nat.dvd_refl g
  | n :: l, g => Nat.dvd_trans (gcdF_dvd_start l _) (Nat.gcd_dvd_left ..)
theorem gcdF_dvd : ∀ {l : List Int} {g : Nat} {x : Int}, x ∈ l → ((gcdF g l : Nat) : Int) ∣ x
  | n :: l, g, x, hx => by
    rcases List.mem_cons.1 hx with rfl | hx
    · have h1 := Nat.dvd_trans (gcdF_dvd_start l (Nat.gcd g x.natAbs)) (Nat.gcd_dvd_right ..)
      exact Int.ofNat_dvd_left.2 h1
    · exact gcdF_dvd (l := l) hx
theorem dvd_gcdF {d : Nat} : ∀ {l : List Int} {g : Nat}, d ∣ g → (∀ x ∈ l, (d : Int) ∣ x) → d ∣ gcdF g l
  | [], g, hg, _ => hg
  | n :: l, g, hg, h => dvd_gcdF (l := l) (Nat.dvd_gcd hg (Int.ofNat_dvd_left.1 (h n (by simp)))) fun x hx => h x (by simp [hx])
/-- the program's divisor -/
theorem divisor_loop (l : List Int) (hl : l.length ≤ 1000000000) (hb : ∀ x ∈ l, x.natAbs ≤ 4611686018427387904) :
    (loopO (fun (s2 : (Int × Int)) =>
      bif decide (s2.2 < (l.length : Int)) then
        (idx l s2.2).bind fun x3 =>
        (loopO (fun (s5 : (Int × Int)) =>
            bif !(decide (s5.2 = 0)) then
              bif decide (s5.2 = 0) then
                none
              else
                some (.inl (s5.2, s5.1.tmod s5.2))
            else
              some (.inr s5.1)) (s2.1, x3)).bind fun (p6 : Int) =>
        some (.inl (p6, IntKind.wrap .i64 (s2.2 + 1)))
      else
        some (.inr s2.1)) (0, 0)).bind (fun (p7 : Int) => some (max p7 (IntKind.wrap .i64 (0 - p7)))) = some (gcdL l : Int) := by
  refine Ok.eq ?_
  rw [ok_bind]
  refine (loop_up l.length (fun i (s : Int × Int) => s.2 = (i : Int) ∧ s.1.natAbs = gcdL (l.take i)) (fun r : Int => r.natAbs = gcdL l) ⟨rfl, rfl⟩ ?_).mono ?_
  · rintro i ⟨g, s⟩ hi ⟨h1, h2⟩
    simp only at h1 h2
    subst h1
    by_cases hlt : i < l.length
    · have e0 : decide ((i : Int) < (l.length : Int)) = true := by simp; omega
      simp only [e0, cond_true]
      rw [idx_in 0 (by omega) (by omega)]
      simp only [Option.bind_some, Int.toNat_natCast]
      obtain ⟨r, h3, h4⟩ := euclid_loop (f := fun (s5 : (Int × Int)) => bif !(decide (s5.2 = 0)) then bif decide (s5.2 = 0) then none else some (.inl (s5.2, s5.1.tmod s5.2)) else some (.inr s5.1)) (fun s => by
        by_cases h : s.2 = 0 <;> simp [h]) (l.getD i 0).natAbs g (l.getD i 0) (Nat.le_refl _)
      rw [h3]
      simp only [Option.bind_some]
      rw [wrap_id (by omega) (by omega), rnd_inl]
      refine ⟨hlt, by simp, ?_⟩
      rw [h4, take_next 0 hlt]
      unfold gcdL at h2 ⊢
      rw [gcdF_snoc, ← h2]
      rfl
    · have : i = l.length := by omega
      subst this
      have e0 : decide ((l.length : Int) < (l.length : Int)) = false := by simp
      simp only [e0, cond_false]
      rw [rnd_inr]
      simpa using h2
  · intro r hr
    have hle : gcdL l ≤ 4611686018427387904 := gcdF_le (by omega) hb
    rw [wrap_id (by omega) (by omega), ok_some]
    omega
/-- the reference's -/
theorem Gcd_loop (a b : Int) (ha : a.natAbs ≤ 4611686018427387904) (hb : b.natAbs ≤ 4611686018427387904) :
    Ok (loopO (fun (s2 : (Int × Int)) =>
      bif !(decide (s2.2 = 0)) then
        bif decide (s2.2 = 0) then
          none
        else
          some (.inl (s2.2, s2.1.tmod s2.2))
      else
        some (.inr s2.1)) (a, b)) fun r => r.natAbs = Int.gcd a b := by
  obtain ⟨r, h1, h2⟩ := euclid_loop (f := fun (s2 : (Int × Int)) => bif !(decide (s2.2 = 0)) then bif decide (s2.2 = 0) then none else some (.inl (s2.2, s2.1.tmod s2.2)) else some (.inr s2.1)) (fun s => by
    by_cases h : s.2 = 0 <;> simp [h]) b.natAbs a b (Nat.le_refl _)
  exact ⟨r, h1, h2⟩
theorem gcd_le {a b : Int} {B : Nat} (ha : a.natAbs ≤ B) (hb : b.natAbs ≤ B) : Int.gcd a b ≤ B := by
  have := gcdF_le (B := B) (l := [a, b]) (g := 0) (by omega) (by simp [ha, hb])
  have e := gcdL_two a b
  unfold gcdL at e
  omega
end Go.Tx
end
section
/-
  PLAIN TOOLS: sums over lists.
-/
set_option linter.unusedVariables false
namespace Go.Tx
open Go
section
variable {α : Type}
def sumF (f : α → Int) : List α → Int
  | [] => 0
  | a :: l => f a + sumF f l
theorem sumF_app (f : α → Int) (l m : List α) : sumF f (l ++ m) = sumF f l + sumF f m := by
  induction l with
  | nil => simp [sumF]
  | cons a l ih => simp only [List.cons_append, sumF, ih]; omega
theorem sumF_next (f : α → Int) {l : List α} {i : Nat} {a : α} (h : l[i]? = some a) : sumF f (l.take (i + 1)) = sumF f (l.take i) + f a := by
  rw [List.take_add_one, h, sumF_app]; simp [sumF]
theorem sumF_bd {f : α → Int} {B : Int} : ∀ {l : List α}, (∀ a ∈ l, -B ≤ f a ∧ f a ≤ B) → -(B * l.length) ≤ sumF f l ∧ sumF f l ≤ B * l.length
  | [], _ => by simp [sumF]
  | a :: l, h => by
    have h1 := h a (by simp)
    have h2 := sumF_bd (l := l) fun x hx => h x (by simp [hx])
    have e : B * (((a :: l).length : Nat) : Int) = B * l.length + B := by simp [Int.mul_add]
    simp only [sumF]
    omega
theorem sumF_bd' {f : α → Int} {B : Int} {n : Nat} {l : List α} (hB : 0 ≤ B) (hl : l.length ≤ n) (h : ∀ a ∈ l, -B ≤ f a ∧ f a ≤ B) : -(B * n) ≤ sumF f l ∧ sumF f l ≤ B * n := by
  have h1 := sumF_bd h
  have h2 : B * (l.length : Int) ≤ B * n := Int.mul_le_mul_of_nonneg_left (by omega) hB
  omega
theorem sumF_take_bd {f : α → Int} {B : Int} {n : Nat} {l : List α} (i : Nat) (hB : 0 ≤ B) (hl : l.length ≤ n) (h : ∀ a ∈ l, -B ≤ f a ∧ f a ≤ B) : -(B * n) ≤ sumF f (l.take i) ∧ sumF f (l.take i) ≤ B * n :=
  sumF_bd' hB (by simp; omega) fun a ha => h a (List.mem_of_mem_take ha)
theorem sumF_nonneg {f : α → Int} : ∀ {l : List α}, (∀ a ∈ l, 0 ≤ f a) → 0 ≤ sumF f l
  | [], _ => by simp [sumF]
  | a :: l, h => by
    have h1 := h a (by simp)
    have h2 := sumF_nonneg (l := l) fun x hx => h x (by simp [hx])
    simp only [sumF]; omega
theorem sumF_zero {f : α → Int} : ∀ {l : List α}, (∀ a ∈ l, 0 ≤ f a) → (sumF f l = 0 ↔ ∀ a ∈ l, f a = 0)
  | [], _ => by simp [sumF]
  | a :: l, h => by
    have h1 := h a (by simp)
    have h2 := sumF_nonneg (l := l) fun x hx => h x (by simp [hx])
    have h3 := sumF_zero (l := l) fun x hx => h x (by simp [hx])
    simp only [sumF, List.mem_cons, forall_eq_or_imp]
    rw [← h3]
    omega
theorem sumF_add (f g : α → Int) (l : List α) : sumF (fun a => f a + g a) l = sumF f l + sumF g l := by
  induction l with
  | nil => rfl
  | cons a l ih => simp only [sumF, ih]; omega
theorem sumF_mul (c : Int) (f : α → Int) (l : List α) : sumF (fun a => c * f a) l = c * sumF f l := by
  induction l with
  | nil => simp [sumF]
  | cons a l ih => simp only [sumF, ih, Int.mul_add]
theorem sumF_const (c : Int) (l : List α) : sumF (fun _ => c) l = c * l.length := by
  induction l with
  | nil => simp [sumF]
  | cons a l ih => simp only [sumF, ih, List.length_cons]; rw [Int.natCast_add]; simp [Int.mul_add]; omega
theorem sumF_congr {f g : α → Int} {l : List α} (h : ∀ a ∈ l, f a = g a) : sumF f l = sumF g l := by
  induction l with
  | nil => rfl
  | cons a l ih => simp only [sumF, h a (by simp)]; rw [ih fun x hx => h x (by simp [hx])]
theorem sumF_map {β : Type} (f : β → Int) (g : α → β) (l : List α) : sumF f (l.map g) = sumF (fun a => f (g a)) l := by
  induction l with
  | nil => rfl
  | cons a l ih => simp only [List.map_cons, sumF, ih]
theorem sq_nonneg (z : Int) : 0 ≤ z * z := by
  rcases Int.le_total 0 z with hz | hz
  · exact Int.mul_nonneg hz hz
  · have := Int.mul_nonneg (show 0 ≤ -z by omega) (show 0 ≤ -z by omega); rwa [Int.neg_mul_neg] at this
theorem sq_zero {z : Int} (h : z * z = 0) : z = 0 := by
  rcases Int.mul_eq_zero.1 h with h | h <;> exact h
theorem abs_mul_le {a b A B : Int} (h1 : -A ≤ a ∧ a ≤ A) (h2 : -B ≤ b ∧ b ≤ B) : -(A * B) ≤ a * b ∧ a * b ≤ A * B := by
  have hA : 0 ≤ A := by omega
  have hB : 0 ≤ B := by omega
  have e : (a * b).natAbs = a.natAbs * b.natAbs := Int.natAbs_mul a b
  have h3 : a.natAbs * b.natAbs ≤ A.natAbs * B.natAbs := Nat.mul_le_mul (by omega) (by omega)
  have h4 : ((A.natAbs * B.natAbs : Nat) : Int) = A * B := by
    rw [Int.natCast_mul]; congr 1 <;> omega
  omega
end
end Go.Tx
end
section
/-
  PLAIN TOOLS: loops that build lists; equal lists.
-/
set_option linter.unusedVariables false
namespace Go.Tx
open Go
section
variable {α β : Type}
/-- a list by a rule -/
def mkL (n : Nat) (f : Nat → α) : List α := (List.range n).map f
theorem mkL_len (n : Nat) (f : Nat → α) : (mkL n f).length = n := by simp [mkL]
theorem mkL_get {n : Nat} (f : Nat → α) {k : Nat} (h : k < n) : (mkL n f)[k]? = some (f k) := by simp [mkL, h]
theorem mkL_getD {n : Nat} (f : Nat → α) {k : Nat} (d : α) (h : k < n) : (mkL n f).getD k d = f k := getD_at (mkL_get f h)
theorem mkL_zero (f : Nat → α) : mkL 0 f = [] := rfl
theorem mkL_succ (n : Nat) (f : Nat → α) : mkL (n + 1) f = mkL n f ++ [f n] := by simp [mkL, List.range_succ]
theorem mkL_congr {n : Nat} {f g : Nat → α} (h : ∀ k, k < n → f k = g k) : mkL n f = mkL n g := List.map_congr_left fun k hk => h k (by simpa using hk)
theorem mkL_mem {n : Nat} {f : Nat → α} {x : α} (h : x ∈ mkL n f) : ∃ k, k < n ∧ x = f k := by
  obtain ⟨k, hk, rfl⟩ := List.mem_map.1 h
  exact ⟨k, by simpa using hk, rfl⟩
theorem mem_mkL {n : Nat} {f : Nat → α} {k : Nat} (h : k < n) : f k ∈ mkL n f := List.mem_map.2 ⟨k, by simpa using h, rfl⟩
theorem list_mkL (l : List α) (d : α) : l = mkL l.length fun k => l.getD k d := by
  apply List.ext_getElem?
  intro k
  by_cases h : k < l.length
  · rw [mkL_get _ h]; simp [h]
  · rw [List.getElem?_eq_none (by omega), List.getElem?_eq_none (by rw [mkL_len]; omega)]
theorem mkL_of {l : List α} {n : Nat} {f : Nat → α} (hl : l.length = n) (h : ∀ k, k < n → l[k]? = some (f k)) : l = mkL n f := by
  apply List.ext_getElem?
  intro k
  by_cases hk : k < n
  · rw [mkL_get _ hk, h k hk]
  · rw [List.getElem?_eq_none (by omega), List.getElem?_eq_none (by rw [mkL_len]; omega)]
theorem map_mkL {n : Nat} (f : Nat → α) (g : α → β) : (mkL n f).map g = mkL n fun k => g (f k) := by simp [mkL]
theorem getD_mem {l : List α} {i : Nat} {d : α} (h : i < l.length) : l.getD i d ∈ l := by
  have : l[i]? = some (l.getD i d) := by simp [h]
  exact List.mem_of_getElem? this
theorem at_getD {l : List α} {i : Nat} (d : α) (h : i < l.length) : l[i]? = some (l.getD i d) := by simp [h]
/-- A LOOP that builds a list by a rule -/
theorem for_mk {K : List β × Int → Option ((List β × Int) ⊕ List β)} (n : Nat) (f : Nat → β)
    (h : ∀ i, i < n → K (mkL i f, (i : Int)) = some (.inl (mkL i f ++ [f i], (i : Int) + 1))) (he : K (mkL n f, (n : Int)) = some (.inr (mkL n f))) : loopO K ([], 0) = some (mkL n f) := by
  refine Ok.eq (loop_up n (fun i (s : List β × Int) => s = (mkL i f, (i : Int))) (fun r => r = mkL n f) rfl ?_)
  rintro i s hi rfl
  by_cases hlt : i < n
  · rw [h i hlt, rnd_inl]
    exact ⟨hlt, by rw [mkL_succ]; rfl⟩
  · have : i = n := by omega
    subst this
    rw [he, rnd_inr]
theorem for_map {K : List β × Int → Option ((List β × Int) ⊕ List β)} (l : List α) (f : α → β)
    (h : ∀ (i : Nat) a out, l[i]? = some a → out.length = i → K (out, (i : Int)) = some (.inl (out ++ [f a], (i : Int) + 1))) (he : ∀ out, out.length = l.length → K (out, (l.length : Int)) = some (.inr out)) : loopO K ([], 0) = some (l.map f) := by
  refine Ok.eq (loop_up l.length (fun i (s : List β × Int) => s = ((l.take i).map f, (i : Int))) (fun r => r = l.map f) (by simp) ?_)
  rintro i s hi rfl
  by_cases hlt : i < l.length
  · have ha : l[i]? = some l[i] := by simp [hlt]
    rw [h i _ _ ha (by simp; omega), rnd_inl]
    refine ⟨hlt, ?_⟩
    have e : (l.take (i + 1)).map f = (l.take i).map f ++ [f l[i]] := by rw [List.take_add_one, ha]; simp only [List.map_append, Option.toList_some, List.map_cons, List.map_nil]
    rw [e]; rfl
  · have : i = l.length := by omega
    subst this
    rw [he _ (by simp), rnd_inr]
    simp
theorem getD_ext {l m : List α} (d : α) : (l.length = m.length ∧ ∀ i, i < l.length → l.getD i d = m.getD i d) ↔ l = m := by
  constructor
  · rintro ⟨h1, h2⟩
    rw [list_mkL l d, list_mkL m d, h1]
    exact mkL_congr fun k hk => h2 k (by omega)
  · rintro rfl; exact ⟨rfl, fun _ _ => rfl⟩
/-- equal numbers -/
theorem ints_loop [DecidableEq α] {l m : List α} (d : α) (hl : l.length = m.length) (hb : l.length ≤ 1000000000) (e : α → α → Bool) (he : ∀ a b, a ∈ l → b ∈ m → (e a b = true ↔ a = b)) {K : Int → Option (Int ⊕ (Unit ⊕ Bool))}
    (h : ∀ i, i < l.length → K (i : Int) = some (if e (l.getD i d) (m.getD i d) = true then .inl ((i : Int) + 1) else .inr (.inr false))) :
    (loopO (fun s => bif decide (s < (l.length : Int)) then K s else some (.inr (.inl ()))) 0).bind (Sum.elim (fun (p5 : Unit) => some true) some) = some (decide (l = m)) := by
  refine Ok.eq (ok_elim.2 ?_)
  refine (loop_up l.length (fun i (s : Int) => s = (i : Int) ∧ ∀ j, j < i → l.getD j d = m.getD j d) (fun r => (r = .inl () ∧ ∀ j, j < l.length → l.getD j d = m.getD j d) ∨ (r = .inr false ∧ ∃ j, j < l.length ∧ l.getD j d ≠ m.getD j d)) ⟨rfl, by simp⟩ ?_).mono ?_
  · rintro i s hi ⟨rfl, hI⟩
    by_cases hlt : i < l.length
    · have e0 : decide ((i : Int) < (l.length : Int)) = true := by simp; omega
      simp only [e0, cond_true]
      rw [h i hlt]
      have hm := he (l.getD i d) (m.getD i d) (getD_mem hlt) (getD_mem (by omega))
      by_cases c : e (l.getD i d) (m.getD i d) = true
      · rw [if_pos c, rnd_inl]
        refine ⟨hlt, by simp, fun j hj => ?_⟩
        by_cases hji : j < i
        · exact hI j hji
        · have : j = i := by omega
          subst this; exact hm.1 c
      · rw [if_neg c, rnd_inr]
        exact .inr ⟨rfl, i, hlt, fun h => c (hm.2 h)⟩
    · have : i = l.length := by omega
      subst this
      have e0 : decide ((l.length : Int) < (l.length : Int)) = false := by simp
      simp only [e0, cond_false]
      rw [rnd_inr]
      exact .inl ⟨rfl, hI⟩
  · rintro r (⟨rfl, h1⟩ | ⟨rfl, j, hj, hne⟩)
    · simp only [ok_some]; rw [eq_comm, decide_eq_true_iff]; exact (getD_ext d).1 ⟨hl, h1⟩
    · simp only; rw [eq_comm, decide_eq_false_iff_not]
      exact fun h => hne (by rw [h])
end
end Go.Tx
end
section
/-
  SIGNALS UNDONE: checks of channels.
-/
set_option linter.unusedVariables false
set_option linter.unusedSimpArgs false
namespace Go.Proofs.Ytpiggpgocnlomaa
open Go Go.Ab Go.Tx
def big : Nat := 9223372036854775807
theorem within_eq (a b c : Int) : sensor_within a b c = some (decide (b ≤ a ∧ a ≤ c)) := by
  unfold sensor_within
  by_cases h : b ≤ a <;> simp [h]
theorem Within_eq (a b c : Int) : base_Within a b c = some (decide (b ≤ a ∧ a ≤ c)) := by
  unfold base_Within
  by_cases h : b ≤ a <;> simp [h]
theorem unless_eq (b : Bool) (v : Int) : sensor_unless b v = some (if b then 0 else v) := by
  unfold sensor_unless
  cases b <;> simp
def firstE : List Int → Int
  | [] => 0
  | a :: l => if a = 0 then firstE l else a
theorem first_eq (l : List Int) (hl : l.length ≤ big) : sensor_first l = some (firstE l) := by
  unfold sensor_first
  unfold big at hl
  rw [loop_list l (fun _ a => if a = 0 then none else some a)]
  · rw [findI_const]
    simp only [Option.bind_some]
    clear hl
    induction l with
    | nil => rfl
    | cons a l ih =>
      simp only [List.findSome?_cons, firstE]
      by_cases h : a = 0
      · simp only [h, if_true]; exact ih
      · simp [h, toSum]
  · intro i a hi
    have hlt : i < l.length := (List.getElem?_eq_some_iff.1 hi).1
    have h1 : (i : Int) < (l.length : Int) := by omega
    simp only [h1, decide_true, cond_true, idx_of hi, Option.bind_some, wrap_id (n := (i : Int) + 1) (by omega) (by omega)]
    by_cases h : a = 0 <;> simp [h, stp]
  · simp
theorem first_of {l : List Int} (hl : l.length ≤ 100) : sensor_first l = some (firstE l) := first_eq l (by unfold big; omega)
theorem sized_eq (a b : Int) (h1 : 0 ≤ b) (h2 : b ≤ 9223372036854775807) : sensor_sized a b = some (decide (-b ≤ a ∧ a ≤ b)) := by
  unfold sensor_sized
  rw [within_eq]
  simp only [w64, wrap_id (n := 0 - b) (by omega) (by omega), Option.bind_some]
  congr 2
  simp
def rawE (l : List Int) : Int := if l.length = 0 then 10 else if 60 < l.length then 8 else if ∀ v ∈ l, -100000 ≤ v ∧ v ≤ 100000 then 0 else 2
theorem CheckRaw_1_eq (i a : Int) : sensor_CheckRaw_1 i a = some (if -100000 ≤ a ∧ a ≤ 100000 then 0 else 2) := by
  unfold sensor_CheckRaw_1
  rw [sized_eq _ _ (by omega) (by omega)]
  simp [unless_eq]
def gRaw (i : Nat) (a : Int) : Option (Int × Int) := if -100000 ≤ a ∧ a ≤ 100000 then none else some ((i : Int), 2)
theorem findI_raw : ∀ (l : List Int) (k : Nat), (findI gRaw k l = none ∧ ∀ v ∈ l, -100000 ≤ v ∧ v ≤ 100000) ∨ (∃ r, findI gRaw k l = some r ∧ r.2 = 2 ∧ ¬ ∀ v ∈ l, -100000 ≤ v ∧ v ≤ 100000)
  | [], k => .inl ⟨rfl, by simp⟩
  | a :: l, k => by
    simp only [findI, gRaw]
    by_cases h : -100000 ≤ a ∧ a ≤ 100000
    · simp only [h, if_true, and_self]
      rcases findI_raw l (k + 1) with ⟨h1, h2⟩ | ⟨r, h1, h2, h3⟩
      · refine .inl ⟨h1, ?_⟩
        intro v hv
        rcases List.mem_cons.1 hv with rfl | hv
        · exact h
        · exact h2 v hv
      · exact .inr ⟨r, h1, h2, fun hh => h3 fun v hv => hh v (List.mem_cons_of_mem _ hv)⟩
    · refine .inr ⟨((k : Int), 2), by simp [h], rfl, fun hh => h (hh a (List.mem_cons_self))⟩
theorem each_eq (l : List Int) (hl : l.length ≤ big) : sensor_each_int_of_sensor_CheckRaw_1 l = some ((findI gRaw 0 l).getD (0, 0)) := by
  unfold sensor_each_int_of_sensor_CheckRaw_1
  unfold big at hl
  rw [loop_list l gRaw]
  · simp only [Option.bind_some]
    cases findI gRaw 0 l <;> simp [toSum]
  · intro i a hi
    have hlt : i < l.length := (List.getElem?_eq_some_iff.1 hi).1
    have h1 : (i : Int) < (l.length : Int) := by omega
    simp only [h1, decide_true, cond_true, idx_of hi, Option.bind_some, wrap_id (n := (i : Int) + 1) (by omega) (by omega), CheckRaw_1_eq]
    by_cases h : -100000 ≤ a ∧ a ≤ 100000 <;> simp [h, stp, gRaw]
  · simp
theorem rawErr_eq (l : List Int) (hl : l.length ≤ big) : sensor_rawErr l = some (rawE l) := by
  unfold sensor_rawErr sensor_CheckRaw
  simp only [unless_eq, Option.bind_some]
  rw [first_of (by simp)]
  simp only [Option.bind_some, firstE, each_eq l hl]
  unfold rawE
  by_cases h0 : l.length = 0
  · simp [h0]
  · by_cases h1 : 60 < l.length
    · have a1 : (l.length : Int) > 0 := by omega
      have a2 : ¬ (l.length : Int) ≤ 60 := by omega
      simp [h0, h1, a1, a2]
    · have a1 : (l.length : Int) > 0 := by omega
      have a2 : (l.length : Int) ≤ 60 := by omega
      rcases findI_raw l 0 with ⟨h2, h3⟩ | ⟨r, h2, h3, h4⟩
      · simp only [a1, a2, h0, h1, h2, decide_true, if_true, if_false, if_pos h3]; simp
      · simp only [a1, a2, h0, h1, h2, decide_true, if_true, if_false, if_neg h4]; simp [h3]
theorem RawErr_eq (l : List Int) : ref07_RawErr l = some (rawE l) := by
  unfold ref07_RawErr ref07_CheckRaw rawE
  by_cases h0 : l.length = 0
  · simp [h0]
  · by_cases h1 : 60 < l.length
    · have a1 : ¬ (l.length : Int) = 0 := by omega
      have a2 : (l.length : Int) > 60 := by omega
      simp only [a1, a2, h0, h1]; simp
    · have a1 : ¬ (l.length : Int) = 0 := by omega
      have a2 : ¬ (l.length : Int) > 60 := by omega
      rw [loop_list l gRaw]
      · rcases findI_raw l 0 with ⟨h2, h3⟩ | ⟨r, h2, h3, h4⟩
        · simp only [a1, a2, h0, h1, h2, if_pos h3, toSum]; simp
        · simp only [a1, a2, h0, h1, h2, if_neg h4, toSum]; simp [h3]
      · intro i a hi
        have hlt : i < l.length := (List.getElem?_eq_some_iff.1 hi).1
        have h1 : (i : Int) < (l.length : Int) := by omega
        simp only [h1, decide_true, cond_true, idx_of hi, Option.bind_some, wrap_id (n := (i : Int) + 1) (by omega) (by omega), Within_eq]
        by_cases h : -100000 ≤ a ∧ a ≤ 100000 <;> simp [h, stp, gRaw]
      · simp
theorem samples_eq (l : List Int) : law07_samples l = some (decide (l.length ≤ 62)) := by
  unfold law07_samples
  congr 2
  exact propext (by omega)
theorem channels_eq (l : List (List Int)) (hl : l.length ≤ big) : law07_channels l = some (decide ((∀ c ∈ l, c.length ≤ 62) ∧ l.length ≤ 9)) := by
  unfold law07_channels
  unfold big at hl
  rw [loop_list l (fun _ c => if c.length ≤ 62 then none else some false)]
  · rw [findI_const]
    have key : l.findSome? (fun c => if c.length ≤ 62 then none else some false) = if ∀ c ∈ l, c.length ≤ 62 then none else some false := by
      clear hl
      induction l with
      | nil => simp
      | cons a l ih =>
        simp only [List.findSome?_cons]
        by_cases h : a.length ≤ 62
        · simp only [h, if_true, ih, List.mem_cons, forall_eq_or_imp, true_and]
        · simp [h]
    rw [key]
    by_cases h : ∀ c ∈ l, c.length ≤ 62
    · rw [if_pos h]
      simp only [Option.bind_some, toSum, Sum.elim_inl, Option.some.injEq, decide_eq_decide]
      constructor
      · intro h2; exact ⟨h, by omega⟩
      · intro h2; have := h2.2; omega
    · rw [if_neg h]
      simp only [Option.bind_some, toSum, Sum.elim_inr, Option.some.injEq]
      exact (decide_eq_false (fun h2 => h h2.1)).symm
  · intro i a hi
    have hlt : i < l.length := (List.getElem?_eq_some_iff.1 hi).1
    have h1 : (i : Int) < (l.length : Int) := by omega
    simp only [h1, decide_true, cond_true, idx_of hi, Option.bind_some, wrap_id (n := (i : Int) + 1) (by omega) (by omega), samples_eq]
    by_cases h : a.length ≤ 62 <;> simp [h, stp]
  · simp
theorem CopyInts_eq (l : List Int) (hl : l.length ≤ 4294967296) : base_CopyInts l = some l := by
  unfold base_CopyInts
  rw [app_of (by simpa using hl)]
  rfl
theorem CopyLists_eq (l : List (List Int)) (hl : l.length ≤ 4294967295) (h : ∀ c ∈ l, c.length ≤ 4294967296) : base_CopyLists l = some l := by
  unfold base_CopyLists
  have key : ∀ (l2 : List (List Int)) (k : Nat) (b : List (List Int)), foldI (fun _ b a => b ++ [a]) k b l2 = b ++ l2 := by
    intro l2
    induction l2 with
    | nil => intro k b; simp [foldI]
    | cons a l2 ih => intro k b; simp [foldI, ih]
  rw [loop_fold l (fun _ b a => b ++ [a]) id (fun i b => b.length = i) rfl]
  · simp [key]
  · intro i a b hi hb
    have hlt : i < l.length := (List.getElem?_eq_some_iff.1 hi).1
    have h1 : (i : Int) < (l.length : Int) := by omega
    have h2 := h a (List.mem_of_getElem? hi)
    refine ⟨?_, by simp [hb]⟩
    simp only [h1, decide_true, cond_true, idx_of hi, Option.bind_some, wrap_id (n := (i : Int) + 1) (by omega) (by omega), CopyInts_eq a h2]
    rw [app_of (by simp; omega)]
    rfl
  · intro b hb
    simp
/-- a channel's fault -/
def eC (n : Int) (c : List Int) : Int := if rawE c = 0 then (if (c.length : Int) = n then 0 else 13) else rawE c
def gC (n : Int) (i : Nat) (c : List Int) : Option (Int × Int) := if eC n c = 0 then none else some ((i : Int), eC n c)
theorem findI_gC (n : Int) : ∀ (l : List (List Int)) (k : Nat), ((findI (gC n) k l).getD (0, 0)).2 = firstE (l.map (eC n))
  | [], k => rfl
  | c :: l, k => by
    simp only [findI, gC, List.map_cons, firstE]
    by_cases h : eC n c = 0
    · simp only [h, if_true]; exact findI_gC n l (k + 1)
    · simp [h]
theorem firstE_single (a : Int) : firstE [a] = a := by simp only [firstE]; split <;> simp_all
theorem channelsErr_eq (a0 : List (List Int)) (m n : Int) (hl : a0.length ≤ big) (hc : ∀ c ∈ a0, c.length ≤ big) :
    sensor_channelsErr a0 m n = some (firstE [if 0 < a0.length then 0 else 10, if (a0.length : Int) ≤ m then 0 else 8, firstE (a0.map (eC n))]) := by
  unfold sensor_channelsErr
  rw [loop_list a0 (gC n)]
  · have h1 : ((Option.some (toSum (findI (gC n) 0 a0))).bind (Sum.elim (fun (p7 : Unit) => some (0, 0)) some)) = some ((findI (gC n) 0 a0).getD (0, 0)) := by
      cases findI (gC n) 0 a0 <;> simp [toSum]
    rw [h1]
    simp only [Option.bind_some, unless_eq, findI_gC]
    rw [first_of (by simp)]
    simp
  · intro i a hi
    have hlt : i < a0.length := (List.getElem?_eq_some_iff.1 hi).1
    have h1 : (i : Int) < (a0.length : Int) := by omega
    have h2 := hc a (List.mem_of_getElem? hi)
    unfold big at hl
    simp only [h1, decide_true, cond_true, idx_of hi, Option.bind_some, wrap_id (n := (i : Int) + 1) (by omega) (by omega), rawErr_eq a h2, unless_eq]
    rw [first_of (by simp)]
    simp only [Option.bind_some, firstE, gC, eC]
    by_cases h3 : rawE a = 0
    · by_cases h4 : (a.length : Int) = n <;> simp [h3, h4, stp]
    · simp [h3, stp]
  · simp
def n0 : List (List Int) → Nat
  | [] => 0
  | c :: _ => c.length
theorem samplesOf_eq (a0 : List (List Int)) : sensor_samplesOf a0 = some (n0 a0 : Int) := by
  unfold sensor_samplesOf
  cases a0 with
  | nil => simp [n0]
  | cons c l =>
    have : ¬ (((c :: l).length : Nat) : Int) = 0 := by simp; omega
    simp only [this, decide_false, cond_false, idx_zero]
    simp [n0]
def chanE (a0 : List (List Int)) (m : Int) : Int := firstE [if 0 < a0.length then 0 else 10, if (a0.length : Int) ≤ m then 0 else 8, firstE (a0.map (eC (n0 a0)))]
theorem ChannelsErr_eq (a0 : List (List Int)) (m : Int) (hl : a0.length ≤ big) : ref07_ChannelsErr a0 m = some (chanE a0 m) := by
  unfold ref07_ChannelsErr chanE
  unfold big at hl
  by_cases h0 : a0.length = 0
  · have : a0 = [] := List.eq_nil_of_length_eq_zero h0
    subst this
    simp [firstE]
  · have h0' : ¬ (a0.length : Int) = 0 := by omega
    have h0'' : 0 < a0.length := by omega
    by_cases h1 : (a0.length : Int) ≤ m
    · have h1' : ¬ (a0.length : Int) > m := by omega
      simp only [h0', h1', h0'', h1, decide_false, cond_false, if_true]
      rw [loop_list a0 (fun _ c => if eC (n0 a0) c = 0 then none else some (eC (n0 a0) c))]
      · rw [findI_const]
        have key : ∀ l : List (List Int), ((Option.some (toSum (l.findSome? (fun c => if eC (n0 a0) c = 0 then none else some (eC (n0 a0) c))))).bind (Sum.elim (fun (p7 : Unit) => some (0 : Int)) some)) = some (firstE (l.map (eC (n0 a0)))) := by
          intro l
          induction l with
          | nil => rfl
          | cons c l ih =>
            simp only [List.findSome?_cons, List.map_cons, firstE]
            by_cases h : eC (n0 a0) c = 0
            · simp only [h, if_true]; exact ih
            · simp [h, toSum]
        rw [key]
        simp only [firstE, if_true]
        split <;> simp_all
      · intro i a hi
        have hlt : i < a0.length := (List.getElem?_eq_some_iff.1 hi).1
        have h2 : (i : Int) < (a0.length : Int) := by omega
        have h3 : idx a0 0 = some (a0[0]'h0'') := by rw [idx_zero, List.getElem?_eq_getElem h0'']
        have h4 : (a0[0]'h0'').length = n0 a0 := by cases a0 with
          | nil => simp at h0
          | cons c l => simp [n0]
        simp only [h2, decide_true, cond_true, idx_of hi, Option.bind_some, wrap_id (n := (i : Int) + 1) (by omega) (by omega), RawErr_eq, h3, h4, eC]
        by_cases h5 : rawE a = 0
        · by_cases h6 : (a.length : Int) = n0 a0 <;> simp [h5, h6, stp]
        · simp [h5, stp]
      · simp
    · have h1' : (a0.length : Int) > m := by omega
      simp only [h0', h1', h0'', h1, firstE, decide_false, decide_true, cond_false, cond_true, if_true, if_false]
      simp
theorem firstE_zero : ∀ {l : List Int}, firstE l = 0 → ∀ a ∈ l, a = 0
  | [], _, a, h => by cases h
  | b :: l, h, a, ha => by
    simp only [firstE] at h
    split at h
    · rename_i e
      rcases List.mem_cons.1 ha with rfl | ha
      · exact e
      · exact firstE_zero h a ha
    · rename_i e; exact absurd h e
theorem rawE_zero {l : List Int} (h : rawE l = 0) : 0 < l.length ∧ l.length ≤ 60 ∧ ∀ v ∈ l, -100000 ≤ v ∧ v ≤ 100000 := by
  unfold rawE at h
  split at h
  · cases h
  · split at h
    · cases h
    · split at h
      · rename_i h1 h2 h3; exact ⟨by omega, by omega, h3⟩
      · cases h
theorem chanE_zero {a0 : List (List Int)} {m : Int} (h : chanE a0 m = 0) : 0 < a0.length ∧ (a0.length : Int) ≤ m ∧ ∀ c ∈ a0, rawE c = 0 ∧ c.length = n0 a0 := by
  unfold chanE at h
  have h1 := firstE_zero h
  simp only [List.mem_cons, List.mem_nil_iff, or_false, forall_eq_or_imp, forall_eq] at h1
  obtain ⟨h2, h3, h4⟩ := h1
  refine ⟨?_, ?_, fun c hc => ?_⟩
  · by_cases h : 0 < a0.length
    · exact h
    · rw [if_neg h] at h2; cases h2
  · by_cases h : (a0.length : Int) ≤ m
    · exact h
    · rw [if_neg h] at h3; cases h3
  · have := firstE_zero h4 (eC (n0 a0) c) (List.mem_map_of_mem hc)
    unfold eC at this
    split at this
    · rename_i e
      split at this
      · rename_i e2; exact ⟨e, by omega⟩
      · cases this
    · rename_i e; exact absurd this e
end Go.Proofs.Ytpiggpgocnlomaa
end
section
/-
  SIGNALS UNDONE: explanations, copies.
-/
set_option linter.unusedVariables false
set_option linter.unusedSimpArgs false
namespace Go.Proofs.Ytpiggpgocnlomaa
open Go Go.Ab Go.Tx
abbrev Xp := List Int × List Bool × Unit
theorem wid {n : Int} (h1 : -9223372036854775808 ≤ n) (h2 : n ≤ 9223372036854775807) : w64 n = n := wrap_id h1 h2
theorem CopyInts_ok {l : List Int} (h : l.length ≤ 1000000000) : base_CopyInts l = some l := by
  unfold base_CopyInts
  rw [app_nil (by omega)]; rfl
theorem CopyLists_ok {a : List (List Int)} (h : a.length ≤ 1000000000) (hr : ∀ r ∈ a, r.length ≤ 1000000000) : base_CopyLists a = some a := by
  unfold base_CopyLists
  rw [for_map a (fun r => r) (fun i r out hi ho => ?_) (fun out ho => ?_)]
  · simp
  · have hlt := (List.getElem?_eq_some_iff.1 hi).1
    have e0 : decide ((i : Int) < (a.length : Int)) = true := by simp; omega
    simp only [e0, cond_true]
    rw [idx_of hi]
    simp only [Option.bind_some]
    rw [CopyInts_ok (hr r (List.mem_of_getElem? hi))]
    simp only [Option.bind_some]
    rw [app_one (by omega)]
    simp only [Option.bind_some]
    rw [wid (by omega) (by omega)]
  · have e0 : decide ((a.length : Int) < (a.length : Int)) = false := by simp
    simp only [e0, cond_false]
theorem CopyExplanation_ok {x : Xp} (h1 : x.1.length ≤ 1000000000) (h2 : x.2.1.length ≤ 1000000000) : ref07_CopyExplanation x = some x := by
  unfold ref07_CopyExplanation
  rw [CopyInts_ok h1, app_nil (by omega)]; rfl

/-! ### contains -/
theorem Index_ok {l : List Int} (v : Int) (hl : l.length ≤ 1000000000) : ∃ r, slices_Index_Lint_int l v = some r ∧ (r ≥ 0 ↔ v ∈ l) := by
  unfold slices_Index_Lint_int
  refine Ok.mono (P := fun r => r ≥ 0 ↔ v ∈ l) ?_ fun _ h => h
  rw [ok_elim]
  refine (loop_up l.length (fun i (s : Int) => s = (i : Int) ∧ ∀ j, j < i → l.getD j 0 ≠ v) (fun r => (r = .inl () ∧ ∀ j, j < l.length → l.getD j 0 ≠ v) ∨ (∃ i : Nat, r = .inr (i : Int) ∧ v ∈ l)) ⟨rfl, by simp⟩ ?_).mono ?_
  · rintro i s hi ⟨rfl, hI⟩
    by_cases hlt : i < l.length
    · have e0 : decide ((i : Int) < (l.length : Int)) = true := by simp; omega
      simp only [e0, cond_true]
      rw [idx_int (by omega) (by omega)]
      simp only [Option.bind_some, Int.toNat_natCast]
      by_cases c : v = l.getD i 0
      · have c' : decide (v = l.getD i 0) = true := by simpa using c
        rw [c', cond_true, rnd_inr]
        exact .inr ⟨i, rfl, by rw [c]; exact getD_mem hlt⟩
      · have c' : decide (v = l.getD i 0) = false := by simpa using c
        rw [c', cond_false, wid (by omega) (by omega), rnd_inl]
        refine ⟨hlt, by simp, fun j hj => ?_⟩
        by_cases hji : j < i
        · exact hI j hji
        · have : j = i := by omega
          subst this; exact fun e => c e.symm
    · have : i = l.length := by omega
      subst this
      have e0 : decide ((l.length : Int) < (l.length : Int)) = false := by simp
      simp only [e0, cond_false]
      rw [rnd_inr]
      exact .inl ⟨rfl, hI⟩
  · rintro r (⟨rfl, h⟩ | ⟨i, rfl, h⟩)
    · simp only [ok_some]
      constructor
      · intro h0; omega
      · intro hv
        obtain ⟨j, hj⟩ := List.mem_iff_getElem?.1 hv
        exact absurd (Go.Tx.getD_at hj) (h j (List.getElem?_eq_some_iff.1 hj).1)
    · simp only
      exact ⟨fun _ => h, fun _ => by omega⟩
theorem Contains_ok {l : List Int} (v : Int) (hl : l.length ≤ 1000000000) : slices_Contains_Lint_int l v = some (decide (v ∈ l)) := by
  unfold slices_Contains_Lint_int
  obtain ⟨r, h1, h2⟩ := Index_ok v hl
  rw [h1]
  simp only [Option.bind_some]
  congr 1
  exact decide_eq_decide.2 h2

/-! ### explanations -/
def sc (x : Xp) (i : Nat) : Int := x.1.getD i 0
def rv (x : Xp) (i : Nat) : Bool := x.2.1.getD i false
def errAt (x : Xp) (n : Int) (i : Nat) : Int :=
  if -1 ≤ sc x i ∧ sc x i ≤ n - 1 then (if sc x i ≠ -1 ∧ sc x i ∈ x.1.take i then 23 else if sc x i = -1 ∧ rv x i = true then 3 else 0) else 6
def FirstE (E : Nat → Int) (n : Nat) (e : Int) : Prop := (e = 0 ∧ ∀ j, j < n → E j = 0) ∨ (∃ i, i < n ∧ e = E i ∧ E i ≠ 0 ∧ ∀ j, j < i → E j = 0)
theorem FirstE.same {E : Nat → Int} {n : Nat} {e e' : Int} (h : FirstE E n e) (h' : FirstE E n e') : e = e' := by
  rcases h with ⟨rfl, h1⟩ | ⟨i, h1, rfl, h2, h3⟩
  · rcases h' with ⟨rfl, _⟩ | ⟨j, h4, rfl, h5, _⟩
    · rfl
    · exact absurd (h1 j h4) h5
  · rcases h' with ⟨rfl, h4⟩ | ⟨j, h4, rfl, h5, h6⟩
    · exact absurd (h4 i h1) h2
    · by_cases c : i < j
      · exact absurd (h6 i c) h2
      · by_cases c2 : j < i
        · exact absurd (h3 j c2) h5
        · have : i = j := by omega
          subst this; rfl
theorem mem_take {l : List Int} {i : Nat} {v : Int} (hi : i ≤ l.length) : v ∈ l.take i ↔ ∃ j, j < i ∧ l.getD j 0 = v := by
  constructor
  · intro h
    obtain ⟨j, hj⟩ := List.mem_iff_getElem?.1 h
    rw [List.getElem?_take] at hj
    split at hj
    · rename_i hlt
      exact ⟨j, hlt, Go.Tx.getD_at hj⟩
    · cases hj
  · rintro ⟨j, hj, rfl⟩
    refine List.mem_iff_getElem?.2 ⟨j, ?_⟩
    rw [List.getElem?_take, if_pos hj]
    exact at_getD 0 (by omega)
def srcs (x : Xp) (m : Nat) : List (Int × Bool × Unit) := mkL m fun j => (sc x j, rv x j, ())
theorem ex_ok {α β : Type} {o : Option (α × β)} {Q : α → β → Prop} (h : Ok o fun p => Q p.1 p.2) : ∃ a b, o = some (a, b) ∧ Q a b := by
  obtain ⟨⟨a, b⟩, h1, h2⟩ := h
  exact ⟨a, b, h1, h2⟩
theorem ex_eq {α β : Type} {o : Option (α × β)} {a : α} {b : β} {Q : α → β → Prop} (h : Ok o fun p => p = (a, b)) (hq : Q a b) : ∃ a b, o = some (a, b) ∧ Q a b := ⟨a, b, h.eq, hq⟩
theorem sourcesOf_ok {x : Xp} {n : Nat} (h1 : x.1.length = n) (h2 : x.2.1.length = n) (hn : n ≤ 1000000) :
    ∃ o e, sensor_sourcesOf x (n : Int) = some (o, e) ∧ FirstE (errAt x n) n e ∧ (e = 0 → o = srcs x n) := by
  unfold sensor_sourcesOf
  have c1 : decide ((x.1.length : Int) = (n : Int)) = true := by simp [h1]
  have c2 : decide ((x.2.1.length : Int) = (n : Int)) = true := by simp [h2]
  simp only [c1, c2, Bool.not_true, cond_false, Option.bind_some]
  refine ex_ok (Q := fun o e => FirstE (errAt x n) n e ∧ (e = 0 → o = srcs x n)) ?_
  · rw [ok_bind, ok_elim]
    refine (loop_up n (fun i (s : Int × List (Int × Bool × Unit)) => s = ((i : Int), srcs x i) ∧ ∀ j, j < i → errAt x n j = 0)
      (fun r => (r = .inl (srcs x n) ∧ ∀ j, j < n → errAt x n j = 0) ∨ (∃ i o, i < n ∧ errAt x n i ≠ 0 ∧ (∀ j, j < i → errAt x n j = 0) ∧ r = .inr ((i : Int), errAt x n i, o))) ⟨rfl, by simp⟩ ?_).mono ?_
    · rintro i s hi ⟨rfl, hI⟩
      by_cases hlt : i < n
      · have e0 : decide ((i : Int) < (x.1.length : Int)) = true := by simp; omega
        have hlen : (srcs x i).length = i := mkL_len _ _
        simp only [e0, cond_true]
        rw [idx_int (by omega) (by omega), idx_in false (by omega) (by omega)]
        simp only [Option.bind_some, Int.toNat_natCast]
        show Rnd ((app (srcs x i) [(sc x i, rv x i, ())]).bind _) _ _
        rw [app_one (by omega)]
        simp only [Option.bind_some]
        have hd : ∀ b : Bool, (bif b then (slc x.1 0 (i : Int)).bind fun x7 => (slices_Contains_Lint_int x7 (sc x i)).bind fun x8 => some x8 else some false : Option Bool) = some (b && decide (sc x i ∈ x.1.take i)) := fun b => by
          cases b with
          | false => rfl
          | true =>
            simp only [cond_true]
            rw [slc_in (by omega)]
            simp only [Option.bind_some, Int.toNat_natCast, Int.toNat_zero, List.drop_zero]
            rw [Contains_ok _ (by simp; omega)]
            simp
        have hd' := hd (!(decide (sc x i = -1)))
        unfold sc at hd'
        rw [hd']
        simp only [Option.bind_some, within_eq, unless_eq]
        rw [wid (n := (n : Int) - 1) (by omega) (by omega)]
        have hlast : (bif !(decide (x.1.getD i 0 = (-1))) then
                (sensor_first ([if decide (-1 ≤ x.1.getD i 0 ∧ x.1.getD i 0 ≤ (n : Int) - 1) = true then 0 else 6, if (!(!(decide (x.1.getD i 0 = -1)) && decide (x.1.getD i 0 ∈ x.1.take i))) = true then 0 else 23, if True then (0 : Int) else 3])).bind fun x14 =>
                some x14
              else
                (sensor_first ([if decide (-1 ≤ x.1.getD i 0 ∧ x.1.getD i 0 ≤ (n : Int) - 1) = true then 0 else 6, if (!(!(decide (x.1.getD i 0 = -1)) && decide (x.1.getD i 0 ∈ x.1.take i))) = true then 0 else 23, if (!(x.2.1.getD i false)) = true then (0 : Int) else 3])).bind fun x17 =>
                some x17 : Option Int) = some (errAt x n i) := by
          rw [first_of (by simp), first_of (by simp)]
          unfold errAt sc rv firstE firstE firstE firstE
          generalize x.1.getD i 0 = v
          generalize x.2.1.getD i false = b
          generalize hm : decide (v ∈ x.1.take i) = m
          have hm' : (v ∈ x.1.take i) ↔ m = true := by rw [← hm]; simp
          simp only [hm']
          by_cases a1 : -1 ≤ v ∧ v ≤ (n : Int) - 1
          · by_cases a2 : v = -1
            · subst a2
              cases b <;> simp [a1]
            · cases m <;> simp [a1, a2]
          · by_cases a2 : v = -1
            · exact absurd ⟨by omega, by omega⟩ a1
            · cases m <;> simp [a1, a2]
        rw [hlast]
        simp only [Option.bind_some]
        by_cases c : errAt x n i = 0
        · have c' : decide (errAt x n i = 0) = true := by simp [c]
          simp only [c', Bool.not_true, cond_false]
          rw [wid (by omega) (by omega), rnd_inl]
          refine ⟨hlt, ?_, fun j hj => ?_⟩
          · unfold srcs; rw [mkL_succ]; rfl
          · by_cases hji : j < i
            · exact hI j hji
            · have : j = i := by omega
              subst this; exact c
        · have c' : decide (errAt x n i = 0) = false := by simp [c]
          simp only [c', Bool.not_false, cond_true]
          rw [rnd_inr]
          exact .inr ⟨i, _, hlt, c, hI, rfl⟩
      · have : i = n := by omega
        subst this
        have e0 : decide ((i : Int) < (x.1.length : Int)) = false := by simp; omega
        simp only [e0, cond_false]
        rw [rnd_inr]
        exact .inl ⟨rfl, hI⟩
    · rintro r (⟨rfl, h⟩ | ⟨i, o, hi, hne, h, rfl⟩)
      · show Ok (some _) _
        rw [ok_some, ok_some]
        exact ⟨.inl ⟨rfl, h⟩, fun _ => rfl⟩
      · show Ok (some _) _
        rw [ok_some]
        exact ⟨.inr ⟨i, hi, rfl, hne, h⟩, fun e => absurd e hne⟩
theorem sourcesOf_ne {x : Xp} {n : Nat} (h : ¬ (x.1.length = n ∧ x.2.1.length = n)) : sensor_sourcesOf x (n : Int) = some ([], 10) := by
  unfold sensor_sourcesOf
  by_cases c1 : x.1.length = n
  · have c2 : ¬ x.2.1.length = n := fun e => h ⟨c1, e⟩
    have d1 : decide ((x.1.length : Int) = (n : Int)) = true := by simp [c1]
    have d2 : decide ((x.2.1.length : Int) = (n : Int)) = false := by simp; omega
    simp only [d1, d2, Bool.not_true, Bool.not_false, cond_false, cond_true, Option.bind_some]
  · have d1 : decide ((x.1.length : Int) = (n : Int)) = false := by simp; omega
    simp only [d1, Bool.not_false, cond_true, Option.bind_some]
theorem ExplanationErr_ne {x : Xp} {n : Nat} (h : ¬ (x.1.length = n ∧ x.2.1.length = n)) : ref07_ExplanationErr x (n : Int) = some 10 := by
  unfold ref07_ExplanationErr
  by_cases c1 : x.1.length = n
  · have c2 : ¬ x.2.1.length = n := fun e => h ⟨c1, e⟩
    have d1 : decide ((x.1.length : Int) = (n : Int)) = true := by simp [c1]
    have d2 : decide ((x.2.1.length : Int) = (n : Int)) = false := by simp; omega
    simp only [d1, d2, Bool.not_true, Bool.not_false, cond_false, cond_true, Option.bind_some]
  · have d1 : decide ((x.1.length : Int) = (n : Int)) = false := by simp; omega
    simp only [d1, Bool.not_false, cond_true, Option.bind_some]
theorem ExplanationErr_ok {x : Xp} {n : Nat} (h1 : x.1.length = n) (h2 : x.2.1.length = n) (hn : n ≤ 1000000) :
    ∃ e, ref07_ExplanationErr x (n : Int) = some e ∧ FirstE (errAt x n) n e := by
  unfold ref07_ExplanationErr
  have c1 : decide ((x.1.length : Int) = (n : Int)) = true := by simp [h1]
  have c2 : decide ((x.2.1.length : Int) = (n : Int)) = true := by simp [h2]
  simp only [c1, c2, Bool.not_true, cond_false, Option.bind_some]
  refine Ok.mono (P := fun e => FirstE (errAt x n) n e) ?_ fun _ h => h
  rw [ok_elim]
  refine (loop_up n (fun i (s : Int) => s = (i : Int) ∧ ∀ j, j < i → errAt x n j = 0)
    (fun r => (r = .inl () ∧ ∀ j, j < n → errAt x n j = 0) ∨ (∃ i, i < n ∧ errAt x n i ≠ 0 ∧ (∀ j, j < i → errAt x n j = 0) ∧ r = .inr (errAt x n i))) ⟨rfl, by simp⟩ ?_).mono ?_
  · rintro i s hi ⟨rfl, hI⟩
    by_cases hlt : i < n
    · have e0 : decide ((i : Int) < (n : Int)) = true := by simp; omega
      simp only [e0, cond_true]
      rw [idx_int (by omega) (by omega), idx_in false (by omega) (by omega), wid (n := (n : Int) - 1) (by omega) (by omega)]
      simp only [Option.bind_some, Int.toNat_natCast, Within_eq]
      by_cases a1 : -1 ≤ sc x i ∧ sc x i ≤ (n : Int) - 1
      case neg =>
        have d1 : decide (-1 ≤ x.1.getD i 0 ∧ x.1.getD i 0 ≤ (n : Int) - 1) = false := by simpa [sc] using a1
        have hE : errAt x n i = 6 := by unfold errAt; rw [if_neg a1]
        simp only [d1, Bool.not_false, cond_true]
        rw [rnd_inr]
        exact .inr ⟨i, hlt, by omega, hI, by rw [hE]⟩
      have d1 : decide (-1 ≤ x.1.getD i 0 ∧ x.1.getD i 0 ≤ (n : Int) - 1) = true := by simpa [sc] using a1
      simp only [d1, Bool.not_true, cond_false]
      rw [rnd_elim]
      refine (loop_up i (fun k (s : Int) => s = (k : Int) ∧ ∀ j, j < k → ¬ (sc x i ≠ -1 ∧ sc x j = sc x i)) (fun r => (r = .inl () ∧ ¬ (sc x i ≠ -1 ∧ sc x i ∈ x.1.take i)) ∨ (r = .inr (.inr (.inr 23)) ∧ (sc x i ≠ -1 ∧ sc x i ∈ x.1.take i))) ⟨rfl, by simp⟩ ?_).mono ?_
      · rintro k s hk ⟨rfl, hK⟩
        by_cases hlt2 : k < i
        · have e1 : decide ((k : Int) < (i : Int)) = true := by simp; omega
          simp only [e1, cond_true]
          rw [idx_int (n := (k : Int)) (by omega) (by omega)]
          simp only [Option.bind_some, Int.toNat_natCast]
          by_cases a2 : sc x i = -1
          · have d2 : decide (x.1.getD i 0 = -1) = true := by simpa [sc] using a2
            simp only [d2, Bool.not_true, cond_false, Option.bind_some]
            rw [wid (by omega) (by omega), rnd_inl]
            exact ⟨hlt2, by simp, fun j hj h => h.1 a2⟩
          · have d2 : decide (x.1.getD i 0 = -1) = false := by simpa [sc] using a2
            simp only [d2, Bool.not_false, cond_true, Option.bind_some]
            by_cases a3 : sc x k = sc x i
            · have d3 : decide (x.1.getD k 0 = x.1.getD i 0) = true := by simpa [sc] using a3
              simp only [d3, cond_true]
              rw [rnd_inr]
              exact .inr ⟨rfl, a2, (mem_take (by omega)).2 ⟨k, hlt2, a3⟩⟩
            · have d3 : decide (x.1.getD k 0 = x.1.getD i 0) = false := by simpa [sc] using a3
              simp only [d3, cond_false]
              rw [wid (by omega) (by omega), rnd_inl]
              refine ⟨hlt2, by simp, fun j hj h => ?_⟩
              by_cases hjk : j < k
              · exact hK j hjk h
              · have : j = k := by omega
                subst this; exact a3 h.2
        · have : k = i := by omega
          subst this
          have e1 : decide ((k : Int) < (k : Int)) = false := by simp
          simp only [e1, cond_false]
          rw [rnd_inr]
          refine .inl ⟨rfl, fun ⟨h3, h4⟩ => ?_⟩
          obtain ⟨j, hj, hjv⟩ := (mem_take (by omega)).1 h4
          exact hK j hj ⟨h3, hjv⟩
      · rintro r (⟨rfl, h3⟩ | ⟨rfl, h3⟩)
        · simp only
          by_cases a2 : sc x i = -1
          · have d2 : decide (x.1.getD i 0 = -1) = true := by simpa [sc] using a2
            simp only [d2, cond_true, Option.bind_some]
            cases a4 : rv x i with
            | true =>
              have d4 : x.2.1.getD i false = true := a4
              have hE : errAt x n i = 3 := by unfold errAt; rw [if_pos a1, if_neg h3, if_pos ⟨a2, a4⟩]
              simp only [d4, cond_true]
              rw [rnd_inr]
              exact .inr ⟨i, hlt, by omega, hI, by rw [hE]⟩
            | false =>
              have d4 : x.2.1.getD i false = false := a4
              have hE : errAt x n i = 0 := by unfold errAt; rw [if_pos a1, if_neg h3, if_neg (by simp [a4])]
              simp only [d4, cond_false]
              rw [wid (by omega) (by omega), rnd_inl]
              refine ⟨hlt, by simp, fun j hj => ?_⟩
              by_cases hji : j < i
              · exact hI j hji
              · have : j = i := by omega
                subst this; exact hE
          · have d2 : decide (x.1.getD i 0 = -1) = false := by simpa [sc] using a2
            have hE : errAt x n i = 0 := by unfold errAt; rw [if_pos a1, if_neg h3, if_neg (fun h => a2 h.1)]
            simp only [d2, cond_false, Option.bind_some]
            rw [wid (by omega) (by omega), rnd_inl]
            refine ⟨hlt, by simp, fun j hj => ?_⟩
            by_cases hji : j < i
            · exact hI j hji
            · have : j = i := by omega
              subst this; exact hE
        · have hE : errAt x n i = 23 := by unfold errAt; rw [if_pos a1, if_pos h3]
          simp only
          exact .inr ⟨i, hlt, by omega, hI, by rw [hE]⟩
    · have : i = n := by omega
      subst this
      have e0 : decide ((i : Int) < (i : Int)) = false := by simp
      simp only [e0, cond_false]
      rw [rnd_inr]
      exact .inl ⟨rfl, hI⟩
  · rintro r (⟨rfl, h⟩ | ⟨i, hi, hne, h, rfl⟩)
    · simp only [ok_some]
      exact .inl ⟨rfl, h⟩
    · simp only
      exact .inr ⟨i, hi, rfl, hne, h⟩
end Go.Proofs.Ytpiggpgocnlomaa
end
section
/-
  SIGNALS UNDONE: the rows; the law.
-/
set_option linter.unusedVariables false
set_option linter.unusedSimpArgs false
namespace Go.Proofs.Ytpiggpgocnlomaa
open Go Go.Ab Go.Tx

theorem set_next {α : Type} (f : α → α) : ∀ (l : List α) (i : Nat) (a : α), l[i]? = some a → ((l.take i).map f ++ l.drop i).set i (f a) = (l.take (i + 1)).map f ++ l.drop (i + 1)
  | [], i, a, h => by simp at h
  | b :: l, 0, a, h => by simp at h; subst h; simp
  | b :: l, i + 1, a, h => by
    have h' : l[i]? = some a := by simpa using h
    have := set_next f l i a h'
    simp only [List.take_succ_cons, List.map_cons, List.drop_succ_cons, List.cons_append, List.set_cons_succ]
    rw [this]
theorem get_next {α : Type} (f : α → α) : ∀ (l : List α) (i : Nat) (a : α), l[i]? = some a → ((l.take i).map f ++ l.drop i)[i]? = some a
  | [], i, a, h => by simp at h
  | b :: l, 0, a, h => by simpa using h
  | b :: l, i + 1, a, h => by
    have h' : l[i]? = some a := by simpa using h
    have := get_next f l i a h'
    simp only [List.take_succ_cons, List.map_cons, List.drop_succ_cons, List.cons_append, List.getElem?_cons_succ]
    exact this
/-- a row that is written up to k -/
def pr (g : Int → Int) (l old : List Int) (k : Nat) : List Int := (l.take k).map g ++ old.drop k
theorem pr_next (g : Int → Int) : ∀ (l old : List Int) (k : Nat), old.length = l.length → k < l.length → (pr g l old k).set k (g (l.getD k 0)) = pr g l old (k + 1)
  | [], _, k, _, h => by simp at h
  | b :: l, [], k, h, _ => by simp at h
  | b :: l, o :: old, 0, h, _ => by simp [pr]
  | b :: l, o :: old, k + 1, h, hk => by
    have := pr_next g l old k (by simpa using h) (by simpa using hk)
    unfold pr at *
    simp only [List.take_succ_cons, List.map_cons, List.drop_succ_cons, List.cons_append, List.set_cons_succ, List.getD_cons_succ]
    rw [this]
theorem pr_len {g : Int → Int} {l old : List Int} {k : Nat} (h : old.length = l.length) (hk : k ≤ l.length) : (pr g l old k).length = l.length := by
  unfold pr; simp; omega
theorem pr_all {g : Int → Int} {l old : List Int} (h : old.length = l.length) : pr g l old l.length = l.map g := by
  unfold pr; rw [List.take_length, ← h, List.drop_length, List.append_nil]
theorem idx_set {D : List (List Int)} {s : Int} (A : List Int) (h0 : 0 ≤ s) (h1 : s < D.length) : idx (D.set s.toNat A) s = some A := by
  rw [idx_nil h0 (by simpa using h1)]
  have : s.toNat < D.length := by omega
  simp [this]
theorem set_same {D : List (List Int)} {s : Nat} (h : s < D.length) : D.set s (D.getD s []) = D := by
  apply List.ext_getElem?
  intro j
  by_cases hj : j = s
  · subst hj; rw [List.getElem?_set_self h]; exact (at_getD [] h).symm
  · rw [List.getElem?_set_ne (fun e => hj e.symm)]

structure Chs (a : List (List Int)) : Prop where
  n1 : 1 ≤ a.length
  n2 : a.length ≤ 4
  w1 : 1 ≤ n0 a
  w2 : n0 a ≤ 60
  len : ∀ c, c < a.length → (a.getD c []).length = n0 a
  val : ∀ c, c < a.length → ∀ k, k < n0 a → -100000 ≤ (a.getD c []).getD k 0 ∧ (a.getD c []).getD k 0 ≤ 100000
theorem chs_ok {a : List (List Int)} (h : chanE a 4 = 0) : Chs a := by
  obtain ⟨h1, h2, h3⟩ := chanE_zero h
  have h4 := fun c (hc : c < a.length) => h3 _ (getD_mem (d := []) hc)
  have h0 := h4 0 h1
  obtain ⟨r1, r2, _⟩ := rawE_zero h0.1
  refine ⟨h1, by omega, by omega, by omega, fun c hc => (h4 c hc).2, fun c hc k hk => ?_⟩
  obtain ⟨_, _, r3⟩ := rawE_zero (h4 c hc).1
  exact r3 _ (getD_mem (by rw [(h4 c hc).2]; exact hk))
def sg (x : Xp) (c : Nat) (v : Int) : Int := if rv x c = true then -v else v
def rowU (a : List (List Int)) (x : Xp) (c : Nat) : List Int := (a.getD c []).map (sg x c)
def DU (a : List (List Int)) (x : Xp) : Nat → List (List Int)
  | 0 => List.replicate a.length (List.replicate (n0 a) 0)
  | c + 1 => if sc x c = -1 then DU a x c else (DU a x c).set (sc x c).toNat (rowU a x c)
theorem DU_len (a : List (List Int)) (x : Xp) : ∀ c, (DU a x c).length = a.length
  | 0 => by simp [DU]
  | c + 1 => by
    unfold DU
    split
    · exact DU_len a x c
    · rw [List.length_set]; exact DU_len a x c
theorem DU_row {a : List (List Int)} (h : Chs a) (x : Xp) : ∀ c, c ≤ a.length → ∀ r ∈ DU a x c, r.length = n0 a
  | 0, _, r, hr => by
    unfold DU at hr
    rw [List.eq_of_mem_replicate hr]; simp
  | c + 1, hc, r, hr => by
    unfold DU at hr
    split at hr
    · exact DU_row h x c (by omega) r hr
    · rcases List.mem_or_eq_of_mem_set hr with h1 | rfl
      · exact DU_row h x c (by omega) r h1
      · unfold rowU; rw [List.length_map]; exact h.len c (by omega)
theorem sg_bd {x : Xp} {c : Nat} {v : Int} : sg x c v = v ∨ sg x c v = -v := by unfold sg; split <;> simp
structure Xok (a : List (List Int)) (x : Xp) : Prop where
  l1 : x.1.length = a.length
  l2 : x.2.1.length = a.length
  rng : ∀ c, c < a.length → -1 ≤ sc x c ∧ sc x c ≤ (a.length : Int) - 1
theorem xok_of {a : List (List Int)} {x : Xp} (h1 : x.1.length = a.length) (h2 : x.2.1.length = a.length) (h : ∀ j, j < a.length → errAt x a.length j = 0) : Xok a x := by
  refine ⟨h1, h2, fun c hc => ?_⟩
  have := h c hc
  unfold errAt at this
  split at this
  · assumption
  · cases this

/-! ### the program's way -/
theorem Undone_ok {a : List (List Int)} {x : Xp} (ha : a.length ≤ big) (hc : ∀ c ∈ a, c.length ≤ big) :
    ∃ o e, sensor_Undone a x = some (o, e) ∧ (chanE a 4 ≠ 0 → e = chanE a 4 ∧ o = []) ∧
      (chanE a 4 = 0 → (¬ (x.1.length = a.length ∧ x.2.1.length = a.length) → e = 10 ∧ o = []) ∧
        ((x.1.length = a.length ∧ x.2.1.length = a.length) → FirstE (errAt x a.length) a.length e ∧ (e ≠ 0 → o = []) ∧ (e = 0 → o = DU a x a.length))) := by
  unfold sensor_Undone
  rw [samplesOf_eq]
  simp only [Option.bind_some]
  rw [channelsErr_eq a _ _ ha hc]
  simp only [Option.bind_some]
  have hE : firstE [if 0 < a.length then 0 else 10, if (a.length : Int) ≤ 4 then 0 else 8, firstE (a.map (eC (n0 a)))] = chanE a 4 := rfl
  rw [hE]
  by_cases h0 : chanE a 4 = 0
  case neg =>
    have d0 : decide (chanE a 4 = 0) = false := by simp [h0]
    simp only [d0, Bool.not_false, cond_true]
    exact ⟨_, _, rfl, fun _ => ⟨rfl, rfl⟩, fun h => absurd h h0⟩
  have ch := chs_ok h0
  obtain ⟨n1, n2, w1, w2, hlen, hval⟩ := ch
  have ch := chs_ok h0
  have d0 : decide (chanE a 4 = 0) = true := by simp [h0]
  simp only [d0, Bool.not_true, cond_false]
  by_cases hl : x.1.length = a.length ∧ x.2.1.length = a.length
  case neg =>
    rw [sourcesOf_ne hl]
    simp only [Option.bind_some]
    exact ⟨_, _, rfl, fun h => absurd h0 h, fun _ => ⟨fun _ => ⟨rfl, rfl⟩, fun h => absurd h hl⟩⟩
  obtain ⟨o, e, hs, hF, ho⟩ := sourcesOf_ok hl.1 hl.2 (by omega)
  rw [hs]
  simp only [Option.bind_some]
  by_cases he : e = 0
  case neg =>
    have d1 : decide (e = 0) = false := by simp [he]
    simp only [d1, Bool.not_false, cond_true]
    exact ⟨_, _, rfl, fun h => absurd h0 h, fun _ => ⟨fun h => absurd hl h, fun _ => ⟨hF, fun _ => rfl, fun h => absurd h he⟩⟩⟩
  have xok : Xok a x := by
    rcases hF with ⟨_, h⟩ | ⟨i, h1, h2, h3, _⟩
    · exact xok_of hl.1 hl.2 h
    · exact absurd (by rw [← h2]; exact he) h3
  have d1 : decide (e = 0) = true := by simp [he]
  have ho' := ho he
  subst ho'
  simp only [d1, Bool.not_true, cond_false, decide_true, cond_true]
  rw [mkS_in (by omega)]
  simp only [Option.bind_some, Int.toNat_natCast]
  refine ex_eq (a := DU a x a.length) (b := (0 : Int)) ?_ ⟨fun h => absurd h0 h, fun _ => ⟨fun h => absurd hl h, fun _ => ⟨by rw [← he]; exact hF, fun h => absurd rfl h, fun _ => rfl⟩⟩⟩
  · rw [ok_bind]
    refine (loop_up a.length (fun i (s : List (List Int) × Int) => s = (((List.replicate a.length ([] : List Int)).take i).map (fun _ => List.replicate (n0 a) 0) ++ (List.replicate a.length ([] : List Int)).drop i, (i : Int))) (fun r => r = DU a x 0) (by simp) ?_).mono ?_
    · rintro i s hi rfl
      by_cases hlt : i < a.length
      · have e0 : decide ((i : Int) < ((List.replicate a.length ([] : List Int)).length : Int)) = true := by simp; omega
        have hr : (List.replicate a.length ([] : List Int))[i]? = some [] := by simp [hlt]
        simp only [e0, cond_true]
        rw [idx_nil (l := a) (by omega) (by omega)]
        simp only [Option.bind_some, Int.toNat_zero]
        rw [hlen 0 (by omega), mkS_in (by omega)]
        simp only [Option.bind_some, Int.toNat_natCast, decide_true, cond_true]
        rw [idx_of (get_next (fun _ => List.replicate (n0 a) 0) _ i _ hr)]
        simp only [Option.bind_some, Int.toNat_natCast]
        rw [wid (by omega) (by omega), rnd_inl]
        refine ⟨hlt, ?_⟩
        have := set_next (fun _ => List.replicate (n0 a) (0 : Int)) _ i _ hr
        rw [this]; rfl
      · have : i = a.length := by omega
        subst this
        have e0 : decide ((a.length : Int) < ((List.replicate a.length ([] : List Int)).length : Int)) = false := by simp
        simp only [e0, cond_false]
        rw [rnd_inr]
        have hl' : a.length = (List.replicate a.length ([] : List Int)).length := by simp
        rw [List.take_of_length_le (by simp), List.drop_of_length_le (by simp), List.append_nil]
        unfold DU
        simp
    rintro _ rfl
    rw [ok_bind]
    refine (loop_up a.length (fun i (s : List (List Int) × Int) => s = (DU a x i, (i : Int))) (fun r => r = DU a x a.length) rfl ?_).mono ?_
    · rintro c s hci rfl
      have hsl : (srcs x a.length).length = a.length := mkL_len _ _
      by_cases hlt : c < a.length
      · have e0 : decide ((c : Int) < ((srcs x a.length).length : Int)) = true := by simp; omega
        simp only [e0, cond_true]
        have hidx : idx (srcs x a.length) (c : Int) = some (sc x c, rv x c, ()) := idx_of (mkL_get _ hlt)
        rw [hidx]
        simp only [Option.bind_some]
        obtain ⟨g1, g2⟩ := xok.rng c hlt
        by_cases a2 : sc x c = -1
        · have d2 : decide (sc x c = -1) = true := by simp [a2]
          simp only [d2, cond_true, Option.bind_some]
          rw [wid (by omega) (by omega), rnd_inl]
          refine ⟨hlt, ?_⟩
          rw [show DU a x (c + 1) = DU a x c by rw [DU, if_pos a2]]; rfl
        · have d2 : decide (sc x c = -1) = false := by simp [a2]
          have s0 : 0 ≤ sc x c := by omega
          have hD := DU_len a x c
          have s1 : sc x c < (DU a x c).length := by omega
          have hold : ((DU a x c).getD (sc x c).toNat []).length = (a.getD c []).length := by
            rw [hlen c hlt]; exact DU_row ch x c (by omega) _ (getD_mem (by omega))
          have hw := hlen c hlt
          have hv := hval c hlt
          simp only [d2, cond_false]
          rw [idx_nil (l := a) (by omega) (by omega)]
          simp only [Option.bind_some, Int.toNat_natCast]
          generalize hlr : a.getD c [] = l at *
          generalize hold' : (DU a x c).getD (sc x c).toNat [] = old at *
          have hnext : DU a x (c + 1) = (DU a x c).set (sc x c).toNat (l.map (sg x c)) := by
            rw [DU, if_neg a2]; unfold rowU; rw [hlr]
          rw [rnd_bind, ok_bind]
          · refine (loop_up l.length (fun k (s : List (List Int) × Int) => s = ((DU a x c).set (sc x c).toNat (pr (sg x c) l old k), (k : Int))) (fun r => r = (DU a x c).set (sc x c).toNat (l.map (sg x c))) ?_ ?_).mono ?_
            · have : pr (sg x c) l old 0 = old := by simp [pr]
              rw [this, ← hold', set_same (by omega)]; rfl
            · rintro k s hk rfl
              by_cases hlk : k < l.length
              · have e2 : decide ((k : Int) < (l.length : Int)) = true := by simp; omega
                have hpl := pr_len (g := sg x c) (k := k) hold (by omega)
                simp only [e2, cond_true]
                rw [idx_int (l := l) (by omega) (by omega), idx_set _ s0 s1]
                simp only [Option.bind_some, Int.toNat_natCast]
                rw [idx_int (l := pr (sg x c) l old k) (by omega) (by omega)]
                have hsgn : sensor_source_sign (sc x c, rv x c, ()) = some (if rv x c = true then -1 else 1) := by
                  unfold sensor_source_sign
                  cases rv x c <;> rfl
                rw [hsgn]
                simp only [Option.bind_some]
                have hvk := hv k (by omega)
                have hw64 : w64 ((if rv x c = true then (-1 : Int) else 1) * l.getD k 0) = sg x c (l.getD k 0) := by
                  unfold sg
                  split
                  · rw [wid (by omega) (by omega)]; omega
                  · rw [wid (by omega) (by omega)]; omega
                rw [hw64, pr_next _ _ _ _ hold hlk, List.set_set, wid (by omega) (by omega), rnd_inl]
                exact ⟨hlk, rfl⟩
              · have : k = l.length := by omega
                subst this
                have e2 : decide ((l.length : Int) < (l.length : Int)) = false := by simp
                simp only [e2, cond_false]
                rw [rnd_inr, pr_all hold]
            · rintro _ rfl
              rw [ok_some]
              rw [wid (by omega) (by omega), rnd_inl, hnext]
              exact ⟨hlt, rfl⟩
      · have : c = a.length := by omega
        subst this
        have e0 : decide ((a.length : Int) < ((srcs x a.length).length : Int)) = false := by simp; omega
        simp only [e0, cond_false]
        rw [rnd_inr]
    rintro _ rfl
    rw [ok_some]

/-! ### the reference's way -/
theorem refUndone_ok {a : List (List Int)} {x : Xp} (ch : Chs a) (xok : Xok a x) : ref07_Undone a x = some (DU a x a.length) := by
  obtain ⟨n1, n2, w1, w2, hlen, hval⟩ := ch
  have ch : Chs a := ⟨n1, n2, w1, w2, hlen, hval⟩
  unfold ref07_Undone
  rw [for_mk a.length (fun _ => List.replicate (n0 a) (0 : Int)) (fun i hi => ?_) ?_]
  · simp only [Option.bind_some]
    have hD0 : mkL a.length (fun _ => List.replicate (n0 a) (0 : Int)) = DU a x 0 := by
      unfold DU mkL
      rw [List.map_const', List.length_range]
    rw [hD0]
    refine Ok.eq ?_
    rw [ok_bind]
    refine (loop_up a.length (fun i (s : List (List Int) × Int) => s = (DU a x i, (i : Int))) (fun r => r = DU a x a.length) rfl ?_).mono ?_
    · rintro c s hci rfl
      by_cases hlt : c < a.length
      · have e0 : decide ((c : Int) < (a.length : Int)) = true := by simp; omega
        simp only [e0, cond_true]
        obtain ⟨g1, g2⟩ := xok.rng c hlt
        have hx1 : idx x.1 (c : Int) = some (sc x c) := by have := xok.l1; rw [idx_int (by omega) (by omega)]; rfl
        have hx2 : idx x.2.1 (c : Int) = some (rv x c) := by have := xok.l2; rw [idx_in false (by omega) (by omega)]; rfl
        have hac : idx a (c : Int) = some (a.getD c []) := by rw [idx_nil (by omega) (by omega)]; rfl
        simp only [hx1, hx2, hac, Option.bind_some]
        have hw := hlen c hlt
        by_cases a2 : sc x c = -1
        · have hin : ∀ (f : List (List Int) × Int → Option ((List (List Int) × Int) ⊕ List (List Int))), f (DU a x c, 0) = some (.inr (DU a x c)) → loopO f (DU a x c, 0) = some (DU a x c) := fun f h => loopO_inr h
          rw [hin _ (by
            have e2 : decide ((0 : Int) < ((a.getD c []).length : Int)) = true := by simp only [decide_eq_true_eq]; omega
            have e3 : decide (sc x c ≥ 0) = false := by simp; omega
            simp only [e2, e3, cond_true, cond_false, Option.bind_some])]
          simp only [Option.bind_some]
          rw [wid (by omega) (by omega), rnd_inl]
          refine ⟨hlt, ?_⟩
          rw [show DU a x (c + 1) = DU a x c by rw [DU, if_pos a2]]; rfl
        · have s0 : 0 ≤ sc x c := by omega
          have hD := DU_len a x c
          have s1 : sc x c < (DU a x c).length := by omega
          have hold : ((DU a x c).getD (sc x c).toNat []).length = (a.getD c []).length := by
            rw [hw]; exact DU_row ch x c (by omega) _ (getD_mem (by omega))
          have hv := hval c hlt
          generalize hlr : a.getD c [] = l at *
          generalize hold' : (DU a x c).getD (sc x c).toNat [] = old at *
          have hnext : DU a x (c + 1) = (DU a x c).set (sc x c).toNat (l.map (sg x c)) := by
            rw [DU, if_neg a2]; unfold rowU; rw [hlr]
          rw [rnd_bind]
          · refine (loop_up l.length (fun k (s : List (List Int) × Int) => s = ((DU a x c).set (sc x c).toNat (pr (sg x c) l old k), (k : Int))) (fun r => r = (DU a x c).set (sc x c).toNat (l.map (sg x c))) ?_ ?_).mono ?_
            · have : pr (sg x c) l old 0 = old := by simp [pr]
              rw [this, ← hold', set_same (by omega)]; rfl
            · rintro k s hk rfl
              by_cases hlk : k < l.length
              · have e2 : decide ((k : Int) < (l.length : Int)) = true := by simp; omega
                have e3 : decide (sc x c ≥ 0) = true := by simp; omega
                have hpl := pr_len (g := sg x c) (k := k) hold (by omega)
                have hvk := hv k (by omega)
                have i1 : ∀ A : List Int, idx ((DU a x c).set (sc x c).toNat A) (sc x c) = some A := fun A => idx_set _ s0 s1
                have i2 : idx l (k : Int) = some (l.getD k 0) := by rw [idx_int (by omega) (by omega)]; rfl
                have i3 : ∃ z, idx (pr (sg x c) l old k) (k : Int) = some z := ⟨_, idx_int (by omega) (by omega)⟩
                obtain ⟨z, i3⟩ := i3
                simp only [e2, e3, cond_true, Option.bind_some, i1, i2, i3, Int.toNat_natCast, List.set_set]
                cases hb : rv x c with
                | false =>
                  have hsg : sg x c (l.getD k 0) = l.getD k 0 := by unfold sg; rw [if_neg (by simp [hb])]
                  simp only [cond_false, Option.bind_some]
                  rw [← hsg, pr_next _ _ _ _ hold hlk, wid (by omega) (by omega), rnd_inl]
                  exact ⟨hlk, rfl⟩
                | true =>
                  have hsg : sg x c (l.getD k 0) = 0 - l.getD k 0 := by unfold sg; rw [if_pos hb]; omega
                  have i4 : ∃ z, idx ((pr (sg x c) l old k).set k (l.getD k 0)) (k : Int) = some z := ⟨_, idx_int (by omega) (by rw [List.length_set]; omega)⟩
                  obtain ⟨z4, i4⟩ := i4
                  simp only [cond_true, Option.bind_some, i4]
                  rw [wid (n := 0 - l.getD k 0) (by omega) (by omega), ← hsg, pr_next _ _ _ _ hold hlk, wid (by omega) (by omega), rnd_inl]
                  exact ⟨hlk, rfl⟩
              · have : k = l.length := by omega
                subst this
                have e2 : decide ((l.length : Int) < (l.length : Int)) = false := by simp
                simp only [e2, cond_false, Option.bind_some]
                rw [rnd_inr, pr_all hold]
            · rintro _ rfl
              rw [wid (by omega) (by omega), rnd_inl, hnext]
              exact ⟨hlt, rfl⟩
      · have : c = a.length := by omega
        subst this
        have e0 : decide ((a.length : Int) < (a.length : Int)) = false := by simp
        simp only [e0, cond_false]
        rw [rnd_inr]
    rintro _ rfl
    rw [ok_some]
  · have e0 : decide ((a.length : Int) < (a.length : Int)) = false := by simp
    simp only [e0, cond_false]
  · have e0 : decide ((i : Int) < (a.length : Int)) = true := by simp; omega
    simp only [e0, cond_true]
    rw [idx_nil (l := a) (by omega) (by omega)]
    simp only [Option.bind_some, Int.toNat_zero]
    rw [hlen 0 (by omega), mkS_in (by omega)]
    simp only [Option.bind_some, Int.toNat_natCast, decide_true, cond_true]
    rw [app_one (by rw [mkL_len]; omega)]
    simp only [Option.bind_some]
    rw [wid (by omega) (by omega)]

/-! ### lists -/
theorem Ints_ok {l m : List Int} (hl : l.length ≤ 1000000000) : base_Ints l m = some (decide (l = m)) := by
  unfold base_Ints
  by_cases h : l.length = m.length
  · have e : decide ((l.length : Int) = (m.length : Int)) = true := by simp [h]
    simp only [e, Bool.not_true, cond_false]
    refine ints_loop 0 h hl (fun a b => decide (a = b)) (by simp) fun i hi => ?_
    rw [idx_int (by omega) (by omega), idx_int (by omega) (by omega)]
    simp only [Option.bind_some, Int.toNat_natCast]
    by_cases c : l.getD i 0 = m.getD i 0
    · simp only [c, decide_true, Bool.not_true, cond_false, if_true]; rw [wid (by omega) (by omega)]
    · simp only [c, decide_false, Bool.not_false, cond_true, Bool.false_eq_true, if_false]
  · have e : decide ((l.length : Int) = (m.length : Int)) = false := by simp; omega
    have : l ≠ m := fun e => h (by rw [e])
    simp [e, this]
theorem Lists_ok {l m : List (List Int)} (hl : l.length ≤ 1000000000) (hr : ∀ r ∈ l, r.length ≤ 1000000000) : base_Lists l m = some (decide (l = m)) := by
  unfold base_Lists
  by_cases h : l.length = m.length
  · have e : decide ((l.length : Int) = (m.length : Int)) = true := by simp [h]
    simp only [e, Bool.not_true, cond_false]
    refine ints_loop [] h hl (fun a b => decide (a = b)) (by simp) fun i hi => ?_
    rw [idx_nil (by omega) (by omega), idx_nil (by omega) (by omega)]
    simp only [Option.bind_some, Int.toNat_natCast]
    rw [Ints_ok (hr _ (getD_mem hi))]
    simp only [Option.bind_some]
    by_cases c : l.getD i [] = m.getD i []
    · simp only [c, decide_true, Bool.not_true, cond_false, if_true]; rw [wid (by omega) (by omega)]
    · simp only [c, decide_false, Bool.not_false, cond_true, Bool.false_eq_true, if_false]
  · have e : decide ((l.length : Int) = (m.length : Int)) = false := by simp; omega
    have : l ≠ m := fun e => h (by rw [e])
    simp [e, this]

/-! ### the law -/
theorem SensorUndone_eq (a : List (List Int)) (x : Xp) (ha : a.length ≤ big) (hc : ∀ c ∈ a, c.length ≤ big) : law07_SensorUndone a x = some true := by
  unfold law07_SensorUndone
  have aw : law07_awake = some true := rfl
  rw [aw]
  simp only [Option.bind_some, Bool.not_true, cond_false]
  rw [channels_eq a ha]
  simp only [Option.bind_some]
  by_cases hch : (∀ c ∈ a, c.length ≤ 62) ∧ a.length ≤ 9
  case neg => simp only [hch, decide_false, Bool.not_false, cond_true, Option.bind_some]
  have dch : decide ((∀ c ∈ a, c.length ≤ 62) ∧ a.length ≤ 9) = true := by simpa using hch
  obtain ⟨hch1, hch2⟩ := hch
  simp only [dch, Bool.not_true, cond_false]
  by_cases h1 : (x.1.length : Int) > 6
  · simp only [h1, decide_true, cond_true, Option.bind_some]
  simp only [h1, decide_false, cond_false, Option.bind_some]
  by_cases h2 : (x.2.1.length : Int) > 6
  · simp only [h2, decide_true, cond_true]
  simp only [h2, decide_false, cond_false]
  rw [CopyLists_ok (by omega) (fun r hr => by have := hch1 r hr; omega), CopyExplanation_ok (by omega) (by omega), ChannelsErr_eq a 4 ha]
  simp only [Option.bind_some]
  obtain ⟨o, e, hU, hU1, hU2⟩ := Undone_ok (x := x) ha hc
  rw [hU]
  simp only [Option.bind_some]
  by_cases h0 : chanE a 4 = 0
  case neg =>
    obtain ⟨rfl, rfl⟩ := hU1 h0
    have d0 : decide (chanE a 4 = 0) = false := by simp [h0]
    simp only [d0, cond_false, Option.bind_some, Bool.not_false, cond_true, decide_true]
    rfl
  have ch := chs_ok h0
  obtain ⟨hU3, hU4⟩ := hU2 h0
  have d0 : decide (chanE a 4 = 0) = true := by simp [h0]
  simp only [d0, cond_true]
  by_cases hl : x.1.length = a.length ∧ x.2.1.length = a.length
  case neg =>
    obtain ⟨rfl, rfl⟩ := hU3 hl
    rw [ExplanationErr_ne hl]
    rfl
  obtain ⟨hF, hU5, hU6⟩ := hU4 hl
  obtain ⟨e', hE, hF'⟩ := ExplanationErr_ok hl.1 hl.2 (by omega)
  have := hF.same hF'
  subst this
  rw [hE]
  simp only [Option.bind_some]
  by_cases he : e = 0
  case neg =>
    have d1 : decide (e = 0) = false := by simp [he]
    obtain rfl := hU5 he
    simp only [d1, Bool.not_false, cond_true, decide_true, Option.bind_some]
    rfl
  have d1 : decide (e = 0) = true := by simp [he]
  have xok : Xok a x := by
    rcases hF with ⟨_, h⟩ | ⟨i, h1, h2, h3, _⟩
    · exact xok_of hl.1 hl.2 h
    · exact absurd (by rw [← h2]; exact he) h3
  obtain rfl := hU6 he
  simp only [d1, Bool.not_true, cond_false, cond_true]
  rw [refUndone_ok ch xok]
  simp only [Option.bind_some]
  rw [Lists_ok (by rw [DU_len]; omega) (fun r hr => by have := DU_row ch x a.length (Nat.le_refl _) r hr; have := ch.w2; omega)]
  simp
theorem law07_SensorUndone_true : ∀ x : denP ([Ty.sl (.sl I), .pair (.sl I) (.pair (.sl .bool) .unit)].map .ty), RngP maxLen [.sl (.sl I), .pair (.sl I) (.pair (.sl .bool) .unit)] x → e_law07_SensorUndone.F x = some true := by
  rintro ⟨a0, a1⟩ ⟨⟨h0, h1⟩, _⟩
  exact SensorUndone_eq a0 a1 (Nat.le_trans h0 (by decide)) fun c hc => Nat.le_trans (h1 c hc).1 (by decide)
end Go.Proofs.Ytpiggpgocnlomaa
end
section
/-
  THE LAW SensorUndone.
-/
namespace Go.Proofs.Ytpiggpgocnlomaa.sensorUndone
open Go Go.Ab Go.Tx Go.ChangeShapes Go.WideShapes Go.ChangeAt Go.RowKit
set_option linter.unusedVariables false
theorem hlib : ∀ g h args r, Lb g = some h → h args = some r → CallOk Try.prog g args [] r [] := fun g h args r hg hr => by
  unfold Lb at hg
  split at hg
  · rename_i e
    subst e
    cases hg
    cases args with
    | nil => cases hr; exact awake_ok
    | cons a l => cases hr
  · cases hg
set_option maxRecDepth 100000 in
theorem contract (H : Type) (enc : TypeId × Value → H) (W : World) (base : Nat) (args : Array Value) (ds gs : List (DataW H)) (before : List MemPlace)
    (hval : ∀ (j : Nat) t v, Try.f11.params[j]? = some t → args[j]? = some v → Value.okWide Try.prog W .any base t v)
    (hW : DataW.Whole enc Try.prog Try.f11.params.toList Rows.sensorUndoneSpec.vars false W args.toList ds gs before) :
    Calls Try.prog 11 args W fun e W' => ∃ v, e = .returned v ∧ Rows.sensorUndoneSpec.post enc Try.prog Try.f11 false true false false W args v W' :=
  law_contract (τs := [.sl (.sl I), .pair (.sl I) (.pair (.sl .bool) .unit)]) (ts := [22, 107]) (tb := 4) (F := e_law07_SensorUndone.F) follows hname hlib laid_out Try.func11 (by kernel_rfl) (by kernel_rfl) (by kernel_rfl) (by kernel_rfl) (by kernel_rfl) (by kernel_rfl) Try.underlying4 o_law07_SensorUndone law07_SensorUndone_true rfl
    (fun H ds h => by
      match ds, h with
      | [d1, d2], _ => rfl) H enc W base args ds gs before hval hW
set_option maxRecDepth 100000 in
theorem lifted (os : Os) (started : os.Started) (H : Type) (enc : TypeId × Value → H) :
    ReturnsInHanded {} Try.checked os 11 .any (Rows.sensorUndoneSpec.pre6 enc Try.prog Try.f11 Rows.sensorUndoneRow.domain false) (Rows.sensorUndoneSpec.post enc Try.prog Try.f11 false true false false) := by
  refine returnsInHanded_of_change (C := Try.checked) own started (by kernel_rfl) Try.func11
    (ChangeSpec.witness6 (enc := enc) (C := Try.checked) false ⟨#[], #[.slice none 0 0, .agg #[.slice none 0 0, .slice none 0 0]], []⟩ 8 (by kernel_rfl) (by kernel_rfl) (by kernel_rfl) (by kernel_rfl)) ?_
  intro W base args ds gs before hval hW _ _
  exact contract H enc W base args ds gs before hval hW
theorem proved : Rows.SensorUndoneSaid :=
  OpenClaim.holds_of_wide 11 Try.f11 rfl rfl rfl rfl rfl rfl rfl ⟨rfl, rfl, rfl, rfl, rfl⟩ rfl rfl rfl rfl rfl (by kernel_rfl) Try.func11 (by kernel_rfl)
    (of_decide_eq_true (by kernel_rfl)) (by unfold Func.isWrapper; first | (rw [if_pos (by decide +kernel)]; kernel_rfl) | (rw [if_neg (by decide +kernel)]; exact ⟨rfl, rfl⟩))
    (fun os started H enc _ => lifted os started H enc)
end Go.Proofs.Ytpiggpgocnlomaa.sensorUndone
end
