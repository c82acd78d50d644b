/-
  ONE LAW OF A CHAPTER: its program side is run by an interpreter that is proved sound; what it computes is shown to be what the law says. No conditions. Part 7 of 7.
-/
import Derived.Test.YtbcdgfgacigaoaaGreatMdzf
set_option linter.unusedSimpArgs false
set_option linter.unusedVariables false
set_option linter.unnecessarySimpa false
section
namespace Go.Proofs.YtbcdgfgacigaoaaGreat.Mat
open Go Go.Ab Go.Tx Go.Proofs.YtbcdgfgacigaoaaGreat
def qlC (ρ : Rn) (x : Qt) : Int × Int := if qkD ρ ≠ 0 then (0, qkD ρ) else if qtE x (rnN ρ) ≠ 0 then (0, qtE x (rnN ρ)) else
 match qAy (mx (rnN ρ) (rnN ρ) (qe1 (rnN ρ) (ent x.2.1) (sF ρ))) (mx (rnN ρ) (rnN ρ) fun i k => qK (tF ρ i k) (x.1, 0, ())) with
 | some i => ((i : Int), 19)
 | none => (0, 0)
theorem qlQ {ρ : Rn} {x : Qt} (h1 : ρ.1.length <= 1000000) (hr : ∀ d ∈ ρ.1, d.length <= 1000000) (hr2 : ∀ r ∈ ρ.2.1, r.length <= 1000000) (hl : x.2.1.length <= 1000) (hxr : ∀ r ∈ x.2.1, r.length <= 1000) : qbv ρ x = some (qlC ρ x) := by
 obtain ⟨y, e1, e2⟩ := qn5 h1 hr hr2;unfold qbv qlC;rw [e1, qa];try dsimp only
 by_cases c : qkD ρ = 0
 case neg => rw [decide_eq_false c, cond_false, qa, decide_eq_false c, Bool.not_false, cond_true, if_pos c]
 rw [decide_eq_true c, cond_true, if_neg (show ¬ (qkD ρ ≠ 0) from fun hh => hh c), e2 c];obtain ⟨m, w, hE, hrun⟩ := qBi c;have hm2 : m <= 2 := by have := hE.run.n3; omega
 rw [hE.len];dsimp only;rw [qaX, qyL hl hxr (by omega), qa, qa];by_cases hq : qtE x (m + 1) = 0
 case neg => rw [decide_eq_false hq, Bool.not_false, cond_true, if_pos hq]
 rw [decide_eq_true hq, Bool.not_true, cond_false, if_neg (show ¬ qtE x (m + 1) ≠ 0 from fun hh => hh hq)];obtain ⟨hd, hR, hxB, _⟩ := qA6 hq;have hx := qxH hR;have hxb := qwr hxB hR;have htimes := qux (A := qI) (B := 972) (by unfold qI; omega) (by omega) hxb hE.sB (by omega) (by omega) (by omega) (by omega) (by unfold qI; omega);rw [<- hx] at htimes;rw [htimes, qa, qwg (A := 972) (B := qI) (by omega) (by omega) (by omega) hE.tB (by unfold qI at hd ⊢; omega) (by unfold qI; omega), qa];rw [qvD (by rw [qaX]; omega) (by rw [qaX, qaX]; omega) (fun r hr => by rw [(qqN _ _ _).2 r hr]; omega), qa];cases qAy (mx (m + 1) (m + 1) (qe1 (m + 1) (ent x.2.1) (sF ρ))) (mx (m + 1) (m + 1) fun i k => qK (tF ρ i k) (x.1, 0, ())) <;> rfl
theorem qjj {ρ : Rn} {x : Qt} (h1 : ρ.1.length <= 1000000) (hr : ∀ d ∈ ρ.1, d.length <= 1000000) (hl : x.2.1.length <= 1000) (hxr : ∀ r ∈ x.2.1, r.length <= 1000) : qbx ρ x = some (qlC ρ x) := by
 unfold qbx qlC;rw [qiu h1 hr, qa];by_cases c : qkD ρ = 0
 case neg => rw [decide_eq_false c, Bool.not_false, cond_true, if_pos c]
 rw [decide_eq_true c, Bool.not_true, cond_false, if_neg (show ¬ (qkD ρ ≠ 0) from fun hh => hh c)];obtain ⟨m, w, hE, hrun⟩ := qBi c;have hm2 : m <= 2 := by have := hE.run.n3; omega
 have hN := hE.run.l1;have f3 : idx ρ.1 0 = some (ρ.1.getD 0 []) := by rw [qb7 [] (by omega) (by omega)]; rfl
 have hlen : ((ρ.1.getD 0 []).length : Int) = ((m + 1 : Nat) : Int) := by have := hE.len; unfold rnN at this; rw [this]
 rw [f3, qa, hlen, hE.len, qsv hl hxr (by omega), qa];by_cases hq : qtE x (m + 1) = 0
 case neg => rw [decide_eq_false hq, Bool.not_false, cond_true, if_pos hq]
 rw [decide_eq_true hq, Bool.not_true, cond_false, if_neg (show ¬ qtE x (m + 1) ≠ 0 from fun hh => hh hq)];obtain ⟨hd, hR, hxB, _⟩ := qA6 hq;have hx := qxH hR;have hxb := qwr hxB hR;have es : qX ρ.1 ρ.1 = some (mx (m + 1) (m + 1) (sF ρ)) := qf5 hE.run.d hE.run.d hE.run.l1 hE.run.l6 hE.run.n3;have et : qX ρ.2.1 ρ.1 = some (mx (m + 1) (m + 1) (tF ρ)) := qf5 hE.run.r hE.run.d hE.run.l1 hE.run.l6 hE.run.n3;have htimes := qpa (A := qI) (B := 972) (by unfold qI; omega) (by omega) hxb hE.sB (by omega) (by omega) (by omega) (by omega) (by unfold qI; omega);rw [<- hx] at htimes;have hz : Bd qI ((x.1, 0, ()) : G) := by unfold Bd qI at *; simp only <;> omega
 rw [es, qa, htimes, qa, et, qa, qrW (A := 972) (B := qI) (by omega) (by omega) hE.tB hz (by unfold qI; omega), qa];rw [qpV (by rw [qaX]; omega) (by rw [qaX, qaX]; omega) (fun r hr => by rw [(qqN _ _ _).2 r hr]; omega) (fun i hi => by rw [qaX] at hi; rw [qw4 _ hi, qw4 _ hi, qv, qv]), qa];cases qAy (mx (m + 1) (m + 1) (qe1 (m + 1) (ent x.2.1) (sF ρ))) (mx (m + 1) (m + 1) fun i k => qK (tF ρ i k) (x.1, 0, ())) with
 | none => rfl
 | some i =>
  simp only
  rw [decide_eq_true (show (i : Int) >= 0 by omega)]; rfl
theorem quP (ρ : Rn) : Ok (qeG ρ) fun b => b = true -> qwn ρ.1 8 /\ qwn ρ.2.1 8 := by
 unfold qeG;refine Ok.bind (P := fun b : Bool => b = true -> qwn ρ.1 8 /\ qwn ρ.2.1 8) ?_ fun b hb => qR.2 hb;refine Ok.bind (qpW ρ.1 8 (by omega)) fun x hx => ?_;cases x with
 | false => exact qR.2 (by simp)
 | true =>
  rw [cond_true];exact Ok.bind (qpW ρ.2.1 8 (by omega)) fun y hy => qR.2 fun h => ⟨hx rfl, hy h⟩
theorem qsJ {ρ : Rn} (h1 : ρ.1.length <= 1000000000) (hr : ∀ x ∈ ρ.1, x.length <= 1000000000) (h2 : ρ.2.1.length <= 1000000000) (hr2 : ∀ x ∈ ρ.2.1, x.length <= 1000000000) : qct ρ = some ρ := by
 unfold qct;rw [qgC h1 hr, qa, qgC h2 hr2, qa]
theorem qkM (ρ : Rn) (x : Qt) : qcd ρ x = some true := by
 unfold qcd;rw [show qi5 = some true from rfl, qa, Bool.not_true, cond_false];refine Ok.eq ?_;rw [qdC];refine (Ok.bind (P := fun b : Bool => b = true -> qwn ρ.1 8 /\ qwn ρ.2.1 8) (Q := fun b : Bool => b = false -> (qwn ρ.1 8 /\ qwn ρ.2.1 8) /\ qwn x.2.1 5) (quP ρ) fun b hb => ?_).mono fun b hb => ?_
 ·cases b with
  | false => exact qR.2 (by simp)
  | true =>
   rw [Bool.not_true, cond_false];exact Ok.bind (qA4 x.2.1) fun y hy => qR.2 fun h => ⟨hb rfl, hy (by cases y <;> simp_all)⟩
 cases b with
 | true => exact qR.2 rfl
 | false =>
 rw [cond_false];obtain ⟨⟨⟨ha, har⟩, ⟨hb8, hbr⟩⟩, ⟨hx5, hxr5⟩⟩ := hb rfl;have h1 : ρ.1.length <= 1000000 := by omega
 have hr : ∀ d ∈ ρ.1, d.length <= 1000000 := fun d h => by have := har d h; omega
 have hr2 : ∀ d ∈ ρ.2.1, d.length <= 1000000 := fun d h => by have := hbr d h; omega
 have hl : x.2.1.length <= 1000 := by omega
 have hxr : ∀ r ∈ x.2.1, r.length <= 1000 := fun d h => by have := hxr5 d h; omega
 have ec := qsJ (ρ := ρ) (by omega) (fun d h => by have := har d h; omega) (by omega) (fun d h => by have := hbr d h; omega);obtain ⟨q, q1, q2, q3⟩ := qr2 h1 hr hr2;rw [ec, qa, q1, qa, qa, qmG (by omega) (fun r h => by have := hxr r h; omega), qa, qlQ h1 hr hr2 hl hxr, qa, qjj h1 hr hl hxr, qa];rw [decide_eq_true (show (qlC ρ x).2 = (qlC ρ x).2 from rfl), Bool.not_true, cond_false, decide_eq_true (show (qlC ρ x).1 = (qlC ρ x).1 from rfl), qa, Bool.not_true, cond_false, qiu h1 hr, qa];by_cases c : qkD ρ = 0
 case neg =>
  rw [decide_eq_false c, Bool.not_false, cond_true, decide_eq_true (show qkD ρ = qkD ρ from rfl), cond_true, q2 c, qhj (by simp) (by simp), qa, qa, decide_eq_true rfl];exact qR.2 rfl
 rw [decide_eq_true c, Bool.not_true, cond_false, cond_true];obtain ⟨m, w, hE, hrun⟩ := qBi c;have hm2 : m <= 2 := by have := hE.run.n3; omega
 rw [q3 m w hE c, qs2 hE, qa];have hs1 : (qAB ρ m w).2.1.length <= 1000000000 := by unfold qAB qiJ; rw [qaX]; omega
 have hs2 : ∀ r ∈ (qAB ρ m w).2.1, r.length <= 1000000000 := fun r hr => by
  have := (qqN (m + 1) (m + 1) (qgE (qg w (mx (m + 1) (m + 1) (qe1 (m + 1) (tF ρ) (qsi m (sF ρ))))) (qe1 (m + 1) (tF ρ) (qsi m (sF ρ))))).2 r hr;omega
 rw [qhj hs1 hs2, qa, qa, decide_eq_true rfl];exact qR.2 rfl
end Go.Proofs.YtbcdgfgacigaoaaGreat.Mat
namespace Go.Proofs.YtbcdgfgacigaoaaGreat
open Go Go.Ab Go.Tx
theorem qfw : ∀ x : denP ([Ty.pair (.sl (.sl (.pair I (.pair I .unit)))) (.pair (.sl (.sl (.pair I (.pair I .unit)))) .unit), .pair I (.pair (.sl (.sl (.pair I (.pair I .unit)))) .unit)].map .ty), qBd maxLen [.pair (.sl (.sl (.pair I (.pair I .unit)))) (.pair (.sl (.sl (.pair I (.pair I .unit)))) .unit), .pair I (.pair (.sl (.sl (.pair I (.pair I .unit)))) .unit)] x -> qaL.F x = some true := by
 rintro ⟨a0, a1⟩ _;exact Mat.qkM a0 a1
end Go.Proofs.YtbcdgfgacigaoaaGreat
end
section
namespace Go.Proofs.YtbcdgfgacigaoaaGreat.driveEstimates
open Go Go.Ab Go.Tx Go.ChangeShapes Go.WideShapes Go.ChangeAt Go.RowKit
theorem hlib : ∀ g h args r, Lb g = some h -> h args = some r -> qcP Tryz.prog g args [] r [] := fun g h args r hg hr => by
 unfold Lb at hg;split at hg
 ·rename_i e;subst e;cases hg;cases args with
  | nil => cases hr; exact qyz
  | cons a l => cases hr
 ·cases hg
set_option maxRecDepth 100000 in
theorem contract (H : Type) (enc : TypeId × Value -> H) (W : World) (base : Nat) (args : Array Value) (ds gs : List (DataW H)) (before : List MemPlace)
  (hval : ∀ (j : Nat) t v, Tryz.f8.params[j]? = some t -> args[j]? = some v -> Value.okWide Tryz.prog W .any base t v)
  (hW : DataW.Whole enc Tryz.prog Tryz.f8.params.toList Rows.driveEstimatesSpec.vars false W args.toList ds gs before) :
  Calls Tryz.prog 8 args W fun e W' => ∃ v, e = .returned v /\ Rows.driveEstimatesSpec.post enc Tryz.prog Tryz.f8 false true false false W args v W' :=
 qr1 (τs := [(.pair (.sl (.sl (.pair I (.pair I .unit)))) (.pair (.sl (.sl (.pair I (.pair I .unit)))) .unit)), (.pair I (.pair (.sl (.sl (.pair I (.pair I .unit)))) .unit))]) (ts := [24, 87]) (tb := 4) (F := qaL.F) follows qdg hlib qzh Tryz.func8 (by kernel_rfl) (by kernel_rfl) (by kernel_rfl) (by kernel_rfl) (by kernel_rfl) (by kernel_rfl) Tryz.underlying4 qgZ qfw rfl
  (fun H ds h => by
   match ds, h with
   | [d1, d2], _ => rfl) H enc W base args ds gs before hval hW
set_option maxRecDepth 100000 in
theorem lifted (os : Os) (started : os.Started) (H : Type) (enc : TypeId × Value -> H) :
  ReturnsInHanded {} Tryz.checked os 8 .any (Rows.driveEstimatesSpec.pre6 enc Tryz.prog Tryz.f8 Rows.driveEstimatesRow.domain false) (Rows.driveEstimatesSpec.post enc Tryz.prog Tryz.f8 false true false false) := by
 refine returnsInHanded_of_change (C := Tryz.checked) own started (by kernel_rfl) Tryz.func8
  (ChangeSpec.witness6 (enc := enc) (C := Tryz.checked) false ⟨#[], #[.agg #[.slice none 0 0, .slice none 0 0], .agg #[.int .i64 0, .slice none 0 0]], []⟩ 8 (by kernel_rfl) (by kernel_rfl) (by kernel_rfl) (by kernel_rfl)) ?_
 intro W base args ds gs before hval hW _ _;exact contract H enc W base args ds gs before hval hW
theorem proved : Rows.DriveEstimatesSaid :=
 OpenClaim.holds_of_wide 8 Tryz.f8 rfl rfl rfl rfl rfl rfl rfl ⟨rfl, rfl, rfl, rfl, rfl⟩ rfl rfl rfl rfl rfl (by kernel_rfl) Tryz.func8 (by kernel_rfl)
  (of_decide_eq_true (by kernel_rfl)) (by unfold Func.isWrapper; first | (rw [if_pos (by decide +kernel)]; kernel_rfl) | (rw [if_neg (by decide +kernel)]; exact ⟨rfl, rfl⟩))
  (fun os started H enc _ => lifted os started H enc)
end Go.Proofs.YtbcdgfgacigaoaaGreat.driveEstimates
end
