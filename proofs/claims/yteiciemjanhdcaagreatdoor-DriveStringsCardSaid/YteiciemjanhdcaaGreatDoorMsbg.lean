/-
  ONE LAW OF A CHAPTER: its program side is run by an interpreter that is proved sound; what it computes is shown to be what the law says. No conditions. Part 7 of 8.
-/
import Derived.Test.YteiciemjanhdcaaGreatDoorMsbf
import Derived.Test.YteiciemjanhdcaaGreatDoorProg
import Derived.KernelRfl
set_option linter.unusedSimpArgs false
set_option linter.unusedVariables false
set_option linter.unnecessarySimpa false
section
namespace Go.Proofs.YteiciemjanhdcaaGreatDoor
open Go Go.Ab
theorem turns:TurnsOk Tryz.prog Hn.hints:=λg F h=>by simp only [Hn.hints,Hn.turnF] at h; cases h
theorem follows:Tryz.prog.follows .mixedOrders = true:=by kernel_rfl
theorem namesOk : (Tryz.prog.funcs.toList.all fun fn => !fn.body.isSome || !(fn.name == "runtime.NumGoroutine")) = true := by kernel_rfl
theorem hname:NameOk Tryz.prog Hn.hints:=⟨λg fn h hb=>by
 have:=List.all_eq_true.1 namesOk fn (by rw [Array.mem_toList_iff]; exact Array.mem_of_getElem? h);rw [hb] at this;simpa using this,turns,seqs⟩
def vi (n:Int):V:=.val (.int .i64 n)
def r0:Ran:=⟨60,[.sl .shared false [.sl .shared false [.agg [vi (1),vi (0)],.agg [vi (0),vi (1)]],.sl .shared false [.agg [vi (0),vi (0)],.agg [vi (2),vi (0)]]]],.tuple [.agg [vi (2),.sl .own false [.sl .own false [.agg [vi (2),vi (0)],.agg [vi (0),vi (-1)]],.sl .own false [.agg [vi (0),vi (0)],.agg [vi (1),vi (0)]]]],vi (0)]⟩
theorem r0_ok:CallOk Tryz.prog r0.g r0.args [] r0.r []:=ran_ok (t:=[]) (H:=Hn.hints) follows hname (by simp) 200 r0 (by kernel_rfl)
def r1:Ran:=⟨117,[.agg [.sl .shared false [.sl .shared false [.agg [vi (1),vi (0)]],.sl .shared false [.agg [vi (0),vi (1)]],.sl .shared false [.agg [vi (2),vi (0)]]],.sl .shared false [.sl .shared false [.agg [vi (2),vi (0)]],.sl .shared false [.agg [vi (0),vi (2)]],.sl .shared false [.agg [vi (5),vi (0)]]]],vi (0)],.tuple [.agg [vi (98),vi (99)],vi (0)]⟩
theorem r1_ok:CallOk Tryz.prog r1.g r1.args [] r1.r []:=ran_ok (t:=[]) (H:=Hn.hints) follows hname (by simp) 200 r1 (by kernel_rfl)
def r2:Ran:=⟨20,[.agg [.sl .shared false [.sl .shared false [.agg [vi (2),vi (0)]]],.sl .shared false [.sl .shared false [.agg [vi (1),vi (0)]]],vi (1),vi (2),vi (3)],.sl .shared false [.agg [vi (10),vi (0)]],.sl .shared false [.agg [vi (0),vi (0)]],vi (0)],.tuple [vi (2),vi (0)]⟩
theorem r2_ok:CallOk Tryz.prog r2.g r2.args [] r2.r []:=ran_ok (t:=[]) (H:=Hn.hints) follows hname (by simp) 200 r2 (by kernel_rfl)
def r3:Ran:=⟨119,[.sl .shared false [vi (2),vi (-2),vi (1)]],.tuple [.sl .own false [.sl .dull false [vi (2),vi (-2),vi (1)],.sl .dull false [vi (3),vi (-2)],.sl .own false [vi (1)]],vi (0)]⟩
theorem r3_ok:CallOk Tryz.prog r3.g r3.args [] r3.r []:=ran_ok (t:=[]) (H:=Hn.hints) follows hname (by simp) 200 r3 (by kernel_rfl)
def r4:Ran:=⟨120,[.agg [.sl .shared false [vi (4),vi (0),vi (0)],.sl .shared false [vi (0),vi (0),vi (1)],vi (1),vi (6)]],.tuple [vi (4),vi (0)]⟩
theorem r4_ok:CallOk Tryz.prog r4.g r4.args [] r4.r []:=ran_ok (t:=[]) (H:=Hn.hints) follows hname (by simp) 200 r4 (by kernel_rfl)
def rs:List Ran:=[r0,r1,r2,r3,r4]
theorem rs_ok:∀ e ∈ rs,CallOk Tryz.prog e.g e.args [] e.r []:=by
 intro e he;simp only [rs,List.mem_cons,List.mem_nil_iff,or_false] at he;rcases he with rfl | rfl | rfl | rfl | rfl
 ·exact r0_ok
 ·exact r1_ok
 ·exact r2_ok
 ·exact r3_ok
 ·exact r4_ok
def aw:Ran:=⟨44,[],.val (.bool true)⟩
theorem awake_ok:CallOk Tryz.prog 44 [] [] (.val (.bool true)) []:=ran_ok (H:=Hn.hints) follows hname rs_ok 200 aw (by kernel_rfl)
end Go.Proofs.YteiciemjanhdcaaGreatDoor
end
