/-
  ONE LAW OF A CHAPTER: its program side is run by an interpreter that is proved sound; what it computes is shown to be what the law says. No conditions. Part 6 of 8.
-/
import Derived.Test.YteiciemjanhdcaaGreatDoorMsee
import Derived.Test.YteiciemjanhdcaaGreatDoorProg
import Derived.KernelRfl
set_option linter.unusedSimpArgs false
set_option linter.unusedVariables false
set_option linter.unnecessarySimpa false
section
namespace Go.Proofs.YteiciemjanhdcaaGreatDoor
open Go Go.Ab
theorem turns:qtU Tryz.prog Hn.hints:=λg F h=>by simp only [Hn.hints,Hn.qJd]at h;cases h
theorem follows:Tryz.prog.follows .mixedOrders=true:=by kernel_rfl
theorem qHr : (Tryz.prog.funcs.toList.all fun fn => !fn.body.isSome || !(fn.name == "runtime.NumGoroutine")) = true := by kernel_rfl
theorem qeW:qmq Tryz.prog Hn.hints:=⟨λg fn h hb=>by
 have:=List.all_eq_true.1 qHr fn (by rw [Array.mem_toList_iff];exact Array.mem_of_getElem? h);rw [hb]at this;simpa using this,turns,qKa⟩
def vi(n:Int):V:=.val (.int .i64 n)
def r0:Ran:=⟨60,[.sl .shared false [.sl .shared false [.agg [vi (1),vi (0)],.agg [vi (0),vi (1)]],.sl .shared false [.agg [vi (0),vi (0)],.agg [vi (2),vi (0)]]]],.tuple [.agg [vi (2),.sl .own false [.sl .own false [.agg [vi (2),vi (0)],.agg [vi (0),vi (-1)]],.sl .own false [.agg [vi (0),vi (0)],.agg [vi (1),vi (0)]]]],vi (0)]⟩
theorem qJJ:qbD Tryz.prog r0.g r0.args [] r0.r []:=qDm (t:=[]) (H:=Hn.hints) follows qeW (by simp) 200 r0 (by kernel_rfl)
def r1:Ran:=⟨20,[.agg [.sl .shared false [.sl .shared false [.agg [vi (2),vi (0)]]],.sl .shared false [.sl .shared false [.agg [vi (1),vi (0)]]],vi (1),vi (2),vi (3)],.sl .shared false [.agg [vi (10),vi (0)]],.sl .shared false [.agg [vi (0),vi (0)]],vi (0)],.tuple [vi (2),vi (0)]⟩
theorem qJK:qbD Tryz.prog r1.g r1.args [] r1.r []:=qDm (t:=[]) (H:=Hn.hints) follows qeW (by simp) 200 r1 (by kernel_rfl)
def rs:List Ran:=[r0,r1]
theorem qJM:∀e∈rs,qbD Tryz.prog e.g e.args [] e.r []:=by
 intro e he;simp only [rs,qm,List.mem_nil_iff,or_false]at he;rcases he with rfl|rfl
 ·exact qJJ
 ·exact qJK
def aw:Ran:=⟨8,[],.val (.bool true)⟩
theorem qEr:qbD Tryz.prog 8 [] [] (.val (.bool true)) []:=qDm (H:=Hn.hints) follows qeW qJM 200 aw (by kernel_rfl)
end Go.Proofs.YteiciemjanhdcaaGreatDoor
end
