/-
  ONE LAW OF A CHAPTER: its program side is run by an interpreter that is proved sound; what it computes is shown to be what the law says. No conditions. Part 6 of 8.
-/
import Derived.Test.YteiciemjanhdcaaGreatDoorMsde
import Derived.Test.YteiciemjanhdcaaGreatDoorProg
import Derived.KernelRfl
set_option linter.unusedSimpArgs false
set_option linter.unusedVariables false
set_option linter.unnecessarySimpa false
section
namespace Go.Proofs.YteiciemjanhdcaaGreatDoor
open Go Go.Ab
theorem turns:qqT Tryz.prog Hn.hints:=λg F h=>by simp only [Hn.hints,Hn.qFp]at h;cases h
theorem follows:Tryz.prog.follows .mixedOrders=true:=by kernel_rfl
theorem qDR : (Tryz.prog.funcs.toList.all fun fn => !fn.body.isSome || !(fn.name == "runtime.NumGoroutine")) = true := by kernel_rfl
theorem qdJ:qj7 Tryz.prog Hn.hints:=⟨λg fn h hb=>by
 have:=List.all_eq_true.1 qDR fn (by rw [Array.mem_toList_iff];exact Array.mem_of_getElem? h);rw [hb]at this;simpa using this,turns,qGk⟩
def vi(n:Int):V:=.val (.int .i64 n)
def r0:Ran:=⟨60,[.sl .shared false [.sl .shared false [.agg [vi (1),vi (0)],.agg [vi (0),vi (1)]],.sl .shared false [.agg [vi (0),vi (0)],.agg [vi (2),vi (0)]]]],.tuple [.agg [vi (2),.sl .own false [.sl .own false [.agg [vi (2),vi (0)],.agg [vi (0),vi (-1)]],.sl .own false [.agg [vi (0),vi (0)],.agg [vi (1),vi (0)]]]],vi (0)]⟩
theorem qFY:qa9 Tryz.prog r0.g r0.args [] r0.r []:=qz5 (t:=[]) (H:=Hn.hints) follows qdJ (by simp) 200 r0 (by kernel_rfl)
def r1:Ran:=⟨20,[.agg [.sl .shared false [.sl .shared false [.agg [vi (2),vi (0)]]],.sl .shared false [.sl .shared false [.agg [vi (1),vi (0)]]],vi (1),vi (2),vi (3)],.sl .shared false [.agg [vi (10),vi (0)]],.sl .shared false [.agg [vi (0),vi (0)]],vi (0)],.tuple [vi (2),vi (0)]⟩
theorem qFZ:qa9 Tryz.prog r1.g r1.args [] r1.r []:=qz5 (t:=[]) (H:=Hn.hints) follows qdJ (by simp) 200 r1 (by kernel_rfl)
def rs:List Ran:=[r0,r1]
theorem qF1:∀e∈rs,qa9 Tryz.prog e.g e.args [] e.r []:=by
 intro e he;simp only [rs,qp,List.mem_nil_iff,or_false]at he;rcases he with rfl|rfl
 ·exact qFY
 ·exact qFZ
def aw:Ran:=⟨8,[],.val (.bool true)⟩
theorem qA4:qa9 Tryz.prog 8 [] [] (.val (.bool true)) []:=qz5 (H:=Hn.hints) follows qdJ qF1 200 aw (by kernel_rfl)
end Go.Proofs.YteiciemjanhdcaaGreatDoor
end
