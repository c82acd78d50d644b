/-
  ONE LAW OF A CHAPTER: its program side is run by an interpreter that is proved sound; what it computes is shown to be what the law says. No conditions. Part 7 of 9.
-/
import Derived.Test.YteiciemjanhdcaaGreatDoorMstf
import Derived.Test.YteiciemjanhdcaaGreatDoorProg
import Derived.KernelRfl
set_option linter.unusedSimpArgs false
set_option linter.unusedVariables false
set_option linter.unnecessarySimpa false
section
namespace Go.Proofs.YteiciemjanhdcaaGreatDoor
open Go Go.Ab
theorem turns:qrR Tryz.prog Hn.hints:=λg F h=>by simp only [Hn.hints,Hn.qE3] at h; cases h
theorem follows:Tryz.prog.follows .mixedOrders = true:=by kernel_rfl
theorem qDT : (Tryz.prog.funcs.toList.all fun fn => !fn.body.isSome || !(fn.name == "runtime.NumGoroutine")) = true := by kernel_rfl
theorem qdC:qkp Tryz.prog Hn.hints:=⟨λg fn h hb=>by
 have:=List.all_eq_true.1 qDT fn (by rw [Array.mem_toList_iff]; exact Array.mem_of_getElem? h);rw [hb] at this;simpa using this,turns,qGj⟩
def vi (n:Int):V:=.val (.int .i64 n)
def r0:Ran:=⟨60,[.sl .shared false [.sl .shared false [.agg [vi (1),vi (0)],.agg [vi (0),vi (1)]],.sl .shared false [.agg [vi (0),vi (0)],.agg [vi (2),vi (0)]]]],.tuple [.agg [vi (2),.sl .own false [.sl .own false [.agg [vi (2),vi (0)],.agg [vi (0),vi (-1)]],.sl .own false [.agg [vi (0),vi (0)],.agg [vi (1),vi (0)]]]],vi (0)]⟩
theorem qFH:qa9 Tryz.prog r0.g r0.args [] r0.r []:=qAV (t:=[]) (H:=Hn.hints) follows qdC (by simp) 200 r0 (by kernel_rfl)
def r1:Ran:=⟨20,[.agg [.sl .shared false [.sl .shared false [.agg [vi (2),vi (0)]]],.sl .shared false [.sl .shared false [.agg [vi (1),vi (0)]]],vi (1),vi (2),vi (3)],.sl .shared false [.agg [vi (10),vi (0)]],.sl .shared false [.agg [vi (0),vi (0)]],vi (0)],.tuple [vi (2),vi (0)]⟩
theorem qFR:qa9 Tryz.prog r1.g r1.args [] r1.r []:=qAV (t:=[]) (H:=Hn.hints) follows qdC (by simp) 200 r1 (by kernel_rfl)
def rs:List Ran:=[r0,r1]
theorem qFQ:∀ e ∈ rs,qa9 Tryz.prog e.g e.args [] e.r []:=by
 intro e he;simp only [rs,qp,List.mem_nil_iff,or_false] at he;rcases he with rfl | rfl
 ·exact qFH
 ·exact qFR
def aw:Ran:=⟨8,[],.val (.bool true)⟩
theorem qBd:qa9 Tryz.prog 8 [] [] (.val (.bool true)) []:=qAV (H:=Hn.hints) follows qdC qFQ 200 aw (by kernel_rfl)
end Go.Proofs.YteiciemjanhdcaaGreatDoor
end
