/-
  ONE LAW OF A CHAPTER: its program side is run by an interpreter that is proved sound; what it computes is shown to be what the law says. No conditions. Part 7 of 8.
-/
import Derived.Test.YteiciemjanhdcaaGreatDoorMscf
import Derived.Test.YteiciemjanhdcaaGreatDoorProg
import Derived.KernelRfl
set_option linter.unusedSimpArgs false
set_option linter.unusedVariables false
set_option linter.unnecessarySimpa false
section
namespace Go.Proofs.YteiciemjanhdcaaGreatDoor
open Go Go.Ab
theorem turns:TurnsOk Tryz.prog Hn.hints:=λg F h=>by simp only [Hn.hints,Hn.turnF] at h; cases h
theorem follows:Tryz.prog.follows .mixedOrders = true:=by kernel_rfl
theorem namesOk : (Tryz.prog.funcs.toList.all fun fn => !fn.body.isSome || !(fn.name == "runtime.NumGoroutine")) = true := by kernel_rfl
theorem hname:NameOk Tryz.prog Hn.hints:=⟨λg fn h hb=>by
 have:=List.all_eq_true.1 namesOk fn (by rw [Array.mem_toList_iff]; exact Array.mem_of_getElem? h);rw [hb] at this;simpa using this,turns,seqs⟩
def vi (n:Int):V:=.val (.int .i64 n)
def r0:Ran:=⟨27,[.sl .shared false [.agg [vi (10),vi (1)],.agg [vi (20),vi (3)],.agg [vi (60),vi (5)]]],.tuple [.agg [vi (25),vi (-15),vi (2)],vi (0)]⟩
theorem r0_ok:CallOk Tryz.prog r0.g r0.args [] r0.r []:=ran_ok (t:=[]) (H:=Hn.hints) follows hname (by simp) 200 r0 (by kernel_rfl)
def r1:Ran:=⟨86,[.agg [.sl .shared false [.sl .shared false [vi (1),vi (5),vi (9)],.sl .shared false [vi (2),vi (-4),vi (8)]],vi (1)],.sl .shared false [.sl .shared false [vi (-2),vi (4),vi (-7)],.sl .shared false [vi (1),vi (4),vi (9)]]],.tuple [.agg [.sl .shared false [vi (1),vi (0)],.sl .shared false [.val (.bool true),.val (.bool false)]],vi (3),vi (0)]⟩
theorem r1_ok:CallOk Tryz.prog r1.g r1.args [] r1.r []:=ran_ok (t:=[]) (H:=Hn.hints) follows hname (by simp) 200 r1 (by kernel_rfl)
def rs:List Ran:=[r0,r1]
theorem rs_ok:∀ e ∈ rs,CallOk Tryz.prog e.g e.args [] e.r []:=by
 intro e he;simp only [rs,List.mem_cons,List.mem_nil_iff,or_false] at he;rcases he with rfl | rfl
 ·exact r0_ok
 ·exact r1_ok
def aw:Ran:=⟨22,[],.val (.bool true)⟩
theorem awake_ok:CallOk Tryz.prog 22 [] [] (.val (.bool true)) []:=ran_ok (H:=Hn.hints) follows hname rs_ok 200 aw (by kernel_rfl)
end Go.Proofs.YteiciemjanhdcaaGreatDoor
end
