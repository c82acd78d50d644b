/-
  ONE LAW OF A CHAPTER: its program side is run by an interpreter that is proved sound; what it computes is shown to be what the law says. No conditions. Part 7 of 8.
-/
import Derived.Test.YtofjnhppalciiaaMvf
import Derived.Test.YtofjnhppalciiaaProg
import Derived.KernelRfl
set_option linter.unusedSimpArgs false
set_option linter.unusedVariables false
set_option linter.unnecessarySimpa false
section
namespace Go.Proofs.Ytofjnhppalciiaa
open Go Go.Ab
theorem turns:qoC Try.prog Hn.hints:=λg F h=>by simp only [Hn.hints,Hn.qBM]at h;cases h
theorem qCC:qzv Try.prog Hn.hints:=λg c h=>by cases h
theorem follows:Try.prog.follows .mixedOrders=true:=by kernel_rfl
theorem qAu : (Try.prog.funcs.toList.all fun fn => !fn.body.isSome || !(fn.name == "runtime.NumGoroutine")) = true := by kernel_rfl
theorem qbO:qh1 Try.prog Hn.hints:=⟨λg fn h hb=>by
 have:=List.all_eq_true.1 qAu fn (by rw [Array.mem_toList_iff];exact Array.mem_of_getElem? h);rw [hb]at this;simpa using this,turns,qCC⟩
def vi(n:Int):V:=.val (.int .i64 n)
def r0:Ran:=⟨46,[.sl .shared false [.agg [vi (10),vi (1)],.agg [vi (20),vi (3)],.agg [vi (60),vi (5)]]],.tuple [.agg [vi (25),vi (-15),vi (2)],vi (0)]⟩
theorem qCj:qaS Try.prog r0.g r0.args [] r0.r []:=qmH (t:=[]) (H:=Hn.hints) follows qbO (by simp) 200 r0 (by kernel_rfl)
def r1:Ran:=⟨25,[.agg [vi (25),vi (-15),vi (2)],.sl .shared false [vi (1)]],.tuple [.sl .own false [.agg [vi (-8),vi (18)]],vi (0)]⟩
theorem qCk:qaS Try.prog r1.g r1.args [] r1.r []:=qmH (t:=[]) (H:=Hn.hints) follows qbO (by simp) 200 r1 (by kernel_rfl)
def r2:Ran:=⟨48,[.sl .shared false [vi (0),vi (1),vi (5),vi (0),vi (0)],.sl .shared false [vi (0),vi (0),vi (1),vi (5),vi (0)],vi (3)],.tuple [vi (1),vi (0)]⟩
theorem qCl:qaS Try.prog r2.g r2.args [] r2.r []:=qmH (t:=[]) (H:=Hn.hints) follows qbO (by simp) 200 r2 (by kernel_rfl)
def r3:Ran:=⟨10,[.agg [.sl .shared false [.sl .shared false [vi (1),vi (5),vi (9)],.sl .shared false [vi (2),vi (-4),vi (8)]],vi (1)],.sl .shared false [.sl .shared false [vi (-2),vi (4),vi (-7)],.sl .shared false [vi (1),vi (4),vi (9)]]],.tuple [.agg [.sl .shared false [vi (1),vi (0)],.sl .shared false [.val (.bool true),.val (.bool false)]],vi (3),vi (0)]⟩
theorem qCm:qaS Try.prog r3.g r3.args [] r3.r []:=qmH (t:=[]) (H:=Hn.hints) follows qbO (by simp) 200 r3 (by kernel_rfl)
def r4:Ran:=⟨51,[.sl .shared false [.sl .shared false [vi (1),vi (8),vi (9),vi (9)],.sl .shared false [vi (2),vi (7),vi (1),vi (8)],.sl .shared false [vi (9),vi (9),vi (9),vi (2)]],.agg [vi (5),vi (2),vi (3)]],.tuple [vi (3),vi (0)]⟩
theorem qCn:qaS Try.prog r4.g r4.args [] r4.r []:=qmH (t:=[]) (H:=Hn.hints) follows qbO (by simp) 200 r4 (by kernel_rfl)
def r5:Ran:=⟨54,[.sl .shared false [.sl .shared false [vi (0),vi (1)],.sl .shared false [vi (2),vi (1)]]],.tuple [.agg [vi (1),vi (2),vi (3),vi (4)],vi (0)]⟩
theorem qCo:qaS Try.prog r5.g r5.args [] r5.r []:=qmH (t:=[]) (H:=Hn.hints) follows qbO (by simp) 200 r5 (by kernel_rfl)
def rs:List Ran:=[r0,r1,r2,r3,r4,r5]
theorem qCp:∀e∈rs,qaS Try.prog e.g e.args [] e.r []:=by
 intro e he;simp only [rs,qk,List.mem_nil_iff,or_false]at he;rcases he with rfl|rfl|rfl|rfl|rfl|rfl
 ·exact qCj
 ·exact qCk
 ·exact qCl
 ·exact qCm
 ·exact qCn
 ·exact qCo
def aw:Ran:=⟨6,[],.val (.bool true)⟩
theorem qx8:qaS Try.prog 6 [] [] (.val (.bool true)) []:=qmH (H:=Hn.hints) follows qbO qCp 200 aw (by kernel_rfl)
end Go.Proofs.Ytofjnhppalciiaa
end
