/-
  ONE LAW OF A CHAPTER: its program side is run by an interpreter that is proved sound; what it computes is shown to be what the law says. No conditions. Part 6 of 8.
-/
import Derived.Test.YtkmcmngpifalcaaGreatDoorMSe
import Derived.Test.YtkmcmngpifalcaaGreatDoorProg
import Derived.KernelRfl
set_option linter.unusedSimpArgs false
set_option linter.unusedVariables false
set_option linter.unnecessarySimpa false
section
namespace Go.Proofs.YtkmcmngpifalcaaGreatDoor
open Go Go.Ab
theorem follows:Tryz.prog.follows .mixedOrders=true:=by kernel_rfl
theorem qEa : (Tryz.prog.funcs.toList.all fun fn => !fn.body.isSome || !(fn.name == "runtime.NumGoroutine")) = true := by kernel_rfl
theorem qcw:qke Tryz.prog Hn.hints:=⟨λg fn h hb=>by
 have:=List.all_eq_true.1 qEa fn (by rw [Array.mem_toList_iff];exact Array.mem_of_getElem? h);rw [hb]at this;simpa using this,turns,qGd⟩
def vi(n:Int):V:=.val (.int .i64 n)
def r0:Ran:=⟨22,[.agg [.sl .shared false [.val (.string ⟨#[107,101,121]⟩),.val (.string ⟨#[100,111,111,114]⟩),.val (.string ⟨#[114,117,110]⟩)],.sl .shared false [.agg [.val (.string ⟨#[111,112,101,110]⟩),.sl .shared false [],.sl .shared false [vi (2)],.sl .shared false [vi (1)],.sl .shared false []],.agg [.val (.string ⟨#[115,104,117,116]⟩),.sl .shared false [],.sl .shared false [],.sl .shared false [],.sl .shared false [vi (1)]],.agg [.val (.string ⟨#[116,117,114,110]⟩),.sl .shared false [],.sl .shared false [],.sl .shared false [vi (0)],.sl .shared false []],.agg [.val (.string ⟨#[115,116,97,114,116]⟩),.sl .shared false [vi (0)],.sl .shared false [vi (1)],.sl .shared false [vi (2)],.sl .shared false []],.agg [.val (.string ⟨#[104,97,108,116]⟩),.sl .shared false [],.sl .shared false [],.sl .shared false [],.sl .shared false [vi (2)]]],.sl .shared false [.agg [.sl .shared false [vi (1),vi (2)],.sl .shared false []]]],vi (0)],.tuple [.sl .own false [vi (0),vi (1),vi (2),vi (3),vi (5)],vi (0)]⟩
theorem qFT:qan Tryz.prog r0.g r0.args [] r0.r []:=qqO (t:=[]) (H:=Hn.hints) follows qcw (by simp) 200 r0 (by kernel_rfl)
def r1:Ran:=⟨24,[.agg [.sl .shared false [.val (.string ⟨#[107,101,121]⟩),.val (.string ⟨#[100,111,111,114]⟩),.val (.string ⟨#[114,117,110]⟩)],.sl .shared false [.agg [.val (.string ⟨#[111,112,101,110]⟩),.sl .shared false [],.sl .shared false [],.sl .shared false [vi (1)],.sl .shared false []],.agg [.val (.string ⟨#[115,104,117,116]⟩),.sl .shared false [],.sl .shared false [],.sl .shared false [],.sl .shared false [vi (1)]],.agg [.val (.string ⟨#[116,117,114,110]⟩),.sl .shared false [],.sl .shared false [],.sl .shared false [vi (0)],.sl .shared false []],.agg [.val (.string ⟨#[115,116,97,114,116]⟩),.sl .shared false [vi (0)],.sl .shared false [vi (1)],.sl .shared false [vi (2)],.sl .shared false []],.agg [.val (.string ⟨#[104,97,108,116]⟩),.sl .shared false [],.sl .shared false [],.sl .shared false [],.sl .shared false [vi (2)]]],.sl .shared false [.agg [.sl .shared false [vi (1),vi (2)],.sl .shared false []]]],vi (0)],.tuple [.sl .own false [vi (2),vi (3),vi (0)],vi (0)]⟩
theorem qFU:qan Tryz.prog r1.g r1.args [] r1.r []:=qqO (t:=[]) (H:=Hn.hints) follows qcw (by simp) 200 r1 (by kernel_rfl)
def r2(c:Bool):Ran:=⟨25,[.agg [vi (-10),vi (10),vi (4),vi (2),vi (1)],.agg [vi (0),vi (3),vi (0)]],.tuple [.sl .own c [vi (-1),vi (-1),vi (-1),vi (0)],vi (0)]⟩
theorem qFV:∃c,qan Tryz.prog (r2 c).g (r2 c).args [] (r2 c).r []:=by
 obtain ⟨v,h1,h2⟩:=Tx.qqg follows qcw (lib:=St0.Lb) (λg h args r hl _=>by cases hl) St0.ql4 (x:=((-10,10,4,2,1,()),(0,3,0,()))) St0.qEq (vs:=(r2 false).args) (by
  simp [r2,vi,St0.qaw,Tx.qcI,Tx.ofTy,Tx.ofTyC,Tx.RVL,Tx.RV,Tx.RTy,Tx.qyn])
 simp only [St0.qaw,Tx.qgT,Tx.ofL,Tx.qaR,Tx.ofTy,Tx.RV,Tx.RVL,Tx.RTy]at h2;obtain ⟨l',rfl,v1,m1,rfl,⟨f,c,l2,rfl,hf,hall⟩,v2,m2,rfl,rfl,rfl⟩:=h2;have hf1:f=.own:=hf.own rfl;subst hf1;have hl:l2=[vi (-1),vi (-1),vi (-1),vi 0]:=by
  cases hall with|cons a1 hall=>cases hall with|cons a2 hall=>cases hall with|cons a3 hall=>cases hall with|cons a4 hall=>cases hall with|nil =>
   rw [a1,a2,a3,a4];rfl
 subst hl;exact ⟨c,h1⟩
def r3:Ran:=⟨27,[.sl .shared false [.agg [.val (.string ⟨#[108,111,119]⟩),.sl .shared false [.val (.string ⟨#[99,104,105,101,102]⟩)],vi (1)],.agg [.val (.string ⟨#[104,105,103,104]⟩),.sl .shared false [.val (.string ⟨#[99,104,105,101,102]⟩),.val (.string ⟨#[111,119,110,101,114]⟩)],vi (2)]],.sl .shared false [.agg [vi (0),.val (.string ⟨#[97,110,110]⟩),.val (.string ⟨#[99,104,105,101,102]⟩)],.agg [vi (1),.val (.string ⟨#[97,110,110]⟩),.val (.string ⟨#[99,104,105,101,102]⟩)]]],.tuple [vi (1),vi (0)]⟩
theorem qFW:qan Tryz.prog r3.g r3.args [] r3.r []:=qqO (t:=[]) (H:=Hn.hints) follows qcw (by simp) 200 r3 (by kernel_rfl)
def r4:Ran:=⟨29,[.sl .shared false [.agg [vi (2),vi (4),vi (2),vi (4)]],.sl .shared false [.agg [vi (0),vi (0)],.agg [vi (2),vi (2)]]],.tuple [vi (0),vi (13)]⟩
theorem qFX:qan Tryz.prog r4.g r4.args [] r4.r []:=qqO (t:=[]) (H:=Hn.hints) follows qcw (by simp) 200 r4 (by kernel_rfl)
def rs(c:Bool):List Ran:=[r0,r1,r2 c,r3,r4]
theorem qFm{c:Bool}(h2:qan Tryz.prog (r2 c).g (r2 c).args [] (r2 c).r []):∀e∈rs c,qan Tryz.prog e.g e.args [] e.r []:=by
 intro e he;simp only [rs,qk,List.mem_nil_iff,or_false]at he;rcases he with rfl|rfl|rfl|rfl|rfl
 ·exact qFT
 ·exact qFU
 ·exact h2
 ·exact qFW
 ·exact qFX
def aw:Ran:=⟨4,[],.val (.bool true)⟩
theorem qBE:qan Tryz.prog 4 [] [] (.val (.bool true)) []:=by
 obtain ⟨c,h2⟩:=qFV;cases c with
 |true=>exact qqO (t:=rs true) (H:=Hn.hints) follows qcw (qFm h2) 200 aw (by kernel_rfl)
 |false=>exact qqO (t:=rs false) (H:=Hn.hints) follows qcw (qFm h2) 200 aw (by kernel_rfl)
end Go.Proofs.YtkmcmngpifalcaaGreatDoor
end
