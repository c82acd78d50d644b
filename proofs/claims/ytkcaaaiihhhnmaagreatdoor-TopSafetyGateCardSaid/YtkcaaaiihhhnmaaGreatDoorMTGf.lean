/-
  ONE LAW OF A CHAPTER: its program side is run by an interpreter that is proved sound; what it computes is shown to be what the law says. No conditions. Part 6 of 8.
-/
import Derived.Test.YtkcaaaiihhhnmaaGreatDoorMTGe
import Derived.Test.YtkcaaaiihhhnmaaGreatDoorProg
import Derived.KernelRfl
set_option linter.unusedSimpArgs false
set_option linter.unusedVariables false
set_option linter.unnecessarySimpa false
section
namespace Go.Proofs.YtkcaaaiihhhnmaaGreatDoor
open Go Go.Ab
theorem follows:Tryz.prog.follows .mixedOrders=true:=by kernel_rfl
theorem qD2 : (Tryz.prog.funcs.toList.all fun fn => !fn.body.isSome || !(fn.name == "runtime.NumGoroutine")) = true := by kernel_rfl
theorem qcT:qjY Tryz.prog Hn.hints:=⟨λg fn h hb=>by
 have:=List.all_eq_true.1 qD2 fn (by rw [Array.mem_toList_iff];exact Array.mem_of_getElem? h);rw [hb]at this;simpa using this,turns,qF4⟩
def vi(n:Int):V:=.val (.int .i64 n)
def r0:Ran:=⟨10,[.agg [.sl .shared false [.val (.string ⟨#[107,101,121]⟩),.val (.string ⟨#[100,111,111,114]⟩),.val (.string ⟨#[114,117,110]⟩)],.sl .shared false [.agg [.val (.string ⟨#[111,112,101,110]⟩),.sl .shared false [],.sl .shared false [vi (2)],.sl .shared false [vi (1)],.sl .shared false []],.agg [.val (.string ⟨#[115,104,117,116]⟩),.sl .shared false [],.sl .shared false [],.sl .shared false [],.sl .shared false [vi (1)]],.agg [.val (.string ⟨#[116,117,114,110]⟩),.sl .shared false [],.sl .shared false [],.sl .shared false [vi (0)],.sl .shared false []],.agg [.val (.string ⟨#[115,116,97,114,116]⟩),.sl .shared false [vi (0)],.sl .shared false [vi (1)],.sl .shared false [vi (2)],.sl .shared false []],.agg [.val (.string ⟨#[104,97,108,116]⟩),.sl .shared false [],.sl .shared false [],.sl .shared false [],.sl .shared false [vi (2)]]],.sl .shared false [.agg [.sl .shared false [vi (1),vi (2)],.sl .shared false []]]],vi (0)],.tuple [.sl .own false [vi (0),vi (1),vi (2),vi (3),vi (5)],vi (0)]⟩
theorem qFN:qaB Tryz.prog r0.g r0.args [] r0.r []:=qAp (t:=[]) (H:=Hn.hints) follows qcT (by simp) 200 r0 (by kernel_rfl)
def r1(c:Bool):Ran:=⟨46,[.agg [vi (-10),vi (10),vi (4),vi (2),vi (1)],.agg [vi (0),vi (3),vi (0)]],.tuple [.sl .own c [vi (-1),vi (-1),vi (-1),vi (0)],vi (0)]⟩
theorem qFO:∃c,qaB Tryz.prog (r1 c).g (r1 c).args [] (r1 c).r []:=by
 obtain ⟨v,h1,h2⟩:=Tx.qpU follows qcT (lib:=St0.Lb) (λg h args r hl _=>by cases hl) St0.qlO (x:=((-10,10,4,2,1,()),(0,3,0,()))) St0.qEj (vs:=(r1 false).args) (by
  simp [r1,vi,St0.qaC,Tx.qde,Tx.ofTy,Tx.ofTyC,Tx.RVL,Tx.RV,Tx.RTy,Tx.qBl])
 simp only [St0.qaC,Tx.qiS,Tx.ofL,Tx.qbg,Tx.ofTy,Tx.RV,Tx.RVL,Tx.RTy]at h2;obtain ⟨l',rfl,v1,m1,rfl,⟨f,c,l2,rfl,hf,hall⟩,v2,m2,rfl,rfl,rfl⟩:=h2;have hf1:f=.own:=hf.own rfl;subst hf1;have hl:l2=[vi (-1),vi (-1),vi (-1),vi 0]:=by
  cases hall with|cons a1 hall=>cases hall with|cons a2 hall=>cases hall with|cons a3 hall=>cases hall with|cons a4 hall=>cases hall with|nil =>
   rw [a1,a2,a3,a4];rfl
 subst hl;exact ⟨c,h1⟩
def rs(c:Bool):List Ran:=[r0,r1 c]
theorem qFf{c:Bool}(h2:qaB Tryz.prog (r1 c).g (r1 c).args [] (r1 c).r []):∀e∈rs c,qaB Tryz.prog e.g e.args [] e.r []:=by
 intro e he;simp only [rs,qk,List.mem_nil_iff,or_false]at he;rcases he with rfl|rfl
 ·exact qFN
 ·exact h2
def aw:Ran:=⟨39,[],.val (.bool true)⟩
theorem qBs:qaB Tryz.prog 39 [] [] (.val (.bool true)) []:=by
 obtain ⟨c,h2⟩:=qFO;cases c with
 |true=>exact qAp (t:=rs true) (H:=Hn.hints) follows qcT (qFf h2) 200 aw (by kernel_rfl)
 |false=>exact qAp (t:=rs false) (H:=Hn.hints) follows qcT (qFf h2) 200 aw (by kernel_rfl)
end Go.Proofs.YtkcaaaiihhhnmaaGreatDoor
end
