/-
  CALLS THAT WERE RUN ALREADY: a table of calls with their arguments and results.
-/
import Derived.Test.YtpiggpgocnlomaaAbY
namespace Go.Ab
open Go
variable {P : Program}

def sameVal : Value → Value → Bool
  | .int k n, .int k' n' => decide (k = k') && decide (n = n')
  | .bool b, .bool b' => b == b'
  | .slice none 0 0, .slice none 0 0 => true
  | _, _ => false
mutual
def V.same : V → V → Bool
  | .val a, .val b => sameVal a b
  | .sl f c l, .sl f' c' l' => decide (f = f') && c == c' && sameL l l'
  | .agg l, .agg l' => sameL l l'
  | .tuple l, .tuple l' => sameL l l'
  | _, _ => false
def sameL : List V → List V → Bool
  | [], [] => true
  | x :: l, y :: l' => x.same y && sameL l l'
  | _, _ => false
end
theorem sameVal_eq {a b : Value} (h : sameVal a b = true) : a = b := by
  unfold sameVal at h
  split at h <;> simp_all
mutual
theorem same_eq : ∀ (x y : V), x.same y = true → x = y
  | .val a, y, h => by cases y <;> simp only [V.same] at h <;> first | (rw [sameVal_eq h]) | cases h
  | .sl f c l, y, h => by
    cases y <;> simp only [V.same] at h <;> try (cases h; done)
    simp only [Bool.and_eq_true, decide_eq_true_eq, beq_iff_eq] at h
    rw [h.1.1, h.1.2, sameL_eq _ _ h.2]
  | .agg l, y, h => by
    cases y <;> simp only [V.same] at h <;> try (cases h; done)
    rw [sameL_eq _ _ h]
  | .tuple l, y, h => by
    cases y <;> simp only [V.same] at h <;> try (cases h; done)
    rw [sameL_eq _ _ h]
  | .undef, y, h | .ptr .., y, h | .cptr _, y, h | .fn .., y, h | .yld _, y, h | .iface .., y, h | .lp .., y, h => by cases y <;> simp [V.same] at h
theorem sameL_eq : ∀ (l m : List V), sameL l m = true → l = m
  | [], [], _ => rfl
  | [], y :: m, h => by simp [sameL] at h
  | x :: l, [], h => by simp [sameL] at h
  | x :: l, y :: m, h => by
    simp only [sameL, Bool.and_eq_true] at h
    rw [same_eq x y h.1, sameL_eq l m h.2]
end
structure Ran where
  g : FuncId
  args : List V
  r : V
def libOf (t : List Ran) (g : FuncId) : Option (List V → Option V) :=
  if t.any (fun e => decide (e.g = g)) then some (fun args => (t.find? fun e => decide (e.g = g) && sameL e.args args).map (·.r)) else none
theorem libOf_ok {t : List Ran} (h : ∀ e ∈ t, CallOk P e.g e.args [] e.r []) : ∀ g f args r, libOf t g = some f → f args = some r → CallOk P g args [] r [] := by
  intro g f args r hf hr
  unfold libOf at hf
  split at hf
  · cases hf
    obtain ⟨e, he, rfl⟩ := Option.map_eq_some_iff.1 hr
    have h1 := List.find?_some he
    simp only [Bool.and_eq_true, decide_eq_true_eq] at h1
    rw [← h1.1, ← sameL_eq _ _ h1.2]
    exact h e (List.mem_of_find?_eq_some he)
  · cases hf
/-- a call that the kernel runs -/
theorem ran_ok {H : Hints} (hm : P.follows .mixedOrders = true) (hname : ∀ (g : FuncId) (fn : Func), P.funcs[g]? = some fn → fn.body.isSome = true → (fn.name == "runtime.NumGoroutine") = false) {t : List Ran} (ht : ∀ e ∈ t, CallOk P e.g e.args [] e.r []) (n : Nat) (e : Ran)
    (h : (match (orcN P H (libOf t) n).call e.g e.args [] with | some (r, []) => r.same e.r | _ => false) = true) : CallOk P e.g e.args [] e.r [] := by
  split at h
  · rename_i r hr
    rw [← same_eq _ _ h]
    exact (orcN_ok hm hname (libOf_ok ht) n).call _ _ _ _ _ hr
  · cases h
end Go.Ab
