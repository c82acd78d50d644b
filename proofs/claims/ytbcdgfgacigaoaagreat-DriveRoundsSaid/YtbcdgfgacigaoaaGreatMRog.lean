/-
  ONE LAW OF A CHAPTER: its program side is run by an interpreter that is proved sound; what it computes is shown to be what the law says. No conditions. Part 7 of 7.
-/
import Derived.Test.YtbcdgfgacigaoaaGreatMRof
set_option linter.unusedSimpArgs false
set_option linter.unusedVariables false
set_option linter.unnecessarySimpa false
section
namespace Go.Proofs.YtbcdgfgacigaoaaGreat.Mat
open Go Go.Ab Go.Tx Go.Proofs.YtbcdgfgacigaoaaGreat
theorem flo_in {n:Int} (h1 : -9007199254740991<=n) (h2:n<=9007199254740991):flo n = some n:=by
 unfold flo; rw [if_pos (by omega)]
def lstE (l:List G) (n:Nat):Int:=if l.length = n then (if l.any (badZ 10000) = true then 2 else 0) else 10
theorem listAny_ok (r:List G) (h:r.length<=1000000000):slices_ContainsFunc_Lapi_Gauss_api_Gauss_of_drive_listErr_1 r = some (r.any (badZ 10000)):=by
 unfold slices_ContainsFunc_Lapi_Gauss_api_Gauss_of_drive_listErr_1 slices_IndexFunc_Lapi_Gauss_api_Gauss_of_drive_listErr_1;refine for_any r drive_listErr_1 (badZ 10000) (λx _=>?_) h;unfold drive_listErr_1;rw [whole_isSized_ok _ _ (by omega) (by omega)]; rfl
theorem listErr_ok {l:List G} {n:Nat} (h:l.length<=1000000000):drive_listErr l (n:Int) = some (lstE l n):=by
 unfold drive_listErr lstE;rw [listAny_ok l h];simp only [Option.bind_some,unless_eq];rw [first2];by_cases c:l.length = n
 ·have c':decide ((l.length:Int) = (n:Int)) = true:=decide_eq_true (by omega);rw [c',if_pos c];cases hb:l.any (badZ 10000) <;> simp
 ·have c':decide ((l.length:Int) = (n:Int)) = false:=decide_eq_false (by omega);rw [c',if_neg c];simp
theorem refListErr_ok {l:List G} {n:Nat} (h:l.length<=1000000000):ref04_ListErr l (n:Int) = some (lstE l n):=by
 unfold ref04_ListErr lstE;by_cases c:l.length = n
 case neg =>
  rw [decide_eq_false (show ¬ (l.length:Int) = (n:Int) by omega),Bool.not_false,cond_true,if_neg c]
 rw [decide_eq_true (show (l.length:Int) = (n:Int) by omega),Bool.not_true,cond_false,if_pos c];rw [for_find l _ (λ_ z=>if badZ 10000 z then some (2:Int) else none) (λk z hk=>?_),elim_toSum]
 ·cases hf:findI (λ_ z=>if badZ 10000 z then some (2:Int) else none) 0 l with
  | none =>
   rw [findI_none] at hf;have hb:l.any (badZ 10000) = false:=by
    rw [List.any_eq_false];intro x hx;obtain ⟨k,hk⟩:=List.mem_iff_getElem?.1 hx;have:=hf k x hk;simpa using this
   simp [hb]
  | some q =>
   obtain ⟨k,z,h1,h2,_⟩:=findI_some hf;have hp:badZ 10000 z = true:=by
    cases hp:badZ 10000 z
    ·simp [hp] at h2
    ·rfl
   have hb:l.any (badZ 10000) = true:=List.any_eq_true.2 ⟨z,List.mem_of_getElem? h1,hp⟩;simp only [hp,if_true,Option.some.injEq] at h2;simp [hb,<- h2]
 ·have hlk:=len_lt hk;rw [idx_of hk,Option.bind_some,refIsSized_ok _ _ (by omega) (by omega),Option.bind_some,wid (by omega) (by omega)];unfold badZ;by_cases d:Bd 10000 z <;> simp [d,stp]
theorem lst_ok {l:List G} {n:Nat} (h:lstE l n = 0):l.length = n/\∀ z ∈ l,Bd 10000 z:=by
 unfold lstE at h;by_cases c:l.length = n
 case neg=>rw [if_neg c] at h; cases h
 rw [if_pos c] at h;refine ⟨c,λz hz=>?_⟩;cases hb:l.any (badZ 10000) with
 | true=>rw [hb,if_pos rfl] at h; cases h
 | false =>
  have:=List.any_eq_false.1 hb z hz;unfold badZ at this;simpa using this
def respF (n:Nat) (f:Nat->Nat->G) (d:Nat->G) (i:Nat):G:=sumG n λk=>gmul (f i k) (d k)
theorem resp_bd {n:Nat} {A B:Int} {f:Nat->Nat->G} {d:Nat->G} (hf:BdF A n n f) (hd:∀ k,k < n->Bd B (d k)) {i:Nat} (hi:i < n):Bd (n * (2 * (A * B))) (respF n f d i) :=
 Bd.sum λk hk=>(hf i k hi hk).mul (hd k hk)
theorem Response_ok {n:Nat} {A B:Int} {f:Nat->Nat->G} {d:Nat->G} (hA:0<=A) (hB:0<=B) (hf:BdF A n n f) (hd:∀ k,k < n->Bd B (d k)) (hn:n<=1000) (hn1:1<=n) (hbd:(n:Int) * (2 * (A * B))<=9000000000000000000) :
  ref04_Response (mx n n f) (mkL n d) = some (mkL n (respF n f d)):=by
 unfold ref04_Response;rw [mx_len,mkL_len];have h0:0<=2 * (A * B):=by have:=Int.mul_nonneg hA hB; omega
 have h1:2 * (A * B)<=9000000000000000000:=by
  have:=Int.mul_le_mul_of_nonneg_right (show (1:Int)<=n by omega) h0;omega
 rw [for_mk n (respF n f d) (λi hi=>?_) ?_]
 ·rfl
 ·have e0:decide ((n:Int) < (n:Int)) = false:=by simp
  simp only [e0,cond_false]
 ·have e0:decide ((i:Int) < (n:Int)) = true:=decide_eq_true (by omega);simp only [e0,cond_true];rw [sum_loop n hn h0 hbd (λk=>gmul (f i k) (d k)) (λk hk=>(hf i k hi hk).mul (hd k hk)) (λk hk x y hxy=>?_) (λx y=>?_)]
  ·simp only [Option.bind_some];rw [app_one (by rw [mkL_len]; omega)];simp only [Option.bind_some];rw [wid (by omega) (by omega)];rfl
  ·have e0:decide ((k:Int) < (n:Int)) = true:=decide_eq_true (by omega);simp only [e0,cond_true];rw [idx_of (mx_at f hi),Option.bind_some,idx_of (mkL_get (λk=>f i k) hk),Option.bind_some,idx_of (mkL_get d hk),Option.bind_some];rw [GMul_ok (hf i k hi hk) (hd k hk) h1];simp only [Option.bind_some];rw [GAdd_ok hxy ((hf i k hi hk).mul (hd k hk)) (le_next h0 hk hbd)];rfl
  ·have e0:decide ((n:Int) < (n:Int)) = false:=by simp
   simp only [e0,cond_false]
theorem nat_mul_le {k n:Nat} {A:Int} (hA:0<=A) (h:k<=n):(k:Int) * A<=(n:Int) * A:=Int.mul_le_mul_of_nonneg_right (by omega) hA
theorem response_ok {n:Nat} {f:Nat->Nat->G} {d:Nat->G} (hf:BdF 20 n n f) (hd:∀ k,k < n->Bd 10000 (d k)) (hn:n<=3) :
  drive_response (mx n n f) (mkL n d) = some (mkL n (respF n f d)):=by
 unfold drive_response;rw [mx_len];rw [for_mk n (respF n f d) (λi hi=>?_) ?_]
 ·rfl
 ·have e0:decide ((n:Int) < (n:Int)) = false:=by simp
  simp only [e0,cond_false]
 ·have e0:decide ((i:Int) < (n:Int)) = true:=decide_eq_true (by omega);simp only [e0,cond_true];rw [idx_of (mx_at f hi),Option.bind_some,mkL_len];have hF:∀ k,k < n->Bd 400000 (gmul (f i k) (d k)):=λk hk=>((hf i k hi hk).mul (hd k hk)).mono (by omega);have hS:∀ k,k<=n->Bd 1200000 (sumG k λk=>gmul (f i k) (d k)):=λk hk=>by
   have h1:=Bd.sum (n:=k) λj hj=>hF j (by omega);exact h1.mono (by omega)
  refine Ok.eq ?_;rw [ok_bind];refine (loop_up n (λk (s:(Int × Int) × Int)=>s = (((sumG k λk=>gmul (f i k) (d k)).1,(sumG k λk=>gmul (f i k) (d k)).2.1),(k:Int))) (λr=>r = ((sumG n λk=>gmul (f i k) (d k)).1,(sumG n λk=>gmul (f i k) (d k)).2.1)) rfl ?_).mono ?_
  ·rintro k s hk rfl;by_cases hlt:k < n
   ·have e1:decide ((k:Int) < (n:Int)) = true:=decide_eq_true (by omega);have hx:idx (mkL n λb=>f i b) (k:Int) = some (f i k):=idx_of (mkL_get _ hlt);have hy:idx (mkL n d) (k:Int) = some (d k):=idx_of (mkL_get _ hlt);simp only [e1,cond_true,hx,hy,Option.bind_some];have hs:=hS k hk;have hs':=hS (k + 1) hlt;have hfk:=hf i k hi hlt;have hdk:=hd k hlt;have p1:=abs_mul_le hfk.1 hdk.1;have p2:=abs_mul_le hfk.2 hdk.2;have p3:=abs_mul_le hfk.1 hdk.2;have p4:=abs_mul_le hfk.2 hdk.1;have es:sumG (k + 1) (λk=>gmul (f i k) (d k)) = gadd (sumG k λk=>gmul (f i k) (d k)) (gmul (f i k) (d k)):=rfl;rw [es] at hs' ⊢;generalize sumG k (λk=>gmul (f i k) (d k)) = S at *;unfold Bd gadd gmul at *;simp only at hs' ⊢;rw [flo_in (by omega) (by omega),Option.bind_some,flo_in (by omega) (by omega),Option.bind_some,flo_in (by omega) (by omega),Option.bind_some,flo_in (by omega) (by omega),Option.bind_some];rw [flo_in (by omega) (by omega),Option.bind_some,flo_in (by omega) (by omega),Option.bind_some,flo_in (by omega) (by omega),Option.bind_some];rw [flo_in (by omega) (by omega),Option.bind_some,flo_in (by omega) (by omega),Option.bind_some,flo_in (by omega) (by omega),Option.bind_some];rw [flo_in (by omega) (by omega),Option.bind_some,flo_in (by omega) (by omega),Option.bind_some];rw [wid (by omega) (by omega),rnd_inl];exact ⟨hlt,rfl⟩
   ·have:k = n:=by omega
    subst this;have e1:decide ((k:Int) < (k:Int)) = false:=by simp
    simp only [e1,cond_false];rw [rnd_inr]
  ·rintro r rfl;have hs:=hS n (Nat.le_refl n);unfold Bd at hs;simp only
   rw [flo_in (by omega) (by omega),Option.bind_some,flo_in (by omega) (by omega),Option.bind_some,app_one (by rw [mkL_len]; omega),Option.bind_some,wid (by omega) (by omega)];exact ok_some.2 rfl
def nr (a b:Int):Int:=if a % b > b - a % b then a / b + 1 else a / b
def rnd (a b:Int):Int:=if a < 0 then 0 - nr (0 - a) b else nr a b
theorem div_bd {a b:Int} (ha:0<=a) (hb:0 < b):0<=a / b/\a / b<=a:=⟨Int.ediv_nonneg ha (by omega),Int.ediv_le_self b ha⟩
theorem nr_bd {a b:Int} (ha:0<=a) (hb:0 < b):0<=nr a b/\nr a b<=a + 1:=by
 have:=div_bd ha hb;unfold nr;split <;> omega
theorem near_pos {m:Nat} {a b:Int} (ha:0<=a) (hb:0 < b) (ha2:a<=4000000000000000000) (hb2:b<=4000000000000000000):drive_near_n (m + 1) a b = some (nr a b):=by
 have h1:=div_bd ha hb;have h2:=Int.emod_nonneg a (show b ≠ 0 by omega);have h3:=Int.emod_lt_of_pos a hb;have e1:a.tmod b = a % b:=Int.tmod_eq_emod_of_nonneg ha;have e2:a.tdiv b = a / b:=Int.tdiv_eq_ediv_of_nonneg ha;show (bif decide (a < 0) then _ else _) = _;rw [decide_eq_false (show ¬ a < 0 by omega),cond_false,decide_eq_false (show ¬ b = 0 by omega),cond_false,cond_false,e1,e2,wid (n:=b - a % b) (by omega) (by omega),wid (n:=a / b) (by omega) (by omega),wid (n:=a / b + 1) (by omega) (by omega)];unfold nr;by_cases c:a % b > b - a % b
 ·rw [decide_eq_true c,if_pos c]; rfl
 ·rw [decide_eq_false c,if_neg c]; rfl
theorem near_ok {a b:Int} (ha : -4000000000000000000<=a/\a<=4000000000000000000) (hb:0 < b) (hb2:b<=4000000000000000000):drive_near a b = some (rnd a b):=by
 unfold drive_near rnd;by_cases c:a < 0
 ·have e:drive_near_n 12 a b = (bif decide (a < 0) then (drive_near_n 11 (w64 (0 - a)) b).bind λx1=>some (w64 (0 - x1)) else _):=rfl;rw [e,decide_eq_true c,cond_true,wid (by omega) (by omega),near_pos (m:=10) (by omega) hb (by omega) hb2,Option.bind_some,if_pos c];have:=nr_bd (a:=0 - a) (b:=b) (by omega) hb;rw [wid (by omega) (by omega)]
 ·rw [near_pos (m:=11) (by omega) hb (by omega) hb2,if_neg c]
theorem Floor_ok {a b:Int} (ha : -4000000000000000000<=a/\a<=4000000000000000000) (hb:0 < b):base_Floor a b = some (a / b):=by
 unfold base_Floor;have ht:=tdiv_bd (x:=a) (g:=b) (B:=4000000000000000000) (by omega);rw [decide_eq_false (show ¬ b = 0 by omega),cond_false,cond_false,wid (n:=a.tdiv b) (by omega) (by omega),wid (n:=a.tdiv b - 1) (by omega) (by omega)];by_cases h0:0<=a
 ·have e1:a.tmod b = a % b:=Int.tmod_eq_emod_of_nonneg h0;have e2:a.tdiv b = a / b:=Int.tdiv_eq_ediv_of_nonneg h0;have h2:=Int.emod_nonneg a (show b ≠ 0 by omega);rw [e1,e2,decide_eq_false (show ¬ a % b < 0 by omega)]; rfl
 ·have e1:(-a).tmod b = (-a) % b:=Int.tmod_eq_emod_of_nonneg (by omega);have e2:(-a).tdiv b = (-a) / b:=Int.tdiv_eq_ediv_of_nonneg (by omega);rw [Int.neg_tmod] at e1;rw [Int.neg_tdiv] at e2;have h2:=Int.emod_nonneg (-a) (show b ≠ 0 by omega);have h3:=Int.emod_lt_of_pos (-a) hb;have h4:=Int.mul_ediv_add_emod (-a) b;generalize (-a) / b = q at *;generalize (-a) % b = r at *;have e3:a.tmod b = -r:=by omega
  have e4:a.tdiv b = -q:=by omega
  rw [e3,e4];by_cases c:r = 0
  ·have e5:a / b = -q:=((Int.ediv_emod_unique (a:=a) (q:=-q) (r:=0) hb).2 ⟨by rw [Int.mul_neg]; omega,by omega,hb⟩).1;rw [e5,decide_eq_false (show ¬ -r < 0 by omega)]; rfl
  ·have e5:a / b = -q - 1:=((Int.ediv_emod_unique (a:=a) (q:=-q - 1) (r:=b - r) hb).2 ⟨by rw [Int.mul_sub,Int.mul_neg,Int.mul_one]; omega,by omega,by omega⟩).1;rw [e5,decide_eq_true (show -r < 0 by omega)]; rfl
theorem ceil_nr {a b:Int} (ha:0<=a) (hb:0 < b):0 - (0 - (2 * a - b)) / (2 * b) = nr a b:=by
 have h2:=Int.emod_nonneg a (show b ≠ 0 by omega);have h3:=Int.emod_lt_of_pos a hb;have h4:=Int.mul_ediv_add_emod a b;unfold nr;generalize a / b = q at *;generalize a % b = r at *;by_cases c:r > b - r
 ·have e5:(0 - (2 * a - b)) / (2 * b) = -q - 1:=((Int.ediv_emod_unique (a:=0 - (2 * a - b)) (q:=-q - 1) (r:=3 * b - 2 * r) (show 0 < 2 * b by omega)).2 ⟨by rw [Int.mul_sub,Int.mul_neg,Int.mul_one,Int.mul_assoc]; omega,by omega,by omega⟩).1;rw [e5,if_pos c]; omega
 ·have e5:(0 - (2 * a - b)) / (2 * b) = -q:=((Int.ediv_emod_unique (a:=0 - (2 * a - b)) (q:=-q) (r:=b - 2 * r) (show 0 < 2 * b by omega)).2 ⟨by rw [Int.mul_neg,Int.mul_assoc]; omega,by omega,by omega⟩).1;rw [e5,if_neg c]; omega
theorem rounded_ok {a b:Int} (ha : -1000000000000000000<=a/\a<=1000000000000000000) (hb:0 < b) (hb2:b<=1000000000000000000):ref04_rounded a b = some (rnd a b):=by
 unfold ref04_rounded base_Ceil;rw [Size_ok (by omega),Option.bind_some,wid (n:=2 * (a.natAbs:Int)) (by omega) (by omega),wid (n:=2 * (a.natAbs:Int) - b) (by omega) (by omega),wid (n:=0 - (2 * (a.natAbs:Int) - b)) (by omega) (by omega),wid (n:=2 * b) (by omega) (by omega),Floor_ok (by omega) (by omega),Option.bind_some,Option.bind_some];have hn:=nr_bd (a:=(a.natAbs:Int)) (b:=b) (by omega) hb;have hc:=ceil_nr (a:=(a.natAbs:Int)) (b:=b) (by omega) hb;rw [wid (n:=0 - (0 - (2 * (a.natAbs:Int) - b)) / (2 * b)) (by omega) (by omega),hc];unfold rnd;by_cases c:a < 0
 ·have e:(a.natAbs:Int) = 0 - a:=by omega
  rw [decide_eq_true c,cond_true,if_pos c,wid (by omega) (by omega),e]
 ·have e:(a.natAbs:Int) = a:=by omega
  rw [decide_eq_false c,cond_false,if_neg c,e]
def leftF (n:Nat) (f:Nat->Nat->G) (t d:Nat->G) (i:Nat):G:=gsub (t i) (respF n f d i)
theorem mkL_set {n i:Nat} (f:Nat->G) (z:G) (hi:i < n):(mkL n f).set i z = mkL n λk=>if k = i then z else f k:=by
 refine mkL_of (by simp [mkL_len]) λk hk=>?_;rw [List.getElem?_set,mkL_len];by_cases c:i = k
 ·subst c;rw [if_pos rfl,if_pos hi,if_pos rfl]
 ·rw [if_neg c,mkL_get _ hk,if_neg (λhh=>c hh.symm)]
theorem resp20 {n:Nat} {f:Nat->Nat->G} {d:Nat->G} (hf:BdF 20 n n f) (hd:∀ k,k < n->Bd 10000 (d k)) (hn:n<=3) {i:Nat} (hi:i < n):Bd 1200000 (respF n f d i):=by
 refine (resp_bd hf hd hi).mono ?_;have:=nat_mul_le (A:=2 * (20 * 10000)) (by omega) hn;omega
theorem left_bd {n:Nat} {f:Nat->Nat->G} {t d:Nat->G} (hf:BdF 20 n n f) (hd:∀ k,k < n->Bd 10000 (d k)) (ht:∀ k,k < n->Bd 10000 (t k)) (hn:n<=3) {i:Nat} (hi:i < n):Bd 1210000 (leftF n f t d i) :=
 ((ht i hi).sub (resp20 hf hd hn hi)).mono (by omega)
theorem Left_ok {r:Rg} {n:Nat} {f:Nat->Nat->G} {t d:Nat->G} (hm:r.1 = mx n n f) (hf:BdF 20 n n f) (hd:∀ k,k < n->Bd 10000 (d k)) (ht:∀ k,k < n->Bd 10000 (t k)) (hn1:1<=n) (hn:n<=3) :
  ref04_Left r (mkL n t) (mkL n d) = some (mkL n (leftF n f t d)):=by
 unfold ref04_Left;rw [hm,Response_ok (A:=20) (B:=10000) (by omega) (by omega) hf hd (by omega) hn1 (by omega),Option.bind_some,mkL_len];rw [for_mk n (leftF n f t d) (λi hi=>?_) ?_]
 ·rfl
 ·have e0:decide ((n:Int) < (n:Int)) = false:=by simp
  simp only [e0,cond_false]
 ·have e0:decide ((i:Int) < (n:Int)) = true:=decide_eq_true (by omega);simp only [e0,cond_true];rw [idx_of (mkL_get t hi),Option.bind_some,idx_of (mkL_get (respF n f d) hi),Option.bind_some,GSub_ok (ht i hi) (resp20 hf hd hn hi) (by omega),Option.bind_some,app_one (by rw [mkL_len]; omega),Option.bind_some,wid (by omega) (by omega)];rfl
def rawF (r:Rg) (t d:Nat->G) (i:Nat):G:=respF r.2.1.length (invF r.2.1) (leftF r.2.1.length (ent r.1) t d) i
def roF (r:Rg) (z:Int):Int:=rnd (z * r.2.2.1) (invD r.2.1 * r.2.2.2.1)
def clF (r:Rg) (z:Int):Int:=max (0 - r.2.2.2.2.1) (min r.2.2.2.2.1 (roF r z))
def corF (r:Rg) (t d:Nat->G) (i:Nat):G:=(clF r (rawF r t d i).1,clF r (rawF r t d i).2.1,())
theorem rig_step {r:Rg} (h:rigE r = 0):0<=r.2.2.2.2.1/\r.2.2.2.2.1<=1000:=by
 unfold rigE at h;by_cases e8:0<=r.2.2.2.2.1/\r.2.2.2.2.1<=1000
 ·exact e8
 ·exfalso
  rw [if_pos e8] at h;repeat' split at h
  all_goals first | contradiction | omega
structure CorB (r:Rg) (t d:Nat->G):Prop where
 n1:1<=r.2.1.length
 n3:r.2.1.length<=3
 pm:r.1 = mx r.2.1.length r.2.1.length (ent r.1)
 pB:BdF 20 r.2.1.length r.2.1.length (ent r.1)
 xB:BdF 614400000 r.2.1.length r.2.1.length (invF r.2.1)
 tB:∀ k,k < r.2.1.length->Bd 10000 (t k)
 dB:∀ k,k < r.2.1.length->Bd 10000 (d k)
 rB:∀ i,i < r.2.1.length->Bd 4460544000000000 (rawF r t d i)
 num:0<=r.2.2.1/\r.2.2.1<=100
 den:1<=invD r.2.1 * r.2.2.2.1/\invD r.2.1 * r.2.2.2.1<=7372800000000
 step:0<=r.2.2.2.2.1/\r.2.2.2.2.1<=1000
theorem corB {r:Rg} (h:rigE r = 0) {t d:Nat->G} (ht:∀ k,k < r.2.1.length->Bd 10000 (t k)) (hd:∀ k,k < r.2.1.length->Bd 10000 (d k)):CorB r t d:=by
 have hB:=conB h;obtain ⟨hE,hI,hl,h0,h1,h2,h3⟩:=rig_ok h;obtain ⟨m1,m3,mR,mB⟩:=mat_ok hE;have hX:=invF_bd hI;have hA:=bdM_ent mB mR;have hpm:=rect_mx mR;have hq:=hB.qB;rw [hl] at hA hpm;have e:conQ r = invD r.2.1 * r.2.2.2.1:=Int.mul_comm _ _;rw [e] at hq;refine ⟨hB.n1,hB.n3,hpm,hA,hX,ht,hd,λi hi=>?_,by omega,hq,rig_step h⟩;have hn3:=hB.n3;refine (resp_bd hX (λk hk=>left_bd hA hd ht hn3 hk) hi).mono ?_;have:=nat_mul_le (A:=2 * (614400000 * 1210000)) (by omega) hn3;omega
theorem part_bd {r:Rg} {t d:Nat->G} (h:CorB r t d) {z:Int} (hz : -4460544000000000<=z/\z<=4460544000000000) : -446054400000000000<=z * r.2.2.1/\z * r.2.2.1<=446054400000000000:=by
 have hn:=h.num;have:=abs_mul_le (A:=4460544000000000) (B:=100) hz (show -100<=r.2.2.1/\r.2.2.1<=100 by omega);omega
theorem correction1_ok {r:Rg} {t d:Nat->G} (h:CorB r t d) {z:Int} (hz : -4460544000000000<=z/\z<=4460544000000000) {X:Mx} :
  drive_rig_correction_1 z (r.1,r.2.1,r.2.2.1,r.2.2.2.1,r.2.2.2.2.1,invD r.2.1,X,()) = some (clF r z):=by
 unfold drive_rig_correction_1;simp only
 have hp:=part_bd h hz;have hq:=h.den;have hs:=h.step;rw [wid (n:=z * r.2.2.1) (by omega) (by omega),wid (n:=invD r.2.1 * r.2.2.2.1) (by omega) (by omega),wid (n:=0 - r.2.2.2.2.1) (by omega) (by omega),near_ok (by omega) (by omega) (by omega),Option.bind_some];congr 1
 unfold clF roF;omega
theorem correction_ok {r:Rg} {t d:Nat->G} (h:CorB r t d) :
  drive_rig_correction (r.1,r.2.1,r.2.2.1,r.2.2.2.1,r.2.2.2.2.1,invD r.2.1,mx r.2.1.length r.2.1.length (invF r.2.1),()) (mkL r.2.1.length t) (mkL r.2.1.length d) = some (mkL r.2.1.length (corF r t d)):=by
 unfold drive_rig_correction;simp only
 have hpm:=h.pm;have hn1:=h.n1;have hn3:=h.n3;have e0:drive_response r.1 (mkL r.2.1.length d) = some (mkL r.2.1.length (respF r.2.1.length (ent r.1) d)):=by
  have:=response_ok h.pB h.dB hn3;rw [<- hpm] at this;exact this
 rw [e0,Option.bind_some,mkL_len,mx_len];refine Ok.eq ?_;rw [ok_bind];refine (loop_up r.2.1.length (λi (s:List G × Int)=>s = (mkL r.2.1.length (λj=>if j < i then leftF r.2.1.length (ent r.1) t d j else respF r.2.1.length (ent r.1) d j),(i:Int))) (λq=>q = mkL r.2.1.length (leftF r.2.1.length (ent r.1) t d)) ?_ ?_).mono ?_
 ·congr 1
 ·rintro i s hi rfl;by_cases hlt:i < r.2.1.length
  ·have e1:decide ((i:Int) < (r.2.1.length:Int)) = true:=decide_eq_true (by omega);have hx:idx (mkL r.2.1.length t) (i:Int) = some (t i):=idx_of (mkL_get _ hlt);have hy:idx (mkL r.2.1.length (λj=>if j < i then leftF r.2.1.length (ent r.1) t d j else respF r.2.1.length (ent r.1) d j)) (i:Int) = some (respF r.2.1.length (ent r.1) d i):=by
    rw [idx_of (mkL_get _ hlt),if_neg (Nat.lt_irrefl i)]
   simp only [e1,cond_true,hx,hy,Option.bind_some,Int.toNat_natCast];rw [minus_ok (h.tB i hlt) (resp20 h.pB h.dB hn3 hlt) (by omega),Option.bind_some,wid (by omega) (by omega),rnd_inl];refine ⟨hlt,?_⟩;congr 1
   rw [mkL_set _ _ hlt];refine mkL_congr λk hk=>?_;by_cases c:k = i
   ·subst c;rw [if_pos rfl,if_pos (by omega)]; rfl
   ·rw [if_neg c];by_cases c2:k < i
    ·rw [if_pos c2,if_pos (by omega)]
    ·rw [if_neg c2,if_neg (by omega)]
  ·have:i = r.2.1.length:=by omega
   subst this;have e1:decide ((r.2.1.length:Int) < (r.2.1.length:Int)) = false:=by simp
   simp only [e1,cond_false];rw [rnd_inr];exact mkL_congr λk hk=>if_pos hk
 ·rintro q rfl;refine ok_eq.2 ?_;have hL:∀ k,k < r.2.1.length->Bd 1210000 (leftF r.2.1.length (ent r.1) t d k):=λk hk=>left_bd h.pB h.dB h.tB hn3 hk;rw [for_mk r.2.1.length (corF r t d) (λi hi=>?_) ?_]
  ·rfl
  ·have e0:decide ((r.2.1.length:Int) < (r.2.1.length:Int)) = false:=by simp
   simp only [e0,cond_false]
  ·have e0:decide ((i:Int) < (r.2.1.length:Int)) = true:=decide_eq_true (by omega);simp only [e0,cond_true];rw [idx_of (mx_at (invF r.2.1) hi),Option.bind_some,mkL_len];have hbd:(r.2.1.length:Int) * (2 * (614400000 * 1210000))<=9000000000000000000:=by omega
   rw [sum_loop r.2.1.length (by omega) (A:=2 * (614400000 * 1210000)) (by omega) hbd (λk=>gmul (invF r.2.1 i k) (leftF r.2.1.length (ent r.1) t d k)) (λk hk=>(h.xB i k hi hk).mul (hL k hk)) (λk hk x y hxy=>?_) (λx y=>?_)]
   ·simp only [Option.bind_some];have hr:=h.rB i hi;have er:sumG r.2.1.length (λk=>gmul (invF r.2.1 i k) (leftF r.2.1.length (ent r.1) t d k)) = rawF r t d i:=rfl;rw [er,correction1_ok h hr.1,Option.bind_some,correction1_ok h hr.2,Option.bind_some,app_one (by rw [mkL_len]; omega),Option.bind_some,wid (by omega) (by omega)];rfl
   ·have e0:decide ((k:Int) < (r.2.1.length:Int)) = true:=decide_eq_true (by omega);simp only [e0,cond_true];rw [idx_of (mkL_get (λk=>invF r.2.1 i k) hk),Option.bind_some,idx_of (mkL_get _ hk),Option.bind_some];rw [times_ok' (h.xB i k hi hk) (hL k hk) (by omega)];simp only [Option.bind_some];rw [plus_ok hxy ((h.xB i k hi hk).mul (hL k hk)) (le_next (by omega) hk hbd)];rfl
   ·have e0:decide ((r.2.1.length:Int) < (r.2.1.length:Int)) = false:=by simp
    simp only [e0,cond_false]
def roG (r:Rg) (t d:Nat->G) (i:Nat):G:=(roF r (rawF r t d i).1,roF r (rawF r t d i).2.1,())
theorem rounded1_ok {r:Rg} {t d:Nat->G} (h:CorB r t d) {z:Int} (hz : -4460544000000000<=z/\z<=4460544000000000):ref04_rounded (w64 (z * r.2.2.1)) (w64 (invD r.2.1 * r.2.2.2.1)) = some (roF r z):=by
 have hp:=part_bd h hz;have hq:=h.den;rw [wid (n:=z * r.2.2.1) (by omega) (by omega),wid (n:=invD r.2.1 * r.2.2.2.1) (by omega) (by omega),rounded_ok (by omega) (by omega) (by omega)];rfl
theorem Raw_ok {r:Rg} (hE:rigE r = 0) {t d:Nat->G} (h:CorB r t d):ref04_Raw r (mkL r.2.1.length t) (mkL r.2.1.length d) = some (mkL r.2.1.length (roG r t d)):=by
 unfold ref04_Raw;have hI:=(rig_ok hE).2.1;have hn1:=h.n1;have hn3:=h.n3;have hL:∀ k,k < r.2.1.length->Bd 1210000 (leftF r.2.1.length (ent r.1) t d k):=λk hk=>left_bd h.pB h.dB h.tB hn3 hk;rw [Inverse_ok hI,Option.bind_some,invM_eq,Left_ok h.pm h.pB h.dB h.tB hn1 hn3,Option.bind_some];simp only
 rw [Response_ok (A:=614400000) (B:=1210000) (by omega) (by omega) h.xB hL (by omega) hn1 (by omega),Option.bind_some,mkL_len];rw [for_mk r.2.1.length (roG r t d) (λi hi=>?_) ?_]
 ·rfl
 ·have e0:decide ((r.2.1.length:Int) < (r.2.1.length:Int)) = false:=by simp
  simp only [e0,cond_false]
 ·have e0:decide ((i:Int) < (r.2.1.length:Int)) = true:=decide_eq_true (by omega);have hr:=h.rB i hi;have hx:idx (mkL r.2.1.length (respF r.2.1.length (invF r.2.1) (leftF r.2.1.length (ent r.1) t d))) (i:Int) = some (rawF r t d i):=idx_of (mkL_get _ hi);simp only [e0,cond_true,hx,Option.bind_some];rw [rounded1_ok h hr.1,Option.bind_some,rounded1_ok h hr.2,Option.bind_some,app_one (by rw [mkL_len]; omega),Option.bind_some,wid (by omega) (by omega)];rfl
theorem Correction_ok {r:Rg} (hE:rigE r = 0) {t d:Nat->G} (h:CorB r t d):ref04_Correction r (mkL r.2.1.length t) (mkL r.2.1.length d) = some (mkL r.2.1.length (corF r t d)):=by
 unfold ref04_Correction;have hn3:=h.n3;have hs:=h.step;rw [Raw_ok hE h,Option.bind_some,mkL_len];rw [for_mk r.2.1.length (corF r t d) (λi hi=>?_) ?_]
 ·rfl
 ·have e0:decide ((r.2.1.length:Int) < (r.2.1.length:Int)) = false:=by simp
  simp only [e0,cond_false]
 ·have e0:decide ((i:Int) < (r.2.1.length:Int)) = true:=decide_eq_true (by omega);have hx:idx (mkL r.2.1.length (roG r t d)) (i:Int) = some (roG r t d i):=idx_of (mkL_get _ hi);simp only [e0,cond_true,hx,Option.bind_some];rw [wid (n:=0 - r.2.2.2.2.1) (by omega) (by omega),app_one (by rw [mkL_len]; omega),Option.bind_some,wid (by omega) (by omega)];rfl
def rouE (r:Rg) (t d:List G):Int:=if rigE r = 0 then (if lstE t r.1.length = 0 then lstE d r.1.length else lstE t r.1.length) else rigE r
theorem rou_ok {r:Rg} {t d:List G} (h:rouE r t d = 0):rigE r = 0/\CorB r (λk=>t.getD k g0) (λk=>d.getD k g0)/\t = mkL r.2.1.length (λk=>t.getD k g0)/\d = mkL r.2.1.length (λk=>d.getD k g0):=by
 unfold rouE at h;by_cases c1:rigE r = 0
 case neg=>rw [if_neg c1] at h; exact absurd h c1
 rw [if_pos c1] at h;by_cases c2:lstE t r.1.length = 0
 case neg=>rw [if_neg c2] at h; exact absurd h c2
 rw [if_pos c2] at h;have hl:=(rig_ok c1).2.2.1;rw [hl] at c2 h;obtain ⟨tl,tB⟩:=lst_ok c2;obtain ⟨dl,dB⟩:=lst_ok h;have e1:=list_mkL t g0;have e2:=list_mkL d g0;rw [tl] at e1;rw [dl] at e2;exact ⟨c1,corB c1 (λk hk=>tB _ (getD_mem (by omega))) (λk hk=>dB _ (getD_mem (by omega))),e1,e2⟩
theorem openRounds_ok {r:Rg} {t d:List G} (hp:r.1.length<=1000000000) (hpr:∀ x ∈ r.1,x.length<=1000000000) (hm:r.2.1.length<=1000000000) (hmr:∀ x ∈ r.2.1,x.length<=1000000000) (hd:r.2.2.2.1<=9223372036854775807) (ht:t.length<=1000000000) (hd2:d.length<=1000000000) :
  ∃ y,drive_openRounds r t d = some (y,rouE r t d)/\(rouE r t d = 0->y = (r.1,r.2.1,r.2.2.1,r.2.2.2.1,r.2.2.2.2.1,invD r.2.1,mx r.2.1.length r.2.1.length (invF r.2.1),())):=by
 obtain ⟨y,e1,e2⟩:=openRig_ok hp hpr hm hmr hd;have e1':drive_openRig (r.1,r.2.1,r.2.2.1,r.2.2.2.1,r.2.2.2.2.1,()) = some (y,rigE r):=e1;unfold drive_openRounds;rw [e1',Option.bind_some,listErr_ok ht,Option.bind_some,listErr_ok hd2,Option.bind_some,first3,Option.bind_some];exact ⟨y,rfl,λh=>e2 (rou_ok h).1⟩
end Go.Proofs.YtbcdgfgacigaoaaGreat.Mat
namespace Go.Proofs.YtbcdgfgacigaoaaGreat
open Go Go.Ab Go.Tx
end Go.Proofs.YtbcdgfgacigaoaaGreat
end
section
namespace Go.Wide
def digs (n:Nat):List Int:=if h:n = 0 then [] else ((n % 1000000000:Nat):Int) :: digs (n / 1000000000)
termination_by n
decreasing_by omega
def W (n:Int):Int × List Int × Unit:=(n.sign,digs n.natAbs,())
end Go.Wide
end
section

end
section
namespace Go.Proofs.YtbcdgfgacigaoaaGreat
open Go Go.Ab Go.Tx Go.Wide
theorem wid {n:Int} (h1 : -9223372036854775808<=n) (h2:n<=9223372036854775807):w64 n = n:=wrap_id h1 h2
end Go.Proofs.YtbcdgfgacigaoaaGreat
end
section
namespace Go.Proofs.YtbcdgfgacigaoaaGreat
open Go Go.Ab Go.Tx Go.Wide
theorem getD_set_ne {l:List Int} {i j:Nat} {v:Int} (h:i ≠ j):(l.set i v).getD j 0 = l.getD j 0:=by
 simp [List.getElem?_set_ne h]
end Go.Proofs.YtbcdgfgacigaoaaGreat
end
section
namespace Go.Proofs.YtbcdgfgacigaoaaGreat
open Go Go.Ab Go.Tx Go.Wide
end Go.Proofs.YtbcdgfgacigaoaaGreat
end
section
namespace Go.Proofs.YtbcdgfgacigaoaaGreat
open Go Go.Ab Go.Tx Go.Wide
end Go.Proofs.YtbcdgfgacigaoaaGreat
end
section
namespace Go.Proofs.YtbcdgfgacigaoaaGreat.Mat
open Go Go.Ab Go.Tx Go.Proofs.YtbcdgfgacigaoaaGreat Go.Wide
def stpF (r:Rg) (t d:Nat->G) (i:Nat):G:=gadd (corF r t d i) (d i)
def stpL (r:Rg) (t d:List G):List G:=mkL r.2.1.length (stpF r (λk=>t.getD k g0) λk=>d.getD k g0)
theorem cl_bd {r:Rg} (h:0<=r.2.2.2.2.1/\r.2.2.2.2.1<=1000) (z:Int) : -r.2.2.2.2.1<=clF r z/\clF r z<=r.2.2.2.2.1:=by
 unfold clF; omega
theorem cor_bd {r:Rg} (h:0<=r.2.2.2.2.1/\r.2.2.2.2.1<=1000) (t d:Nat->G) (i:Nat):Bd 1000 (corF r t d i):=by
 have h1:=cl_bd h (rawF r t d i).1;have h2:=cl_bd h (rawF r t d i).2.1;unfold Bd corF;simp only
 omega
abbrev OR (r:Rg):Mx × Mx × Int × Int × Int × Int × Mx × Unit:=(r.1,r.2.1,r.2.2.1,r.2.2.2.1,r.2.2.2.2.1,invD r.2.1,mx r.2.1.length r.2.1.length (invF r.2.1),())
theorem round_ok {r:Rg} {t d:Nat->G} (h:CorB r t d) :
  drive_rig_round (OR r) (mkL r.2.1.length t) (mkL r.2.1.length d) = some (if lstE (mkL r.2.1.length (stpF r t d)) r.2.1.length = 0 then (mkL r.2.1.length (stpF r t d),0) else ([],22)):=by
 have hn3:=h.n3;unfold drive_rig_round;rw [correction_ok h,Option.bind_some,mkL_len];refine Ok.eq ?_;rw [ok_bind];refine (loop_up r.2.1.length (λi (s:List G × Int)=>s = (mkL r.2.1.length (λj=>if j < i then stpF r t d j else corF r t d j),(i:Int))) (λq=>q = mkL r.2.1.length (stpF r t d)) ?_ ?_).mono ?_
 ·congr 1
 ·rintro i s hi rfl;by_cases hlt:i < r.2.1.length
  ·have e1:decide ((i:Int) < (r.2.1.length:Int)) = true:=decide_eq_true (by omega);have hx:idx (mkL r.2.1.length d) (i:Int) = some (d i):=idx_of (mkL_get _ hlt);have hy:idx (mkL r.2.1.length (λj=>if j < i then stpF r t d j else corF r t d j)) (i:Int) = some (corF r t d i):=by
    rw [idx_of (mkL_get _ hlt),if_neg (Nat.lt_irrefl i)]
   simp only [e1,cond_true,hx,hy,Option.bind_some,Int.toNat_natCast];rw [plus_ok (cor_bd h.step t d i) (h.dB i hlt) (by omega),Option.bind_some,wid (by omega) (by omega),rnd_inl];refine ⟨hlt,?_⟩;congr 1
   rw [mkL_set _ _ hlt];refine mkL_congr λk hk=>?_;by_cases c:k = i
   ·subst c;rw [if_pos rfl,if_pos (by omega)]; rfl
   ·rw [if_neg c];by_cases c2:k < i
    ·rw [if_pos c2,if_pos (by omega)]
    ·rw [if_neg c2,if_neg (by omega)]
  ·have:i = r.2.1.length:=by omega
   subst this;have e1:decide ((r.2.1.length:Int) < (r.2.1.length:Int)) = false:=by simp
   simp only [e1,cond_false];rw [rnd_inr];exact mkL_congr λk hk=>if_pos hk
 ·rintro q rfl;refine ok_eq.2 ?_;rw [mkL_len,listErr_ok (by rw [mkL_len]; omega),Option.bind_some];by_cases c:lstE (mkL r.2.1.length (stpF r t d)) r.2.1.length = 0
  ·rw [decide_eq_true c,if_pos c]; rfl
  ·rw [decide_eq_false c,if_neg c]; rfl
theorem round_list {r:Rg} {t d:List G} (hE:rigE r = 0) (ht:lstE t r.2.1.length = 0) (hd:lstE d r.2.1.length = 0) :
  drive_rig_round (OR r) t d = some (if lstE (stpL r t d) r.2.1.length = 0 then (stpL r t d,0) else ([],22)):=by
 obtain ⟨tl,tB⟩:=lst_ok ht;obtain ⟨dl,dB⟩:=lst_ok hd;have e1:=list_mkL t g0;have e2:=list_mkL d g0;rw [tl] at e1;rw [dl] at e2;have:=round_ok (corB hE (t:=λk=>t.getD k g0) (d:=λk=>d.getD k g0) (λk hk=>tB _ (getD_mem (by omega))) (λk hk=>dB _ (getD_mem (by omega))));rw [<- e1,<- e2] at this;exact this
structure Three (r:Rg) (t s0 s1 s2 s3:List G):Prop where
 z0:lstE s0 r.2.1.length = 0
 z1:lstE s1 r.2.1.length = 0
 z2:lstE s2 r.2.1.length = 0
 z3:lstE s3 r.2.1.length = 0
 e1:s1 = stpL r t s0
 e2:s2 = stpL r t s1
 e3:s3 = stpL r t s2
end Go.Proofs.YtbcdgfgacigaoaaGreat.Mat
end
section
namespace Go.Proofs.YtbcdgfgacigaoaaGreat.Mat
open Go Go.Ab Go.Tx Go.Proofs.YtbcdgfgacigaoaaGreat Go.Wide
theorem refListErr2 {l:List G} {n:Nat} (h:n<=1000000000):ref04_ListErr l (n:Int) = some (lstE l n):=by
 by_cases c:l.length = n
 ·exact refListErr_ok (by omega)
 ·unfold ref04_ListErr lstE;rw [decide_eq_false (show ¬ (l.length:Int) = (n:Int) by omega),Bool.not_false,cond_true,if_neg c]
theorem RoundErr2 {r:Rg} {t d:List G} (hp:r.1.length<=1000000000) (hpr:∀ x ∈ r.1,x.length<=1000000000) (hm:r.2.1.length<=1000000000) (hmr:∀ x ∈ r.2.1,x.length<=1000000000) (hd:r.2.2.2.1<=9223372036854775807) :
  ref04_RoundErr r t d = some (rouE r t d):=by
 unfold ref04_RoundErr rouE;rw [RigErr_ok hp hpr hm hmr hd,Option.bind_some];by_cases c1:rigE r = 0
 case neg=>rw [decide_eq_false c1,Bool.not_false,cond_true,if_neg c1]
 rw [decide_eq_true c1,Bool.not_true,cond_false,if_pos c1,refListErr2 hp,Option.bind_some];by_cases c2:lstE t r.1.length = 0
 case neg=>rw [decide_eq_false c2,Bool.not_false,cond_true,if_neg c2]
 rw [decide_eq_true c2,Bool.not_true,cond_false,if_pos c2,refListErr2 hp]; rfl
end Go.Proofs.YtbcdgfgacigaoaaGreat.Mat
namespace Go.Proofs.YtbcdgfgacigaoaaGreat
open Go Go.Ab Go.Tx
end Go.Proofs.YtbcdgfgacigaoaaGreat
end
section
namespace Go.Proofs.YtbcdgfgacigaoaaGreat.Mat
open Go Go.Ab Go.Tx Go.Proofs.YtbcdgfgacigaoaaGreat
structure RdB (r:Rg) (t d:List G):Prop where
 rig:rigE r = 0
 tz:lstE t r.2.1.length = 0
 dz:lstE d r.2.1.length = 0
theorem RdB.of {r:Rg} {t d:List G} (h:rouE r t d = 0):RdB r t d:=by
 unfold rouE at h;by_cases c1:rigE r = 0
 case neg=>rw [if_neg c1] at h; exact absurd h c1
 rw [if_pos c1] at h;by_cases c2:lstE t r.1.length = 0
 case neg=>rw [if_neg c2] at h; exact absurd h c2
 rw [if_pos c2] at h;have hl:=(rig_ok c1).2.2.1;rw [hl] at c2 h;exact ⟨c1,c2,h⟩
theorem RdB.cor {r:Rg} {t d:List G} (h:RdB r t d):CorB r (λk=>t.getD k g0) (λk=>d.getD k g0)/\t = mkL r.2.1.length (λk=>t.getD k g0)/\d = mkL r.2.1.length (λk=>d.getD k g0):=by
 obtain ⟨tl,tB⟩:=lst_ok h.tz;obtain ⟨dl,dB⟩:=lst_ok h.dz;have e1:=list_mkL t g0;have e2:=list_mkL d g0;rw [tl] at e1;rw [dl] at e2;exact ⟨corB h.rig (λk hk=>tB _ (getD_mem (by omega))) (λk hk=>dB _ (getD_mem (by omega))),e1,e2⟩
theorem stpL_len (r:Rg) (t d:List G):(stpL r t d).length = r.2.1.length:=mkL_len _ _
theorem Next_ok {r:Rg} {t d:List G} (h:RdB r t d):ref04_Next r t d = some (stpL r t d,decide (lstE (stpL r t d) r.2.1.length = 0)):=by
 obtain ⟨hC,e1,e2⟩:=h.cor;have hn3:=h.cor.1.n3;have hc:ref04_Correction r t d = some (mkL r.2.1.length (corF r (λk=>t.getD k g0) λk=>d.getD k g0)):=by
  have:=Correction_ok h.rig hC;rw [<- e1,<- e2] at this;exact this
 have dl:d.length = r.2.1.length:=(lst_ok h.dz).1;unfold ref04_Next;rw [hc,Option.bind_some,dl];rw [for_mk r.2.1.length (stpF r (λk=>t.getD k g0) λk=>d.getD k g0) (λi hi=>?_) ?_]
 ·rw [Option.bind_some,refListErr_ok (by rw [mkL_len]; omega),Option.bind_some];rfl
 ·have e0:decide ((r.2.1.length:Int) < (r.2.1.length:Int)) = false:=by simp
  simp only [e0,cond_false]
 ·have e0:decide ((i:Int) < (r.2.1.length:Int)) = true:=decide_eq_true (by omega);have hx:idx d (i:Int) = some (d.getD i g0):=idx_of (at_getD g0 (by omega));have hy:idx (mkL r.2.1.length (corF r (λk=>t.getD k g0) λk=>d.getD k g0)) (i:Int) = some (corF r (λk=>t.getD k g0) (λk=>d.getD k g0) i):=idx_of (mkL_get _ hi);simp only [e0,cond_true,hx,hy,Option.bind_some];rw [GAdd_ok (hC.dB i hi) (cor_bd hC.step _ _ i) (by omega),Option.bind_some,app_one (by rw [mkL_len]; omega),Option.bind_some,wid (by omega) (by omega)];unfold stpF;rw [gadd_comm]
def inF (r:Rg) (t d:List G) (most:Int):Bool:=decide (∀ i,i < r.2.1.length->Bd most (leftF r.2.1.length (ent r.1) (λk=>t.getD k g0) (λk=>d.getD k g0) i))
instance (r:Rg) (t d:List G) (most:Int):Decidable (∀ i,i < r.2.1.length->Bd most (leftF r.2.1.length (ent r.1) (λk=>t.getD k g0) (λk=>d.getD k g0) i)):=Nat.decidableBallLT _ _
theorem IsWithin_ok {r:Rg} {t d:List G} (h:RdB r t d) {most:Int} (h0:0<=most/\most<=10000):ref04_IsWithin r t d most = some (inF r t d most):=by
 obtain ⟨hC,e1,e2⟩:=h.cor;have hn3:=hC.n3;have hL:ref04_Left r t d = some (mkL r.2.1.length (leftF r.2.1.length (ent r.1) (λk=>t.getD k g0) λk=>d.getD k g0)):=by
  have:=Left_ok hC.pm hC.pB hC.dB hC.tB hC.n1 hn3;rw [<- e1,<- e2] at this;exact this
 unfold ref04_IsWithin;rw [hL,Option.bind_some];rw [for_find (mkL r.2.1.length (leftF r.2.1.length (ent r.1) (λk=>t.getD k g0) λk=>d.getD k g0)) _ (λ_ z=>if Bd most z then none else some false) (λi z hi=>by
  have:=len_lt hi;rw [mkL_len] at this;rw [idx_of hi];simp only [Option.bind_some];rw [refIsSized_ok _ _ (by omega) (by omega)];simp only [Option.bind_some];by_cases c:Bd most z
  ·simp only [c,decide_true,Bool.not_true,cond_false,if_true,stp]; rw [wid (by omega) (by omega)]
  ·simp only [c,decide_false,Bool.not_false,cond_true,if_false,stp]),elim_toSum]
 cases hf:findI (λ_ z=>if Bd most z then none else some false) 0 (mkL r.2.1.length (leftF r.2.1.length (ent r.1) (λk=>t.getD k g0) λk=>d.getD k g0)) with
 | none =>
  have:inF r t d most = true:=decide_eq_true λi hi=>by
   have h1:=findI_none.1 hf i _ (mkL_get _ hi);by_cases c:Bd most (leftF r.2.1.length (ent r.1) (λk=>t.getD k g0) (λk=>d.getD k g0) i)
   ·exact c
   ·rw [if_neg c] at h1; cases h1
  simp only [this]
 | some b =>
  obtain ⟨i,z,hi,hz,_⟩:=findI_some hf;have hlt:=len_lt hi;rw [mkL_len] at hlt;rw [mkL_get _ hlt] at hi;cases hi;have hz':¬ Bd most (leftF r.2.1.length (ent r.1) (λk=>t.getD k g0) (λk=>d.getD k g0) i):=λc=>by rw [if_pos c] at hz; cases hz
  rw [if_neg hz'] at hz;cases hz;have:inF r t d most = false:=decide_eq_false λhh=>hz' (hh i hlt);simp only [this]
theorem pairs_ok {a b:List G} (hl:a.length = b.length) (h:a.length<=1000):slices_Collect_2_drive_whole_of_drive_pairs_1 a b = some (mkL a.length λi=>((a.getD i g0).1,(a.getD i g0).2.1,(b.getD i g0).1,(b.getD i g0).2.1,())):=by
 unfold slices_Collect_2_drive_whole_of_drive_pairs_1;have k1:Ok (loopO (λ(s2:(Int × (List (Int × Int × Int × Int × Unit)))) =>
   bif decide (s2.1 < (a.length:Int)) then
    (idx a s2.1).bind λx3 =>
    (idx b s2.1).bind λx4 =>
    (app s2.2 ([(x3.1,x3.2.1,x4.1,x4.2.1,())])).bind λx5 =>
    some (.inl (w64 (s2.1 + 1),x5))
   else
    some (.inr s2.2)) (0,[])) (λq=>q = mkL a.length λi=>((a.getD i g0).1,(a.getD i g0).2.1,(b.getD i g0).1,(b.getD i g0).2.1,())):=by
  refine loop_up a.length (λi (s:Int × List (Int × Int × Int × Int × Unit))=>s = ((i:Int),mkL i λi=>((a.getD i g0).1,(a.getD i g0).2.1,(b.getD i g0).1,(b.getD i g0).2.1,()))) _ rfl ?_;rintro i s hi rfl;by_cases hlt:i < a.length
  ·have e0:decide ((i:Int) < (a.length:Int)) = true:=decide_eq_true (by omega);have hx:idx a (i:Int) = some (a.getD i g0):=idx_of (at_getD g0 (by omega));have hy:idx b (i:Int) = some (b.getD i g0):=idx_of (at_getD g0 (by omega));simp only [e0,cond_true,hx,hy,Option.bind_some];rw [app_one (by rw [mkL_len]; omega),Option.bind_some,wid (by omega) (by omega),rnd_inl];exact ⟨hlt,by rw [mkL_succ]; simp⟩
  ·have:i = a.length:=by omega
   subst this;have e0:decide ((a.length:Int) < (a.length:Int)) = false:=by simp
   simp only [e0,cond_false];rw [rnd_inr]
 rw [k1.eq]; rfl
def reachK (r:Rg) (t:List G) (most:Int):Nat->List G->Int × Int
 | 0,d=>if inF r t d most = true then (20,0) else (0,12)
 | f + 1,d=>if inF r t d most = true then (((20 - (f + 1):Nat):Int),0) else if lstE (stpL r t d) r.2.1.length = 0 then reachK r t most f (stpL r t d) else (0,22)
theorem reachK_succ (r:Rg) (t:List G) (most:Int) (f:Nat) (d:List G):reachK r t most (f + 1) d = if inF r t d most = true then (((20 - (f + 1):Nat):Int),0) else if lstE (stpL r t d) r.2.1.length = 0 then reachK r t most f (stpL r t d) else (0,22):=rfl
theorem reachK_zero (r:Rg) (t:List G) (most:Int) (d:List G):reachK r t most 0 d = if inF r t d most = true then (20,0) else (0,12):=rfl
theorem ref_last {r:Rg} {t d:List G} (h:RdB r t d) {most:Int} (h0:0<=most/\most<=10000) :
  ((ref04_IsWithin r t d most).bind λx=>bif x then some ((20:Int),(0:Int)) else some (0,12)) = some (reachK r t most 0 d):=by
 rw [IsWithin_ok h h0,Option.bind_some];unfold reachK;cases inF r t d most <;> rfl
theorem ref_step {r:Rg} {t d:List G} (h:RdB r t d) {most:Int} (h0:0<=most/\most<=10000) {f:Nat} {n:Int} {R:List G × Bool->Option (Int × Int)} (hn:n = ((20 - (f + 1):Nat):Int))
  (hR:∀ d' b,RdB r t d'->R (d',b) = some (reachK r t most f d')) :
  ((ref04_IsWithin r t d most).bind λx=>bif x then some (n,(0:Int)) else (ref04_Next r t d).bind λy=>bif !y.2 then some (0,22) else R y) = some (reachK r t most (f + 1) d):=by
 rw [IsWithin_ok h h0,Option.bind_some,Next_ok h];unfold reachK;cases c:inF r t d most with
 | true=>simp [hn]
 | false =>
  simp only [cond_false,Option.bind_some,Bool.false_eq_true,if_false];by_cases c2:lstE (stpL r t d) r.2.1.length = 0
  ·simp only [c2,decide_true,Bool.not_true,cond_false,if_true];exact hR _ _ ⟨h.rig,h.tz,c2⟩
  ·simp [c2]
theorem Reached_ok {r:Rg} {t d:List G} (h:RdB r t d) {most:Int} (h0:0<=most/\most<=10000):ref04_Reached r t d most = some (reachK r t most 20 d):=by
 unfold ref04_Reached;refine ref_step h h0 (n:=0) rfl λd _ h=>?_;refine ref_step h h0 (n:=1) rfl λd _ h=>?_;refine ref_step h h0 (n:=2) rfl λd _ h=>?_;refine ref_step h h0 (n:=3) rfl λd _ h=>?_;refine ref_step h h0 (n:=4) rfl λd _ h=>?_;refine ref_step h h0 (n:=5) rfl λd _ h=>?_;refine ref_step h h0 (n:=6) rfl λd _ h=>?_;refine ref_step h h0 (n:=7) rfl λd _ h=>?_;refine ref_step h h0 (n:=8) rfl λd _ h=>?_;refine ref_step h h0 (n:=9) rfl λd _ h=>?_;refine ref_step h h0 (n:=10) rfl λd _ h=>?_;refine ref_step h h0 (n:=11) rfl λd _ h=>?_;refine ref_step h h0 (n:=12) rfl λd _ h=>?_;refine ref_step h h0 (n:=13) rfl λd _ h=>?_;refine ref_step h h0 (n:=14) rfl λd _ h=>?_;refine ref_step h h0 (n:=15) rfl λd _ h=>?_;refine ref_step h h0 (n:=16) rfl λd _ h=>?_;refine ref_step h h0 (n:=17) rfl λd _ h=>?_;refine ref_step h h0 (n:=18) rfl λd _ h=>?_;refine ref_step h h0 (n:=19) rfl λd _ h=>?_;exact ref_last h h0
theorem far_ok' {r:Rg} {t d:List G} (h:RdB r t d) {most:Int} (h0:0<=most/\most<=10000) :
  Ok ((drive_response r.1 d).bind λx8 =>
    (slices_Collect_2_drive_whole_of_drive_pairs_1 t x8).bind λx9 =>
    (loopO (λ(s11:Int) =>
       bif decide (s11 < (x9.length:Int)) then
        (idx x9 s11).bind λx12 =>
        (drive_whole_minus (x12.1,x12.2.1,()) (x12.2.2.1,x12.2.2.2.1,())).bind λx13 =>
        (drive_whole_isSized x13 most).bind λx14 =>
        bif !x14 then
         some (.inr (.inr s11))
        else
         some (.inl (w64 (s11 + 1)))
       else
        some (.inr (.inl ()))) 0).bind (Sum.elim (λ(p15:Unit) =>
     some (-1)) some)) λp:Int=>decide (p>=0) = !(inF r t d most):=by
 obtain ⟨hC,e1,e2⟩:=h.cor;have hn3:=hC.n3;have tl:t.length = r.2.1.length:=(lst_ok h.tz).1;have hr:drive_response r.1 d = some (mkL r.2.1.length (respF r.2.1.length (ent r.1) λk=>d.getD k g0)):=by
  have:=response_ok hC.pB hC.dB hn3;rw [<- hC.pm,<- e2] at this;exact this
 rw [hr,Option.bind_some,pairs_ok (by rw [mkL_len,tl]) (by omega),Option.bind_some,tl];rw [for_find (mkL r.2.1.length λi=>((t.getD i g0).1,(t.getD i g0).2.1,((mkL r.2.1.length (respF r.2.1.length (ent r.1) λk=>d.getD k g0)).getD i g0).1,((mkL r.2.1.length (respF r.2.1.length (ent r.1) λk=>d.getD k g0)).getD i g0).2.1,())) _
  (λi _=>if Bd most (leftF r.2.1.length (ent r.1) (λk=>t.getD k g0) (λk=>d.getD k g0) i) then none else some (i:Int)) (λi z hi=>by
  have hlt:=len_lt hi;rw [mkL_len] at hlt;rw [idx_of hi];rw [mkL_get _ hlt] at hi;cases hi;simp only [Option.bind_some];rw [mkL_getD _ _ hlt,minus_ok (A:=10000) (B:=1200000) (hC.tB i hlt) (resp20 hC.pB hC.dB hn3 hlt) (by omega),Option.bind_some,whole_isSized_ok _ _ (by omega) (by omega),Option.bind_some];show (bif !decide (Bd most (leftF r.2.1.length (ent r.1) (λk=>t.getD k g0) (λk=>d.getD k g0) i)) then _ else _) = _;by_cases c:Bd most (leftF r.2.1.length (ent r.1) (λk=>t.getD k g0) (λk=>d.getD k g0) i)
  ·simp only [c,decide_true,Bool.not_true,cond_false,if_true,stp]; rw [wid (by omega) (by omega)]
  ·simp only [c,decide_false,Bool.not_false,cond_true,if_false,stp]),elim_toSum]
 split
 ·rename_i b hf;obtain ⟨i,z,hi,hz,_⟩:=findI_some hf;have hlt:=len_lt hi;rw [mkL_len] at hlt;have hz':¬ Bd most (leftF r.2.1.length (ent r.1) (λk=>t.getD k g0) (λk=>d.getD k g0) i):=λc=>by rw [Nat.zero_add,if_pos c] at hz; cases hz
  rw [Nat.zero_add,if_neg hz'] at hz;cases hz;have:inF r t d most = false:=decide_eq_false λhh=>hz' (hh i hlt);rw [ok_some,this];exact decide_eq_true (by omega)
 ·rename_i hf;have:inF r t d most = true:=decide_eq_true λi hi=>by
   have h1:=findI_none.1 hf i _ (mkL_get _ hi);by_cases c:Bd most (leftF r.2.1.length (ent r.1) (λk=>t.getD k g0) (λk=>d.getD k g0) i)
   ·exact c
   ·rw [Nat.zero_add,if_neg c] at h1; cases h1
  rw [ok_some,this];rfl
theorem ReachedIn_ok {r:Rg} {t d:List G} (hp:r.1.length<=1000000000) (hpr:∀ x ∈ r.1,x.length<=1000000000) (hm:r.2.1.length<=1000000000) (hmr:∀ x ∈ r.2.1,x.length<=1000000000) (hd:r.2.2.2.1<=9223372036854775807) (ht:t.length<=1000000000) (hd2:d.length<=1000000000) (most:Int) :
  drive_ReachedIn r t d most = some (if rouE r t d = 0 then (if 0<=most/\most<=10000 then reachK r t most 20 d else (0,2)) else (0,rouE r t d)):=by
 obtain ⟨y,e1,e2⟩:=openRounds_ok hp hpr hm hmr hd ht hd2;have e1':drive_openRounds (r.1,r.2.1,r.2.2.1,r.2.2.2.1,r.2.2.2.2.1,()) t d = some (y,rouE r t d):=e1;unfold drive_ReachedIn;rw [e1',Option.bind_some,within_ok,Option.bind_some,unless_eq,Option.bind_some,first2,Option.bind_some];by_cases hE:rouE r t d = 0
 case neg=>simp [hE]
 have hy:=e2 hE;subst hy;by_cases c0:0<=most/\most<=10000
 case neg=>simp [hE,c0]
 simp only [hE,c0,and_self,decide_true,if_true,Bool.not_true,cond_false];refine Ok.eq ?_;refine ok_elim.2 ?_;refine (loop_up 20 (λi (s:List G × Int)=>s.2 = (i:Int)/\RdB r t s.1/\reachK r t most (20 - i) s.1 = reachK r t most 20 d)
  (λq:Unit ⊕ (Int × Int)=>q = .inr (reachK r t most 20 d)) ⟨rfl,RdB.of hE,by rw [Nat.sub_zero]⟩ ?_).mono ?_
 ·rintro i ⟨s,j⟩ hi ⟨h1,h2,h3⟩;simp only at h1 h2 h3;subst h1;obtain ⟨p,hp1,hp2⟩:=far_ok' h2 c0;obtain ⟨x8,q1,hp1⟩:=Option.bind_eq_some_iff.1 hp1;obtain ⟨x9,q2,hp1⟩:=Option.bind_eq_some_iff.1 hp1;simp only [q1,q2,Option.bind_some,hp1,hp2,Bool.not_not];by_cases hlt:i < 20
  ·obtain ⟨f,hf⟩:∃ f,20 - i = f + 1:=⟨20 - i - 1,by omega⟩
   rw [hf,reachK_succ r t most f s] at h3;have hi20:¬ ((i:Int) = 20):=by omega
   cases c:inF r t s most with
   | true =>
    rw [c,if_pos rfl] at h3;simp only [cond_true];rw [rnd_inr,<- h3];congr 2
    omega
   | false =>
    rw [c,if_neg (by simp)] at h3;simp only [cond_false,hi20,decide_false];rw [round_list h2.rig h2.tz h2.dz,Option.bind_some];by_cases c2:lstE (stpL r t s) r.2.1.length = 0
    ·rw [if_pos c2] at h3 ⊢;simp only [decide_true,Bool.not_true,cond_false];rw [wid (by omega) (by omega),rnd_inl];refine ⟨hlt,by simp,⟨h2.rig,h2.tz,c2⟩,?_⟩;rw [show 20 - (i + 1) = f by omega]; exact h3
    ·rw [if_neg c2] at h3 ⊢;simp only [show ¬ ((22:Int) = 0) by omega,decide_false,Bool.not_false,cond_true];rw [rnd_inr,<- h3]
  ·have:i = 20:=by omega
   subst this;rw [Nat.sub_self,reachK_zero r t most s] at h3;cases c:inF r t s most with
   | true =>
    rw [c,if_pos rfl] at h3;simp only [cond_true];rw [rnd_inr,<- h3];rfl
   | false =>
    rw [c,if_neg (by simp)] at h3;have e20:decide (((20:Nat):Int) = 20) = true:=by decide
    simp only [cond_false,e20,cond_true];rw [rnd_inr,<- h3]
 ·rintro q rfl;rfl
def manyK (r:Rg) (t:List G):Nat->List G->Option (List (List G))
 | 0,_=>some []
 | k + 1,d=>if lstE (stpL r t d) r.2.1.length = 0 then (manyK r t k (stpL r t d)).map λl=>stpL r t d :: l else none
theorem manyK_succ (r:Rg) (t:List G) (k:Nat) (d:List G):manyK r t (k + 1) d = if lstE (stpL r t d) r.2.1.length = 0 then (manyK r t k (stpL r t d)).map λl=>stpL r t d :: l else none:=rfl
theorem many_loop {r:Rg} {t d:List G} (h:RdB r t d) {k:Nat} (hk:k<=20) {ρ:Type} {K:List G × List (List G) × Int->Option ((List G × List (List G) × Int) ⊕ (List (List G) ⊕ ρ))} (bad:ρ)
  (hK:∀ (i:Nat) s L,i < k->RdB r t s->L.length<=20->K (s,L,(i:Int)) = some (if lstE (stpL r t s) r.2.1.length = 0 then .inl (stpL r t s,L ++ [stpL r t s],(i:Int) + 1) else .inr (.inr bad))) :
  Ok (loopO (λs=>bif decide (s.2.2 < (k:Int)) then K s else some (.inr (.inl s.2.1))) (d,[],0)) λq=>q = (match manyK r t k d with | some l=>.inl l | none=>.inr bad):=by
 refine loop_up k (λi (s:List G × List (List G) × Int)=>s.2.2 = (i:Int)/\RdB r t s.1/\s.2.1.length = i/\manyK r t k d = (manyK r t (k - i) s.1).map λl=>s.2.1 ++ l) _ ⟨rfl,h,rfl,by simp⟩ ?_;rintro i ⟨s,L,j⟩ hi ⟨h1,h2,h3,h4⟩;simp only at h1 h2 h3 h4;subst h1;by_cases hlt:i < k
 ·have e1:decide ((i:Int) < (k:Int)) = true:=decide_eq_true (by omega);simp only [e1,cond_true];rw [hK i s L hlt h2 (by omega)];obtain ⟨f,hf⟩:∃ f,k - i = f + 1:=⟨k - i - 1,by omega⟩
  rw [hf,manyK_succ] at h4;by_cases c:lstE (stpL r t s) r.2.1.length = 0
  ·rw [if_pos c] at h4 ⊢;rw [rnd_inl];refine ⟨hlt,by simp,⟨h2.rig,h2.tz,c⟩,by simp [h3],?_⟩;rw [show k - (i + 1) = f by omega,h4,Option.map_map];congr 1
   funext l
   simp
  ·rw [if_neg c] at h4 ⊢;rw [rnd_inr,h4];rfl
 ·have:i = k:=by omega
  subst this;have e1:decide ((i:Int) < (i:Int)) = false:=by simp
  simp only [e1,cond_false];rw [rnd_inr,h4,Nat.sub_self];simp [manyK]
theorem RoundsN_ok {r:Rg} {t d:List G} (hp:r.1.length<=1000000000) (hpr:∀ x ∈ r.1,x.length<=1000000000) (hm:r.2.1.length<=1000000000) (hmr:∀ x ∈ r.2.1,x.length<=1000000000) (hd:r.2.2.2.1<=9223372036854775807) (ht:t.length<=1000000000) (hd2:d.length<=1000000000) (n:Int) :
  drive_RoundsOf r t d n = some (if rouE r t d = 0 then (if 0<=n/\n<=20 then (match manyK r t n.toNat d with | some l=>(l,0) | none=>([],22)) else ([],2)) else ([],rouE r t d)):=by
 obtain ⟨y,e1,e2⟩:=openRounds_ok hp hpr hm hmr hd ht hd2;have e1':drive_openRounds (r.1,r.2.1,r.2.2.1,r.2.2.2.1,r.2.2.2.2.1,()) t d = some (y,rouE r t d):=e1;unfold drive_RoundsOf;rw [e1',Option.bind_some,within_ok,Option.bind_some,unless_eq,Option.bind_some,first2,Option.bind_some];by_cases hE:rouE r t d = 0
 case neg=>simp [hE]
 have hy:=e2 hE;subst hy;by_cases c0:0<=n/\n<=20
 case neg=>simp [hE,c0]
 obtain ⟨k,rfl⟩:∃ k:Nat,n = (k:Int):=⟨n.toNat,by omega⟩
 simp only [hE,c0,and_self,decide_true,if_true,Bool.not_true,cond_false,Int.toNat_natCast];have key:=many_loop (RdB.of hE) (k:=k) (by omega) (K:=λs7=>(drive_rig_round (OR r) t s7.1).bind λx8 =>
     bif !(decide (x8.2 = 0)) then
      some (.inr (.inr ([],x8.2)))
     else
      (app s7.2.1 ([x8.1])).bind λx9 =>
      some (.inl (x8.1,x9,w64 (s7.2.2 + 1)))) (([],22):List (List G) × Int) (λi s L hi hs hL=>by
  rw [round_list hs.rig hs.tz hs.dz,Option.bind_some];by_cases c:lstE (stpL r t s) r.2.1.length = 0
  ·simp only [c,if_true,decide_true,Bool.not_true,cond_false];rw [app_one (by omega),Option.bind_some,wid (by omega) (by omega)]
  ·simp [c])
 rw [key.eq];cases manyK r t k d <;> rfl
theorem RoundsR_ok {r:Rg} {t d:List G} (h:RdB r t d) {k:Nat} (hk:k<=20):ref04_Rounds r t d (k:Int) = some (match manyK r t k d with | some l=>(l,true) | none=>([],false)):=by
 unfold ref04_Rounds;have key:=many_loop h hk (K:=λs3=>(ref04_Next r t s3.1).bind λx4 =>
    bif !x4.2 then
     some (.inr (.inr ([],false)))
    else
     (app s3.2.1 ([x4.1])).bind λx5 =>
     some (.inl (x4.1,x5,w64 (s3.2.2 + 1)))) (([],false):List (List G) × Bool) (λi s L hi hs hL=>by
  rw [Next_ok hs,Option.bind_some];by_cases c:lstE (stpL r t s) r.2.1.length = 0
  ·simp only [c,if_true,decide_true,Bool.not_true,cond_false];rw [app_one (by omega),Option.bind_some,wid (by omega) (by omega)]
  ·simp [c])
 rw [key.eq];cases manyK r t k d <;> rfl
theorem many_bd {r:Rg} {t:List G} (hm:r.2.1.length<=3):∀ {k:Nat} {d:List G} {l:List (List G)},manyK r t k d = some l->l.length = k/\∀ x ∈ l,x.length<=3
 | 0,d,l,h=>by simp only [manyK,Option.some.injEq] at h; subst h; exact ⟨rfl,by simp⟩
 | k + 1,d,l,h=>by
  simp only [manyK] at h;split at h
  ·obtain ⟨l',h1,rfl⟩:=Option.map_eq_some_iff.1 h;obtain ⟨a,b⟩:=many_bd hm h1;refine ⟨by simp [a],λx hx=>?_⟩;rcases List.mem_cons.1 hx with rfl | hx
   ·rw [stpL_len]; exact hm
   ·exact b x hx
  ·cases h
theorem DriveRounds_eq (r:Rg) (l:List G × List G × Unit) (x:Int × Int × Unit) (hd:r.2.2.2.1<=9223372036854775807):law04_DriveRounds r l x = some true:=by
 unfold law04_DriveRounds;rw [show law04_awake = some true from rfl,Option.bind_some,Bool.not_true,cond_false];refine Ok.eq ?_;rw [ok_bind];refine (Ok.bind (P:=λb:Bool=>b = true->FewM r.1 5/\FewM r.2.1 5) (Q:=λb:Bool=>b = false->(FewM r.1 5/\FewM r.2.1 5)/\l.1.length<=5/\l.2.1.length<=5) (fewRig_ok r) λb hb=>?_).mono λb hb=>?_
 ·cases b with
  | false=>exact ok_some.2 (by simp)
  | true =>
   rw [Bool.not_true,cond_false];by_cases c1:(l.1.length:Int) > 5
   ·rw [decide_eq_true c1,cond_true]; exact ok_some.2 (by simp)
   ·rw [decide_eq_false c1,cond_false];refine ok_some.2 λh=>⟨hb rfl,by omega,?_⟩
    have:=of_decide_eq_false h;omega
 cases b with
 | true=>exact ok_some.2 rfl
 | false =>
 rw [cond_false];obtain ⟨⟨⟨ha5,har⟩,⟨hb5,hbr⟩⟩,hl1,hl2⟩:=hb rfl;have hp:r.1.length<=1000000000:=by omega
 have hm:r.2.1.length<=1000000000:=by omega
 have hpr:∀ x ∈ r.1,x.length<=1000000000:=λx h=>by have:=har x h; omega
 have hmr:∀ x ∈ r.2.1,x.length<=1000000000:=λx h=>by have:=hbr x h; omega
 rw [CopyRig_ok hp hpr hm hmr,Option.bind_some,CopyGausses_ok (by omega),Option.bind_some,CopyGausses_ok (by omega),Option.bind_some,RoundsN_ok hp hpr hm hmr hd (by omega) (by omega),Option.bind_some,Option.bind_some,Option.bind_some,Option.bind_some,ReachedIn_ok hp hpr hm hmr hd (by omega) (by omega),Option.bind_some,RoundErr2 hp hpr hm hmr hd,Option.bind_some];by_cases hE:rouE r l.1 l.2.1 = 0
 case neg=>simp [hE,ok_some]
 have hB:=RdB.of hE;have hn3:=hB.cor.1.n3;simp only [hE,if_true,decide_true,Bool.not_true,cond_false,Within_ok,Option.bind_some];have tail:Ok (bif !decide (0<=x.2.1/\x.2.1<=10000) then
     (bif decide ((if 0<=x.2.1/\x.2.1<=10000 then reachK r l.1 x.2.1 20 l.2.1 else (0,2)).2 = 2) then
       some (decide ((if 0<=x.2.1/\x.2.1<=10000 then reachK r l.1 x.2.1 20 l.2.1 else (0,2)).1 = 0))
      else
       some false).bind λ(p21:Bool) =>
     some p21
    else
     (ref04_Reached r l.1 l.2.1 x.2.1).bind λx22 =>
     (bif decide ((if 0<=x.2.1/\x.2.1<=10000 then reachK r l.1 x.2.1 20 l.2.1 else (0,2)).2 = x22.2) then
       some (decide ((if 0<=x.2.1/\x.2.1<=10000 then reachK r l.1 x.2.1 20 l.2.1 else (0,2)).1 = x22.1))
      else
       some false).bind λ(p23:Bool) =>
     some p23) λb=>b = true:=by
  by_cases c:0<=x.2.1/\x.2.1<=10000
  ·simp only [c,and_self,decide_true,Bool.not_true,cond_false,if_true];rw [Reached_ok hB c,Option.bind_some];simp [ok_some]
  ·simp [c,ok_some]
 by_cases c:0<=x.1/\x.1<=20
 case neg =>
  simp only [c,decide_false,Bool.not_false,cond_true,if_false,decide_true,Bool.not_true,cond_false,List.length_nil,Option.bind_some];exact tail
 obtain ⟨k,hk⟩:∃ k:Nat,x.1 = (k:Int):=⟨x.1.toNat,by omega⟩
 rw [hk] at c ⊢;simp only [c,and_self,decide_true,Bool.not_true,cond_false,if_true,Int.toNat_natCast];rw [RoundsR_ok hB (by omega),Option.bind_some];cases hM:manyK r l.1 k l.2.1 with
 | none =>
  simp only [Bool.not_false,cond_true,cond_false,decide_true,Bool.not_true,List.length_nil,Option.bind_some];exact tail
 | some L =>
  obtain ⟨h1,h2⟩:=many_bd hn3 hM;simp only [cond_true,decide_true,Bool.not_true,cond_false];rw [SameMatrix_ok (by omega) (λr h=>by have:=h2 r h; omega)];simp only [decide_true,Bool.not_true,cond_false,Option.bind_some];exact tail
end Go.Proofs.YtbcdgfgacigaoaaGreat.Mat
namespace Go.Proofs.YtbcdgfgacigaoaaGreat
open Go Go.Ab Go.Tx
theorem law04_DriveRounds_true:∀ x:denP ([Ty.pair (.sl (.sl (.pair I (.pair I .unit)))) (.pair (.sl (.sl (.pair I (.pair I .unit)))) (.pair I (.pair I (.pair I .unit)))),.pair (.sl (.pair I (.pair I .unit))) (.pair (.sl (.pair I (.pair I .unit))) .unit),.pair I (.pair I .unit)].map .ty),RngP maxLen [.pair (.sl (.sl (.pair I (.pair I .unit)))) (.pair (.sl (.sl (.pair I (.pair I .unit)))) (.pair I (.pair I (.pair I .unit)))),.pair (.sl (.pair I (.pair I .unit))) (.pair (.sl (.pair I (.pair I .unit))) .unit),.pair I (.pair I .unit)] x->e_law04_DriveRounds.F x = some true:=by
 intro ⟨a0,a1,a2⟩ hr;exact Mat.DriveRounds_eq a0 a1 a2 hr.1.2.2.2.1.2
end Go.Proofs.YtbcdgfgacigaoaaGreat
end
section
namespace Go.Proofs.YtbcdgfgacigaoaaGreat.driveRounds
open Go Go.Ab Go.Tx Go.ChangeShapes Go.WideShapes Go.ChangeAt Go.RowKit
theorem hlib:∀ g h args r,Lb g = some h->h args = some r->CallOk Tryz.prog g args [] r []:=λg h args r hg hr=>by
 unfold Lb at hg;split at hg
 ·rename_i e;subst e;cases hg;cases args with
  | nil=>cases hr; exact awake_ok
  | cons a l=>cases hr
 ·cases hg
set_option maxRecDepth 100000 in
theorem contract (H:Type) (enc:TypeId × Value->H) (W:World) (base:Nat) (args:Array Value) (ds gs:List (DataW H)) (before:List MemPlace)
  (hval:∀ (j:Nat) t v,Tryz.f4.params[j]? = some t->args[j]? = some v->Value.okWide Tryz.prog W .any base t v)
  (hW:DataW.Whole enc Tryz.prog Tryz.f4.params.toList Rows.driveRoundsSpec.vars false W args.toList ds gs before) :
  Calls Tryz.prog 4 args W λe W'=>∃ v,e = .returned v/\Rows.driveRoundsSpec.post enc Tryz.prog Tryz.f4 false true false false W args v W' :=
 law_contract (τs:=[(.pair (.sl (.sl (.pair I (.pair I .unit)))) (.pair (.sl (.sl (.pair I (.pair I .unit)))) (.pair I (.pair I (.pair I .unit))))),(.pair (.sl (.pair I (.pair I .unit))) (.pair (.sl (.pair I (.pair I .unit))) .unit)),(.pair I (.pair I .unit))]) (ts:=[38,41,42]) (tb:=4) (F:=e_law04_DriveRounds.F) follows hname hlib laid_out Tryz.func4 (by kernel_rfl) (by kernel_rfl) (by kernel_rfl) (by kernel_rfl) (by kernel_rfl) (by kernel_rfl) Tryz.underlying4 o_law04_DriveRounds law04_DriveRounds_true rfl
  (λH ds h=>by
   match ds,h with
   | [d1,d2,d3],_=>rfl) H enc W base args ds gs before hval hW
set_option maxRecDepth 100000 in
theorem lifted (os:Os) (started:os.Started) (H:Type) (enc:TypeId × Value->H) :
  ReturnsInHanded {} Tryz.checked os 4 .any (Rows.driveRoundsSpec.pre6 enc Tryz.prog Tryz.f4 Rows.driveRoundsRow.domain false) (Rows.driveRoundsSpec.post enc Tryz.prog Tryz.f4 false true false false):=by
 refine returnsInHanded_of_change (C:=Tryz.checked) own started (by kernel_rfl) Tryz.func4
  (ChangeSpec.witness6 (enc:=enc) (C:=Tryz.checked) false ⟨#[],#[.agg #[.slice none 0 0,.slice none 0 0,.int .i64 0,.int .i64 0,.int .i64 0],.agg #[.slice none 0 0,.slice none 0 0],.agg #[.int .i64 0,.int .i64 0]],[]⟩ 8 (by kernel_rfl) (by kernel_rfl) (by kernel_rfl) (by kernel_rfl)) ?_
 intro W base args ds gs before hval hW _ _;exact contract H enc W base args ds gs before hval hW
theorem proved:Rows.DriveRoundsSaid :=
 OpenClaim.holds_of_wide 4 Tryz.f4 rfl rfl rfl rfl rfl rfl rfl ⟨rfl,rfl,rfl,rfl,rfl⟩ rfl rfl rfl rfl rfl (by kernel_rfl) Tryz.func4 (by kernel_rfl)
  (of_decide_eq_true (by kernel_rfl)) (by unfold Func.isWrapper; first | (rw [if_pos (by decide +kernel)]; kernel_rfl) | (rw [if_neg (by decide +kernel)]; exact ⟨rfl,rfl⟩))
  (λos started H enc _=>lifted os started H enc)
end Go.Proofs.YtbcdgfgacigaoaaGreat.driveRounds
end
