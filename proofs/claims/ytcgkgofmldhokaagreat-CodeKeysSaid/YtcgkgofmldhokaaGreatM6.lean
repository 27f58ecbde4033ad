import Derived.Test.YtcgkgofmldhokaaGreatM5
import Derived.Laws.StructEq
import Derived.Test.YtcgkgofmldhokaaGreatPslB
namespace Go.Proofs.YtcgkgofmldhokaaGreat
open Go PSL Go.Proofs

set_option maxRecDepth 100000 in
theorem ref4Walk_ok (B:Binds) (hc:Tm.chainB B) (hl:B.length<1000000000):∀ (f:Nat) (t:Tm),(∀ (j:Nat) (c:Int × Tm),B[j]? = some c→t.k=1→c.1=t.n→B.length - j≤f)→PCtr Tryz.prog 81 [.d (.sl (bindRows B)),t.av] (Tm.walkT B f t).av:=by
 intro f
 induction f with
 | zero =>
  intro t hf
  refine PCtr.of_R (pf:=pfB) tyOk mixed Tryz.func81 rfl (by kernel_rfl) (by kernel_rfl) (by simp [Tryz.ntmps81]) fun w S hg=>?_
  refine R_run hg.ok 1000 rfl rfl ?_
  refine R_if rfl rfl (fun h=>?_) (fun h=>?_) <;> refine R_run hg.ok 1000 rfl rfl ?_
  ·have hk:t.k=1:=by simpa using h
   rcases placeB_find B t.n with ⟨h1,h2⟩ | ⟨k,x,h1,h2,h3⟩
   ·refine R_call hg.ok (place_ok B t.n hl) rfl rfl rfl rfl rfl rfl ?_
    refine R_run hg.ok 1000 rfl rfl ?_
    refine R_if rfl rfl (fun h=>absurd h (by simp; omega)) (fun _=>?_) <;> refine R_run hg.ok 1000 rfl rfl ?_
    refine R_ret hg 5 rfl rfl ?_
    rfl
   ·have:=hf k _ h2 hk rfl
    have:=(List.getElem?_eq_some_iff.1 h2).1
    omega
  ·refine R_ret hg 5 rfl rfl ?_
   rfl
 | succ f ih =>
  intro t hf
  refine PCtr.of_R (pf:=pfB) tyOk mixed Tryz.func81 rfl (by kernel_rfl) (by kernel_rfl) (by simp [Tryz.ntmps81]) fun w S hg=>?_
  refine R_run hg.ok 1000 rfl rfl ?_
  refine R_if rfl rfl (fun h=>?_) (fun h=>?_) <;> refine R_run hg.ok 1000 rfl rfl ?_
  ·have hk:t.k=1:=by simpa using h
   rcases placeB_find B t.n with ⟨h1,h2⟩ | ⟨k,x,h1,h2,h3⟩
   ·refine R_call hg.ok (place_ok B t.n hl) rfl rfl rfl rfl rfl rfl ?_
    refine R_run hg.ok 1000 rfl rfl ?_
    refine R_if rfl rfl (fun h=>absurd h (by simp; omega)) (fun _=>?_) <;> refine R_run hg.ok 1000 rfl rfl ?_
    refine R_ret hg 5 rfl rfl ?_
    simp only [Tm.walkT]
    rw [if_pos hk,h2]; rfl
   ·have hlt:=(List.getElem?_eq_some_iff.1 h2).1
    have hfk:=hf k _ h2 hk rfl
    refine R_call hg.ok (place_ok B t.n hl) rfl rfl rfl rfl rfl rfl ?_
    refine R_run hg.ok 1000 rfl rfl ?_
    rw [h1]
    refine R_if rfl rfl (fun _=>?_) (fun h=>absurd h (by simp)) <;> refine R_run hg.ok 1000 rfl rfl ?_
    refine R_index hg.ok rfl rfl rfl rfl rfl rfl (Int.natCast_nonneg _) (bindRows_get h2) rfl ?_
    refine R_run hg.ok 1000 rfl rfl ?_
    refine R_call hg.ok (ih x (fun j c hc' hxk hcn=>by have:=hc.chain k _ h2 hxk j c hc' hcn; omega)) rfl rfl rfl rfl rfl rfl ?_
    refine R_run hg.ok 1000 rfl rfl ?_
    refine R_ret hg 5 rfl rfl ?_
    simp only [Tm.walkT]
    rw [if_pos hk,h3]; rfl
  ·have hk:¬ t.k=1:=by simpa using h
   refine R_ret hg 5 rfl rfl ?_
   simp only [Tm.walkT]
   rw [if_neg hk]; rfl
theorem ref4WalkB_ok (B:Binds) (hc:Tm.chainB B) (hl:B.length<1000000000) (t:Tm):PCtr Tryz.prog 81 [.d (.sl (bindRows B)),t.av] (Tm.walkB B t).av:=ref4Walk_ok B hc hl _ t fun j c _ _ _=>by omega

set_option maxRecDepth 100000 in
theorem ref4In_ok (Y:YP) (M:List Int) (n:Int) (hM:M.length<1000000000):SCtr Tryz.prog Y 130 [.ow 0 M.length,iV n] [.arr 1 M.length (irows M)] (bV (M.contains n)) [.arr 1 M.length (irows M)]:=by
 refine SCtr.of_R (pf:=fun _=>.eff) tyOk mixed Tryz.func130 rfl (by kernel_rfl) (by kernel_rfl) (by simp [Tryz.ntmps130]) (by simp) fun w S φ hg=>?_
 have hφ:φ.length=1:=hg.hs0.len
 refine R_run hg.ok 1000 rfl rfl ?_
 refine R_loop (fun k:Nat=>([(0,.ow 0 M.length),(1,iV n),(5,iV k)],[.arr 1 M.length (irows M)])) (fun k=>k≤M.length∧M.contains n=(M.drop k).contains n) (fun k=>M.length - k) 0 ⟨Nat.zero_le _,rfl⟩ ⟨.refl _,.refl _,.refl _,trivial⟩ rfl ?_
 rintro k ⟨hk,hm⟩
 refine R_run hg.ok 1000 rfl rfl ?_
 refine R_lenO hg.ok rfl rfl rfl rfl rfl (n:=(M.length:Int)) (by rw [irows_length]) ?_
 refine R_run hg.ok 1000 rfl rfl ?_
 refine R_if rfl rfl (fun h=>?_) (fun h=>?_) <;> refine R_run hg.ok 1000 rfl rfl ?_
 ·have hk1:k<M.length:=lt_dec h rfl
  have e1:M[k]? = some M[k]:=List.getElem?_eq_getElem hk1
  rw [List.drop_eq_getElem_cons hk1,contains_cons'] at hm
  generalize M[k]=m at e1 hm
  refine R_indexO hg.ok rfl rfl rfl rfl rfl rfl rfl rfl rfl (Int.natCast_nonneg k) (by rw [irows_length]; simpa using hk1) ?_
  refine R_run hg.ok 1000 rfl rfl ?_
  refine R_loadE hg.ok rfl rfl rfl rfl rfl rfl (irows_get e1) rfl ?_
  refine R_run hg.ok 1000 rfl rfl ?_
  refine R_if rfl rfl (fun h2=>?_) (fun h2=>?_) <;> refine R_run hg.ok 1000 rfl rfl ?_
  ·have h2:m=n:=by simpa using h2
   rw [hm,decide_eq_true h2]
   exact R_retS hg 1 5 (Nat.le_refl _) rfl rfl rfl
  ·have h2:¬ m=n:=by simpa using h2
   exact R_next (k+1) ⟨hk1,by rw [hm,decide_eq_false h2,Bool.false_or]⟩ (by omega) ⟨.refl _,.refl _,Ent.wrap (by omega) (by omega) (by omega),trivial⟩ rfl
 ·have hk1:M.length≤k:=ge_dec h rfl
  rw [hm,List.drop_eq_nil_of_le hk1]
  exact R_retS hg 1 5 (Nat.le_refl _) rfl rfl rfl

set_option maxRecDepth 100000 in
theorem ref4Look_ok (Y:YP) (B:Binds) (hB:∀ b∈B,b.2.size<400000000) (hBl:B.length<1000000) (v:Int):∀ (u:Nat) (n:Nat) (t:Tm) (M:List Int),t.size≤n→t.size<400000000→M.Nodup→(∀ m∈M,findB B m≠none)→(B.countP fun b=>!M.contains b.1)<u→SCtr Tryz.prog Y 109 [.d (.sl (bindRows B)),iV v,t.av,.ow 0 M.length] [.arr 1 M.length (irows M)] (.tup [bV (Tm.lkT (Tm.lkF B v u) t M).1,.ow 0 (Tm.lkT (Tm.lkF B v u) t M).2.length]) [.arr 1 (Tm.lkT (Tm.lkF B v u) t M).2.length (irows (Tm.lkT (Tm.lkF B v u) t M).2)]:=by
 intro u
 induction u with
 | zero=>intro n t M _ _ _ _ h; omega
 | succ u ihu =>
 intro n
 induction n with
 | zero=>intro t M h _; have:=Tm.size_pos t; omega
 | succ n ihn =>
 intro t M hn ht hnd hmb hu
 have hMl:M.length≤B.length:=Tm.nodup_bound hnd hmb
 refine SCtr.of_R (pf:=pfBE) tyOk mixed Tryz.func109 rfl (by kernel_rfl) (by kernel_rfl) (by simp [Tryz.ntmps109]) (by simp) fun w S φ hg=>?_
 have hφ:φ.length=1:=hg.hs0.len
 have ret:∀ {r:Bool} {Q:List Int},Tm.lkT (Tm.lkF B v (u+1)) t M=(r,Q)→(Tm.lkT (Tm.lkF B v (u+1)) t M).1=r∧(Tm.lkT (Tm.lkF B v (u+1)) t M).2=Q:=fun e=>by rw [e]; exact ⟨rfl,rfl⟩
 refine R_run hg.ok 1000 rfl rfl ?_
 refine R_if rfl rfl (fun h1=>?_) (fun h1=>?_) <;> refine R_run hg.ok 1000 rfl rfl ?_
 ·have hk1:t.k=1:=by simpa using h1
  rcases placeB_find B t.n with ⟨p1,p2⟩ | ⟨j,x,p1,p2,p3⟩
  ·refine R_call hg.ok (place_ok B t.n (by omega)) rfl rfl rfl rfl rfl rfl ?_
   refine R_run hg.ok 1000 rfl rfl ?_
   refine R_if rfl rfl (fun _=>?_) (fun h=>absurd h (by simp; omega)) <;> refine R_run hg.ok 1000 rfl rfl ?_
   have e:=ret (r:=decide (t.n=v)) (Q:=M) (by
    rw [Tm.lkT_var hk1]; simp only [Tm.lkF]
    by_cases h2:t.n=v
    ·rw [if_pos h2,decide_eq_true h2]
    ·rw [if_neg h2,p2,decide_eq_false h2])
   rw [e.1,e.2]
   exact R_retS hg 1 5 (Nat.le_refl _) rfl rfl rfl
  ·refine R_call hg.ok (place_ok B t.n (by omega)) rfl rfl rfl rfl rfl rfl ?_
   refine R_run hg.ok 1000 rfl rfl ?_
   rw [p1]
   refine R_if rfl rfl (fun h=>absurd h (by simp)) (fun _=>?_) <;> refine R_run hg.ok 1000 rfl rfl ?_
   refine R_if rfl rfl (fun h2=>?_) (fun h2=>?_) <;> refine R_run hg.ok 1000 rfl rfl ?_
   ·have h2:t.n=v:=by simpa using h2
    have e:=ret (r:=decide (t.n=v)) (Q:=M) (by
     rw [Tm.lkT_var hk1]; simp only [Tm.lkF]; rw [if_pos h2,decide_eq_true h2])
    rw [e.1,e.2]
    exact R_retS hg 1 5 (Nat.le_refl _) rfl rfl rfl
   ·have h2:¬ t.n=v:=by simpa using h2
    refine R_callSO hg.ok hg.gup hg.wide hg.Y [0] [.arr 1 M.length (irows M),boxR t] (ref4In_ok Y M t.n (by omega)) (fun _=>rfl) rfl rfl rfl rfl rfl rfl rfl rfl ?_
    refine R_run hg.ok 1000 rfl rfl ?_
    cases hc:M.contains t.n with
    | true =>
     refine R_if rfl rfl (fun _=>?_) (fun h=>absurd h (by simp)) <;> refine R_run hg.ok 1000 rfl rfl ?_
     have e:=ret (r:=false) (Q:=M) (by rw [Tm.lkT_var hk1]; simp only [Tm.lkF]; rw [if_neg h2,p3]; simp only; rw [hc,if_pos rfl])
     rw [e.1,e.2]
     exact R_retS hg 1 5 (Nat.le_refl _) rfl rfl rfl
    | false =>
     refine R_if rfl rfl (fun h=>absurd h (by simp)) (fun _=>?_) <;> refine R_run hg.ok 1000 rfl rfl ?_
     have hcm:t.n ∉ M:=by simpa using hc
     have hcall:=ihu x.size x (M++[t.n]) (Nat.le_refl _) (hB _ (Tm.findB_mem p3)) (by rw [List.nodup_append]; exact ⟨hnd,by simp,fun a ha b hb=>by simp at hb; subst hb; exact fun e=>hcm (e ▸ ha)⟩) (fun m hm=>by
      rcases List.mem_append.1 hm with hm | hm
      ·exact hmb m hm
      ·simp only [List.mem_singleton] at hm; subst hm; rw [p3]; simp) (by have:=Tm.count_lt p3 hc; omega)
     have hq:Tm.lkT (Tm.lkF B v (u+1)) t M=Tm.lkT (Tm.lkF B v u) x (M++[t.n]):=by
      rw [Tm.lkT_var hk1]; simp only [Tm.lkF]; rw [if_neg h2,p3]; simp only; rw [hc,if_neg (by simp)]
     rw [hq]
     rw [show (M++[t.n]).length=M.length+1 by simp] at hcall
     generalize Tm.lkT (Tm.lkF B v u) x (M++[t.n])=rq at hcall
     obtain ⟨r,Q⟩:=rq
     refine R_index hg.ok rfl rfl rfl rfl rfl rfl (Int.natCast_nonneg _) (bindRows_get p2) rfl ?_
     refine R_run hg.ok 1000 rfl rfl ?_
     refine R_appendO hg.ok (irows (M++[t.n])) rfl rfl rfl rfl rfl rfl rfl rfl rfl (by simp) (by simp [one1]) (irows_snoc1 _ _) (by rw [irows_length]; simp; omega) (by rw [irows_length]; simp; omega) ?_
     refine R_run hg.ok 1000 rfl rfl ?_
     refine R_callSO hg.ok hg.gup hg.wide hg.Y [0] [.arr 1 Q.length (irows Q),boxR t] hcall (fun _=>rfl) rfl rfl rfl rfl rfl rfl rfl rfl ?_
     refine R_run hg.ok 1000 rfl rfl ?_
     exact R_retS hg 1 5 (Nat.le_refl _) rfl rfl rfl
 have hk1:t.k≠1:=by simpa using h1
 have hl0:Tm.lkT (Tm.lkF B v (u+1)) t M=Tm.lkTL (Tm.lkF B v (u+1)) t.l M:=Tm.lkT_fun hk1
 have hsz:Tm.sizeL t.l≤n:=by have:=Tm.size_eq t; omega
 have hll:=Tm.length_le_sizeL t.l
 have hsz2:=Tm.size_eq t
 refine R_loop (fun x:Nat × List Int=>([(0,.d (.sl (bindRows B))),(1,iV v),(3,.ow 0 x.2.length),(6,.lo 1 0),(11,iV x.1)],[.arr 1 x.2.length (irows x.2),boxR t])) (fun x=>x.1≤t.l.length∧Tm.lkT (Tm.lkF B v (u+1)) t M=Tm.lkTL (Tm.lkF B v (u+1)) (t.l.drop x.1) x.2∧(x.2.Nodup∧∀ m∈x.2,findB B m≠none)∧(B.countP fun b=>!x.2.contains b.1)<u+1) (fun x=>t.l.length - x.1) (0,M) ⟨Nat.zero_le _,hl0,⟨hnd,hmb⟩,hu⟩ ⟨.refl _,.refl _,.refl _,.refl _,.refl _,trivial⟩ rfl ?_
 rintro ⟨k,Q⟩ ⟨hk,hm,hQn,hQ⟩
 simp only at hk hm hQn hQ
 refine R_run hg.ok 1000 rfl rfl ?_
 refine R_if rfl rfl (fun h=>?_) (fun h=>?_) <;> refine R_run hg.ok 1000 rfl rfl ?_
 ·have hkl:k<t.l.length:=lt_dec h (by rw [Tm.rows_length])
  have e1:t.l[k]? = some t.l[k]:=List.getElem?_eq_getElem hkl
  have hms:=Tm.size_mem (List.getElem_mem hkl)
  rw [List.drop_eq_getElem_cons hkl] at hm
  generalize t.l[k]=x at e1 hms hm
  simp only [Tm.lkTL] at hm
  refine R_index hg.ok rfl rfl rfl rfl rfl rfl (Int.natCast_nonneg _) (Tm.rows_get e1) rfl ?_
  refine R_run hg.ok 1000 rfl rfl ?_
  have hcall:=ihn x Q (by omega) (by omega) hQn.1 hQn.2 hQ
  obtain ⟨R0,hext⟩:=Tm.lkT_ext (Tm.lkF_ext B v (u+1)) x Q
  have hcnt:=Tm.count_le B Q R0
  rw [← hext] at hcnt
  have hkeep:=Tm.lkT_keep (Tm.lkF_keep B v (u+1)) x Q hQn
  generalize Tm.lkT (Tm.lkF B v (u+1)) x Q=rq at hcall hm hcnt hkeep
  obtain ⟨r,Q'⟩:=rq
  simp only at hm hcnt hkeep
  refine R_callSO hg.ok hg.gup hg.wide hg.Y [0] [.arr 1 Q'.length (irows Q'),boxR t] hcall (fun _=>rfl) rfl rfl rfl rfl rfl rfl rfl rfl ?_
  refine R_run hg.ok 1000 rfl rfl ?_
  refine R_if rfl rfl (fun h2=>?_) (fun h2=>?_) <;> refine R_run hg.ok 1000 rfl rfl ?_
  ·have h2:r=true:=h2
   subst h2
   have e:=ret (r:=true) (Q:=Q') (by rw [hm,if_pos rfl])
   rw [e.1,e.2]
   exact R_retS hg 1 5 (Nat.le_refl _) rfl rfl rfl
  ·have h2:r=false:=h2
   subst h2
   exact R_next (k+1,Q') ⟨hkl,by rw [hm,if_neg (by simp)],hkeep,by simp only; omega⟩ (by simp only; omega) ⟨.refl _,.refl _,.refl _,.refl _,Ent.wrap (by simp only; omega) (by simp only; omega) (by simp only; omega),trivial⟩ rfl
 ·have hkl:t.l.length≤k:=ge_dec h (by rw [Tm.rows_length])
  rw [List.drop_eq_nil_of_le hkl] at hm
  have e:=ret (r:=false) (Q:=Q) (by rw [hm]; simp [Tm.lkTL])
  rw [e.1,e.2]
  exact R_retS hg 1 5 (Nat.le_refl _) rfl rfl rfl

set_option maxRecDepth 100000 in
theorem ref4Within_ok (B:Binds) (hB:∀ b∈B,b.2.size<400000000) (hBl:B.length<1000000) (v:Int) (t:Tm) (ht:t.size<400000000):PCtr Tryz.prog 82 [.d (.sl (bindRows B)),iV v,t.av] (bV (Tm.withB B v t)):=by
 have hcall:=ref4Look_ok ⟨[],fun _=>true⟩ B hB hBl v (B.length+1) t.size t [] (Nat.le_refl _) ht (by simp) (by simp) (by have:=List.countP_le_length (p:=fun b:Int × Tm=>!([]:List Int).contains b.1) (l:=B); omega)
 have hw:Tm.withB B v t=(Tm.lkT (Tm.lkF B v (B.length+1)) t []).1:=rfl
 rw [hw]
 generalize Tm.lkT (Tm.lkF B v (B.length+1)) t []=rq at hcall
 obtain ⟨r,Q⟩:=rq
 have hc:=SCtr.nilE (axs:=[.d (.sl (bindRows B)),iV v,t.av]) (y:=.tup [bV r,.d (.sl (irows Q))]) hcall rfl (by simp [sealA,mapO,nth,bV])
 refine PCtr.of_R (pf:=fun _=>.still) tyOk mixed Tryz.func82 rfl (by kernel_rfl) (by kernel_rfl) (by simp [Tryz.ntmps82]) fun w S hg=>?_
 refine R_run hg.ok 1000 rfl rfl ?_
 refine R_callV hg.ok hg.gup hc rfl rfl rfl rfl rfl rfl ?_
 refine R_run hg.ok 1000 rfl rfl ?_
 refine R_ret hg 5 rfl rfl ?_
 rfl
end Go.Proofs.YtcgkgofmldhokaaGreat

namespace Go.Proofs.YtcgkgofmldhokaaGreat
open Go PSL Go.Proofs
def mrows (met:Tm.Met):List (List D):=met.map fun m=>[.v (.int .i64 m.1),.v (.int .i64 m.2)]
theorem mrows_len (met:Tm.Met):(mrows met).length=met.length:=by simp [mrows]
theorem mrows_get {met:Tm.Met} {i:Nat} {m:Int × Int} (h:met[i]? = some m):(mrows met)[i]? = some [.v (.int .i64 m.1),.v (.int .i64 m.2)]:=by simp [mrows,h]
theorem mrows_snoc (met:Tm.Met) (m:Int × Int):mrows met++[[.v (.int .i64 m.1),.v (.int .i64 m.2)]]=mrows (met++[m]):=by simp [mrows]
theorem bindRows_snoc (l:Binds) (v:Int) (t:Tm):bindRows l++[[.v (.int .i64 v),.v (.int .i64 t.k),.v (.string t.s),.v (.int .i64 t.n),.sl (Tm.rows t.l)]]=bindRows (l++[(v,t)]):=by simp [bindRows,bindRow,Tm.row]

theorem met_cons {m:Int × Int} {met:Tm.Met} {p:Int × Int}:(m::met).contains p=(decide (m=p) || met.contains p):=by
 simp only [List.contains_cons]; congr 1; rw [Bool.eq_iff_iff]; simp; exact eq_comm
def pfR4:Nat→Cls:=fun f=>bif Nat.beq f 4000000007 then .loadB else bif Nat.beq f 4000000006 then .turn 201 else bif Nat.beq f 4000100033 then .look 10001 else bif Nat.beq f 4000100042 then .look 10001 else .eff

set_option maxHeartbeats 1600000 in
set_option maxRecDepth 100000 in
theorem ref4Uni_ok (Y:YP) {S:List Int} {N:Nat} (hSl:S.length≤1000) (hN:N≤1000000):∀ (f:Nat) (l:Binds) (a b:Tm) (met:Tm.Met) (l':Binds) (met':Tm.Met) (ok:Bool),Tm.refU f l a b met=some (l',met',ok)→Tm.UG S N [(a,b)] l→Tm.MetS S met→SCtr Tryz.prog Y 51 [.d (.sl (bindRows l)),a.av,b.av,.ow 0 met.length] [.arr 2 met.length (mrows met)] (.tup [.d (.sl (bindRows l')),.ow 0 met'.length,bV ok]) [.arr 2 met'.length (mrows met')]:=by
 intro f
 induction f with
 | zero=>intro l a b met l' met' ok h; cases h
 | succ f ih =>
 intro l a b met l' met' ok hr hU hM
 refine SCtr.of_R (pf:=pfR4) tyOk mixed Tryz.func51 rfl (by kernel_rfl) (by kernel_rfl) (by simp [Tryz.ntmps51]) (by simp) fun w S0 φ hg=>?_
 have hφ:φ.length=1:=hg.hs0.len
 have hll:l.length≤S.length:=nodup_le (l.map (·.1)) S hU.chain.nodup (fun v hv=>by
  obtain ⟨c,hc,rfl⟩:=List.mem_map.1 hv
  exact (hU.vb c hc).1) |> (by simpa using ·)
 have hml:met.length≤1000 * 1000:=Nat.le_trans hM.len (Nat.mul_le_mul hSl hSl)
 have hsb:∀ c∈l,c.2.size<400000000:=fun c hc=>by have:=hU.sb c hc; omega
 have cwa:=ref4WalkB_ok l hU.chain (by omega) a
 have cwb:=ref4WalkB_ok l hU.chain (by omega) b
 have zwa:=hU.walk1.size
 have zwb:=hU.walk2.size
 have hargs:=fun hx hy=>hU.args (sw:=true) hx hy
 unfold Tm.refU at hr
 refine R_run hg.ok 5 rfl rfl ?_
 refine R_cut2 (fun _:Unit=>([(0,.d (.sl (bindRows l))),(3,.ow 0 (Tm.metU a b met).length),(5,.lo 1 0),(6,.lo 2 0)],[.arr 2 (Tm.metU a b met).length (mrows (Tm.metU a b met)),boxR a,boxR b])) (fun _=>Tm.skipU a b met=false) rfl ?_ ?_
 ·refine R_run hg.ok 1000 rfl rfl ?_
  have one:¬ (a.k=1∧b.k=1)→Tm.skipU a b met=false∧Tm.metU a b met=met:=fun h=>by
   have:(decide (a.k=1)&&decide (b.k=1))=false:=by simpa using h
   unfold Tm.skipU Tm.metU
   rw [this]
   exact ⟨rfl,rfl⟩
  refine R_if rfl rfl (fun h1=>?_) (fun h1=>?_) <;> refine R_run hg.ok 1000 rfl rfl ?_
  ·have h1:a.k=1:=by simpa using h1
   refine R_if rfl rfl (fun h2=>?_) (fun h2=>?_) <;> refine R_run hg.ok 1000 rfl rfl ?_
   ·have h2:b.k=1:=by simpa using h2
    have hm2:Tm.metU a b met=met++[(a.n,b.n)]:=by simp [Tm.metU,h1,h2]
    have hs2:Tm.skipU a b met=met.contains (a.n,b.n):=by simp only [Tm.skipU,h1,h2,decide_true,Bool.true_and]
    refine R_loop (fun k:Nat=>([(0,.d (.sl (bindRows l))),(3,.ow 0 met.length),(5,.lo 1 0),(6,.lo 2 0),(11,iV k)],[.arr 2 met.length (mrows met),boxR a,boxR b])) (fun k=>k≤met.length∧met.contains (a.n,b.n)=(met.drop k).contains (a.n,b.n)) (fun k=>met.length - k) 0 ⟨Nat.zero_le _,rfl⟩ ⟨.refl _,.refl _,.refl _,.refl _,.refl _,trivial⟩ rfl ?_
    rintro k ⟨hk,hm⟩
    refine R_run hg.ok 1000 rfl rfl ?_
    refine R_lenO hg.ok rfl rfl rfl rfl rfl (n:=(met.length:Int)) (by rw [mrows_len]) ?_
    refine R_run hg.ok 1000 rfl rfl ?_
    refine R_if rfl rfl (fun h=>?_) (fun h=>?_) <;> refine R_run hg.ok 1000 rfl rfl ?_
    ·have hk1:k<met.length:=lt_dec h rfl
     have e1:met[k]? = some met[k]:=List.getElem?_eq_getElem hk1
     rw [List.drop_eq_getElem_cons hk1,met_cons] at hm
     generalize met[k]=m at e1 hm
     obtain ⟨m1,m2⟩:=m
     refine R_indexOJ hg.ok 10000 rfl rfl rfl (by simp [mayO,Ob.lvl,Ob.isBox]) rfl rfl rfl rfl rfl rfl (Int.natCast_nonneg _) (by rw [mrows_len]; simpa using hk1) ?_
     refine R_run hg.ok 1000 rfl rfl ?_
     refine R_loadEJ hg.ok 10000 rfl rfl rfl (by simp [mayO,Ob.lvl,Ob.isBox]) rfl rfl rfl (mrows_get e1) rfl ?_
     refine R_run hg.ok 1000 rfl rfl ?_
     refine R_if rfl rfl (fun h3=>?_) (fun h3=>?_) <;> refine R_run hg.ok 1000 rfl rfl ?_
     ·have h3:m1=a.n:=by simpa using h3
      refine R_indexOJ hg.ok 10000 rfl rfl rfl (by simp [mayO,Ob.lvl,Ob.isBox]) rfl rfl rfl rfl rfl rfl (Int.natCast_nonneg _) (by rw [mrows_len]; simpa using hk1) ?_
      refine R_run hg.ok 1000 rfl rfl ?_
      refine R_loadEJ hg.ok 10000 rfl rfl rfl (by simp [mayO,Ob.lvl,Ob.isBox]) rfl rfl rfl (mrows_get e1) rfl ?_
      refine R_run hg.ok 1000 rfl rfl ?_
      refine R_if rfl rfl (fun h4=>?_) (fun h4=>?_) <;> refine R_run hg.ok 1000 rfl rfl ?_
      ·have h4:m2=b.n:=by simpa using h4
       have hsk:Tm.skipU a b met=true:=by rw [hs2,hm,h3,h4]; simp
       rw [if_pos hsk] at hr
       cases hr
       exact R_retS hg 1 5 (Nat.le_refl _) rfl rfl rfl
      ·have h4:¬ m2=b.n:=by simpa using h4
       exact R_next (k+1) ⟨hk1,by rw [hm]; simp [h4]⟩ (by omega) ⟨.refl _,.refl _,.refl _,.refl _,Ent.wrap (by omega) (by omega) (by omega),trivial⟩ rfl
     ·have h3:¬ m1=a.n:=by simpa using h3
      exact R_next (k+1) ⟨hk1,by rw [hm]; simp [h3]⟩ (by omega) ⟨.refl _,.refl _,.refl _,.refl _,Ent.wrap (by omega) (by omega) (by omega),trivial⟩ rfl
    ·have hk1:met.length≤k:=ge_dec h rfl
     rw [List.drop_eq_nil_of_le hk1] at hm
     have hsk:Tm.skipU a b met=false:=by rw [hs2,hm]; rfl
     refine R_appendO hg.ok (mrows (met++[(a.n,b.n)])) rfl rfl rfl rfl rfl rfl rfl rfl rfl (by simp) (by simp [one1]) (mrows_snoc met (a.n,b.n)) (by rw [mrows_len]; simp; omega) (by rw [mrows_len]; simp; omega) ?_
     refine R_run hg.ok 1000 rfl rfl ?_
     refine R_to () hsk ⟨.refl _,by rw [hm2]; simp only [List.length_append,List.length_singleton]; exact .refl _,.refl _,.refl _,trivial⟩ ?_
     rw [hm2]; simp only [List.length_append,List.length_singleton]; rfl
   ·have h2:¬ b.k=1:=by simpa using h2
    obtain ⟨o1,o2⟩:=one fun h=>h2 h.2
    refine R_to () o1 ⟨.refl _,by rw [o2]; exact .refl _,.refl _,.refl _,trivial⟩ ?_
    rw [o2]; rfl
  ·have h1:¬ a.k=1:=by simpa using h1
   obtain ⟨o1,o2⟩:=one fun h=>h1 h.1
   refine R_to () o1 ⟨.refl _,by rw [o2]; exact .refl _,.refl _,.refl _,trivial⟩ ?_
   rw [o2]; rfl
 rintro _ hs
 rw [if_neg (by rw [hs]; simp)] at hr
 have hM':=hM.more hs (hU.vt (a,b) (by simp)).1 (hU.vt (a,b) (by simp)).2
 have hml':(Tm.metU a b met).length≤1000 * 1000:=Nat.le_trans hM'.len (Nat.mul_le_mul hSl hSl)
 have hzs:∀ v:Int,∀ t:Tm,t.size≤N→PCtr Tryz.prog 82 [.d (.sl (bindRows l)),iV v,t.av] (bV (Tm.withB l v t)):=fun v t ht=>ref4Within_ok l hsb (by omega) v t (by omega)
 generalize Tm.metU a b met=m1 at *
 refine R_run hg.ok 1000 rfl rfl ?_
 refine R_call hg.ok (cwa) rfl rfl rfl rfl rfl rfl ?_
 refine R_run hg.ok 1000 rfl rfl ?_
 refine R_call hg.ok (cwb) rfl rfl rfl rfl rfl rfl ?_
 refine R_run hg.ok 1000 rfl rfl ?_
 generalize Tm.walkB l a=a' at *
 generalize Tm.walkB l b=b' at *
 by_cases hv:a'.k=1∧b'.k=1∧a'.n=b'.n
 ·rw [if_pos hv] at hr
  cases hr
  refine R_if rfl rfl (fun _=>?_) (fun h=>absurd h (by simp [hv.1])) <;> refine R_run hg.ok 1000 rfl rfl ?_
  refine R_if rfl rfl (fun _=>?_) (fun h=>absurd h (by simp [hv.2.1])) <;> refine R_run hg.ok 1000 rfl rfl ?_
  refine R_if rfl rfl (fun _=>?_) (fun h=>absurd h (by simp [hv.2.2])) <;> refine R_run hg.ok 1000 rfl rfl ?_
  exact R_retS hg 1 5 (Nat.le_refl _) rfl rfl rfl
 rw [if_neg hv] at hr
 by_cases hb:b'.k=1
 ·rw [if_pos hb] at hr
  cases hr
  have hw:=hzs b'.n a' zwa
  by_cases ha:a'.k=1
  ·refine R_if rfl rfl (fun _=>?_) (fun h=>absurd h (by simp [ha])) <;> refine R_run hg.ok 1000 rfl rfl ?_
   refine R_if rfl rfl (fun _=>?_) (fun h=>absurd h (by simp [hb])) <;> refine R_run hg.ok 1000 rfl rfl ?_
   refine R_if rfl rfl (fun h=>absurd h (by have:¬ a'.n=b'.n:=fun e=>hv ⟨ha,hb,e⟩; simp [this])) (fun _=>?_) <;> refine R_run hg.ok 1000 rfl rfl ?_
   refine R_if rfl rfl (fun _=>?_) (fun h=>absurd h (by simp [hb])) <;> refine R_run hg.ok 1000 rfl rfl ?_
   refine R_appendF hg.ok (rows:=[]) rfl rfl (.inl rfl) rfl (.inl rfl) rfl rfl rfl (by simp) (bindRows_sz l) (by simp [bindRows_len]; omega) (by simp [bindRows_len]; omega) ?_
   refine R_run hg.ok 1000 rfl rfl ?_
   refine R_appendO hg.ok (bindRows (l++[(b'.n,a')])) rfl rfl rfl rfl rfl rfl rfl rfl rfl (by simp) (by simp [one1]) (bindRows_snoc l b'.n a') (by simp [bindRows_len]; omega) (by simp [bindRows_len]; omega) ?_
   refine R_run hg.ok 1000 rfl rfl ?_
   refine R_call hg.ok (hw) rfl rfl rfl rfl rfl rfl ?_
   refine R_run hg.ok 1000 rfl rfl ?_
   exact R_retS hg 1 5 (Nat.le_refl _) rfl rfl rfl
  ·refine R_if rfl rfl (fun h=>absurd h (by simp [ha])) (fun _=>?_) <;> refine R_run hg.ok 1000 rfl rfl ?_
   refine R_if rfl rfl (fun _=>?_) (fun h=>absurd h (by simp [hb])) <;> refine R_run hg.ok 1000 rfl rfl ?_
   refine R_appendF hg.ok (rows:=[]) rfl rfl (.inl rfl) rfl (.inl rfl) rfl rfl rfl (by simp) (bindRows_sz l) (by simp [bindRows_len]; omega) (by simp [bindRows_len]; omega) ?_
   refine R_run hg.ok 1000 rfl rfl ?_
   refine R_appendO hg.ok (bindRows (l++[(b'.n,a')])) rfl rfl rfl rfl rfl rfl rfl rfl rfl (by simp) (by simp [one1]) (bindRows_snoc l b'.n a') (by simp [bindRows_len]; omega) (by simp [bindRows_len]; omega) ?_
   refine R_run hg.ok 1000 rfl rfl ?_
   refine R_call hg.ok (hw) rfl rfl rfl rfl rfl rfl ?_
   refine R_run hg.ok 1000 rfl rfl ?_
   exact R_retS hg 1 5 (Nat.le_refl _) rfl rfl rfl
 rw [if_neg hb] at hr
 by_cases ha:a'.k=1
 ·rw [if_pos ha] at hr
  cases hr
  have hw:=hzs a'.n b' zwb
  refine R_if rfl rfl (fun _=>?_) (fun h=>absurd h (by simp [ha])) <;> refine R_run hg.ok 1000 rfl rfl ?_
  refine R_if rfl rfl (fun h=>absurd h (by simp [hb])) (fun _=>?_) <;> refine R_run hg.ok 1000 rfl rfl ?_
  refine R_if rfl rfl (fun h=>absurd h (by simp [hb])) (fun _=>?_) <;> refine R_run hg.ok 1000 rfl rfl ?_
  refine R_if rfl rfl (fun _=>?_) (fun h=>absurd h (by simp [ha])) <;> refine R_run hg.ok 1000 rfl rfl ?_
  refine R_appendF hg.ok (rows:=[]) rfl rfl (.inl rfl) rfl (.inl rfl) rfl rfl rfl (by simp) (bindRows_sz l) (by simp [bindRows_len]; omega) (by simp [bindRows_len]; omega) ?_
  refine R_run hg.ok 1000 rfl rfl ?_
  refine R_appendO hg.ok (bindRows (l++[(a'.n,b')])) rfl rfl rfl rfl rfl rfl rfl rfl rfl (by simp) (by simp [one1]) (bindRows_snoc l a'.n b') (by simp [bindRows_len]; omega) (by simp [bindRows_len]; omega) ?_
  refine R_run hg.ok 1000 rfl rfl ?_
  refine R_call hg.ok (hw) rfl rfl rfl rfl rfl rfl ?_
  refine R_run hg.ok 1000 rfl rfl ?_
  exact R_retS hg 1 5 (Nat.le_refl _) rfl rfl rfl
 rw [if_neg ha] at hr
 have hargs:=hargs ha hb
 rw [List.append_nil,show Tm.ordU true a'.l b'.l=a'.l.zip b'.l from rfl] at hargs
 have bad:Tm.clashB a' b'=true→some (l,m1,false)=some (l',met',ok):=fun h=>by rw [if_pos h] at hr; exact hr
 refine R_if rfl rfl (fun h=>absurd h (by simp [ha])) (fun _=>?_) <;> refine R_run hg.ok 1000 rfl rfl ?_
 refine R_if rfl rfl (fun h=>absurd h (by simp [hb])) (fun _=>?_) <;> refine R_run hg.ok 1000 rfl rfl ?_
 refine R_if rfl rfl (fun h=>absurd h (by simp [ha])) (fun _=>?_) <;> refine R_run hg.ok 1000 rfl rfl ?_
 refine R_if rfl rfl (fun c1=>?_) (fun c1=>?_) <;> refine R_run hg.ok 1000 rfl rfl ?_
 ·have c1:¬ a'.k=b'.k:=by simpa using c1
  cases bad (by simp [Tm.clashB,c1])
  exact R_retS hg 1 5 (Nat.le_refl _) rfl rfl rfl
 have c1:a'.k=b'.k:=by simpa using c1
 refine R_if rfl rfl (fun c2=>?_) (fun c2=>?_) <;> refine R_run hg.ok 1000 rfl rfl ?_
 ·have c2:¬ a'.n=b'.n:=by simpa using c2
  cases bad (by simp [Tm.clashB,c2])
  exact R_retS hg 1 5 (Nat.le_refl _) rfl rfl rfl
 have c2:a'.n=b'.n:=by simpa using c2
 refine R_if rfl rfl (fun c3=>?_) (fun c3=>?_) <;> refine R_run hg.ok 1000 rfl rfl ?_
 ·have c3:strEq a'.s b'.s=false:=by simpa using c3
  cases bad (by simp [Tm.clashB,c3])
  exact R_retS hg 1 5 (Nat.le_refl _) rfl rfl rfl
 have c3:strEq a'.s b'.s=true:=by simpa using c3
 refine R_if rfl rfl (fun c4=>?_) (fun c4=>?_) <;> refine R_run hg.ok 1000 rfl rfl ?_
 ·have c4:¬ a'.l.length=b'.l.length:=by simp [Tm.rows_length] at c4; omega
  cases bad (by simp [Tm.clashB,c4])
  exact R_retS hg 1 5 (Nat.le_refl _) rfl rfl rfl
 have c4:a'.l.length=b'.l.length:=by simp [Tm.rows_length] at c4; omega
 have hcl:Tm.clashB a' b'=false:=by simp [Tm.clashB,c1,c2,c3,c4]
 rw [if_neg (by rw [hcl]; simp)] at hr
 have hla:=Tm.length_le_sizeL a'.l
 have hsa:=Tm.size_eq a'
 have hzl:(a'.l.zip b'.l).length=a'.l.length:=by rw [List.length_zip]; omega
 refine R_loop (fun x:Nat × Binds × Tm.Met=>([(0,.d (.sl (bindRows x.2.1))),(3,.ow 0 x.2.2.length),(5,.lo 1 0),(6,.lo 2 0),(12,iV x.1)],[.arr 2 x.2.2.length (mrows x.2.2),boxR a',boxR b'])) (fun x=>x.1≤a'.l.length∧Tm.refUL (Tm.refU f) x.2.1 ((a'.l.zip b'.l).drop x.1) x.2.2=some (l',met',ok)∧Tm.UG S N ((a'.l.zip b'.l).drop x.1) x.2.1∧Tm.MetS S x.2.2) (fun x=>a'.l.length - x.1) (0,l,m1) ⟨Nat.zero_le _,hr,hargs,hM'⟩ ⟨.refl _,.refl _,.refl _,.refl _,.refl _,trivial⟩ rfl ?_
 rintro ⟨k,l2,m2⟩ ⟨hk,hq,hU2,hM2⟩
 simp only at hk hq hU2 hM2
 refine R_run hg.ok 1000 rfl rfl ?_
 refine R_if rfl rfl (fun h=>?_) (fun h=>?_) <;> refine R_run hg.ok 1000 rfl rfl ?_
 ·have hk1:k<a'.l.length:=lt_dec h (by rw [Tm.rows_length])
  have e1:a'.l[k]? = some a'.l[k]:=List.getElem?_eq_getElem hk1
  have e2:b'.l[k]? = some (b'.l[k]'(by omega)):=List.getElem?_eq_getElem (by omega)
  have e3:(a'.l.zip b'.l).drop k=(a'.l[k],b'.l[k]'(by omega))::(a'.l.zip b'.l).drop (k+1):=by
   rw [List.drop_eq_getElem_cons (by omega),List.getElem_zip]
  rw [e3] at hq hU2
  generalize a'.l[k]=x at *
  generalize (b'.l[k]'(by omega))=y at *
  simp only [Tm.refUL] at hq
  cases hq3:Tm.refU f l2 x y m2 with
  | none=>rw [hq3] at hq; cases hq
  | some r =>
  rw [hq3] at hq
  obtain ⟨l3,m3,ok3⟩:=r
  have hcall:=ih l2 x y m2 l3 m3 ok3 hq3 (hU2.sub (by simp)) hM2
  refine R_index hg.ok rfl rfl rfl rfl rfl rfl (Int.natCast_nonneg _) (Tm.rows_get e1) rfl ?_
  refine R_run hg.ok 1000 rfl rfl ?_
  refine R_index hg.ok rfl rfl rfl rfl rfl rfl (Int.natCast_nonneg _) (Tm.rows_get e2) rfl ?_
  refine R_run hg.ok 1000 rfl rfl ?_
  refine R_callSO hg.ok hg.gup hg.wide hg.Y [0] [.arr 2 m3.length (mrows m3),boxR a',boxR b'] hcall (fun _=>rfl) rfl rfl rfl rfl rfl rfl rfl rfl ?_
  refine R_run hg.ok 1000 rfl rfl ?_
  cases ok3 with
  | false =>
   refine R_if rfl rfl (fun _=>?_) (fun h=>absurd h (by simp)) <;> refine R_run hg.ok 1000 rfl rfl ?_
   cases hq
   exact R_retS hg 1 5 (Nat.le_refl _) rfl rfl rfl
  | true =>
   refine R_if rfl rfl (fun h=>absurd h (by simp)) (fun _=>?_) <;> refine R_run hg.ok 1000 rfl rfl ?_
   obtain ⟨g1,g2⟩:=Tm.refU_good f l2 x y m2 l3 m3 hq3 _ hU2 hM2
   exact R_next (k+1,l3,m3) ⟨hk1,hq,g1,g2⟩ (by simp only; omega) ⟨.refl _,.refl _,.refl _,.refl _,Ent.wrap (by simp only; omega) (by simp only; omega) (by simp only; omega),trivial⟩ rfl
 ·have hk1:a'.l.length≤k:=ge_dec h (by rw [Tm.rows_length])
  rw [List.drop_eq_nil_of_le (by omega)] at hq
  cases hq
  exact R_retS hg 1 5 (Nat.le_refl _) rfl rfl rfl
end Go.Proofs.YtcgkgofmldhokaaGreat

namespace Go.Proofs.YtcgkgofmldhokaaGreat
open Go PSL Go.Proofs

set_option maxRecDepth 100000 in
theorem ref4Unify_ok {S:List Int} {N:Nat} (hSl:S.length≤1000) (hN:N≤1000000) {l:Binds} {a b:Tm} (hU:Tm.UG S N [(a,b)] l):∃ (l':Binds) (ok:Bool),PCtr Tryz.prog 21 [.d (.sl (bindRows l)),a.av,b.av] (.tup [.d (.sl (bindRows l')),bV ok])∧Tm.UG S N [] l'∧(ok=true→∀ σ,Tm.solB σ l'↔Tm.solB σ l∧Tm.putF σ a=Tm.putF σ b)∧(ok=false→l'=l∧∀ σ,Tm.solB σ l→Tm.putF σ a≠Tm.putF σ b):=by
 obtain ⟨n,B',ok,hrun,hg1,_,hyes,hno⟩:=Tm.unify_main true hU
 obtain ⟨l1,met1,ok1,hr,hf,ht⟩:=Tm.urun_ref n a b [] l B' [] ok hrun
 have hc:=SCtr.nilE (axs:=[.d (.sl (bindRows l)),a.av,b.av]) (y:=.tup [.d (.sl (bindRows l1)),.d (.sl (mrows met1)),bV ok1]) (ref4Uni_ok ⟨[],fun _=>true⟩ hSl hN n l a b [] l1 met1 ok1 hr hU (Tm.MetS.nil S)) rfl (by simp [sealA,mapO,nth,bV])
 cases ok1 with
 | true =>
  obtain ⟨n1,_,h1⟩:=ht rfl
  cases h1
  refine ⟨_,true,?_,hg1,fun _=>hyes rfl,fun h=>(by cases h)⟩
  refine PCtr.of_R (pf:=fun _=>.still) tyOk mixed Tryz.func21 rfl (by kernel_rfl) (by kernel_rfl) (by simp [Tryz.ntmps21]) fun w S hg=>?_
  refine R_run hg.ok 1000 rfl rfl ?_
  refine R_callV hg.ok hg.gup hc rfl rfl rfl rfl rfl rfl ?_
  refine R_run hg.ok 1000 rfl rfl ?_
  refine R_if rfl rfl (fun h=>absurd h (by simp)) (fun _=>?_) <;> refine R_run hg.ok 1000 rfl rfl ?_
  refine R_ret hg 5 rfl rfl ?_
  rfl
 | false =>
  have:=hf rfl
  subst this
  refine ⟨l,false,?_,hU.sub (by simp),fun h=>(by cases h),fun _=>⟨rfl,hno rfl⟩⟩
  refine PCtr.of_R (pf:=fun _=>.still) tyOk mixed Tryz.func21 rfl (by kernel_rfl) (by kernel_rfl) (by simp [Tryz.ntmps21]) fun w S hg=>?_
  refine R_run hg.ok 1000 rfl rfl ?_
  refine R_callV hg.ok hg.gup hc rfl rfl rfl rfl rfl rfl ?_
  refine R_run hg.ok 1000 rfl rfl ?_
  refine R_if rfl rfl (fun _=>?_) (fun h=>absurd h (by simp)) <;> refine R_run hg.ok 1000 rfl rfl ?_
  refine R_ret hg 5 rfl rfl ?_
  rfl
end Go.Proofs.YtcgkgofmldhokaaGreat

namespace Go.Proofs.YtcgkgofmldhokaaGreat
open Go PSL Go.Proofs
def kyV (k:Ky):Value:=.agg #[.int .i64 k.kind,.int .i64 k.n,.string k.s]
def kyEqB (a b:Ky):Bool:=(a.kind==b.kind)&&(a.n==b.n)&&strEq a.s b.s
def isV (x:Is):Value:=.agg #[.int .i64 x.op,.int .i64 x.v,.int .i64 x.n,.string x.s]
def isEqB (a b:Is):Bool:=(a.op==b.op)&&(a.v==b.v)&&(a.n==b.n)&&strEq a.s b.s

theorem kyEqual (d:Nat) (a b:Ky) (w:World):(Op.equalIn (d+1+1) 48 (kyV a) (kyV b)).run Tryz.prog w=.ok (kyEqB a b) w:=by
 obtain ⟨k,n,s⟩:=a
 obtain ⟨k',n',s'⟩:=b
 unfold kyV kyEqB
 rw [run_equalIn_agg w (d+1) 48 _ _ (by rw [Program.fieldsOf,Tryz.underlying48]) Tryz.stoodInHeld48]
 rw [Program.fieldsOf,Tryz.underlying48]
 simp [Op.eqFields,part,run_equalIn_int _ _ _ _ _ _ _ Tryz.underlying3,run_equalIn_string _ _ _ _ _ Tryz.underlying9]
 by_cases h1:k=k'
 ·by_cases h2:n=n'
  ·by_cases h3:s=s'
   ·simp [h1,h2,h3,strEq]
   ·have h4:¬ s.toList=s'.toList:=fun e=>h3 (Tm.strEq_iff.1 (by simp [strEq,e]))
    simp [h1,h2,strEq,h4,h3]
  ·simp [h1,h2]
 ·simp [h1]

theorem isEqual (d:Nat) (a b:Is) (w:World):(Op.equalIn (d+1+1) 86 (isV a) (isV b)).run Tryz.prog w=.ok (isEqB a b) w:=by
 obtain ⟨o,k,n,s⟩:=a
 obtain ⟨o',k',n',s'⟩:=b
 unfold isV isEqB
 rw [run_equalIn_agg w (d+1) 86 _ _ (by rw [Program.fieldsOf,Tryz.underlying86]) Tryz.stoodInHeld86]
 rw [Program.fieldsOf,Tryz.underlying86]
 simp [Op.eqFields,part,run_equalIn_int _ _ _ _ _ _ _ Tryz.underlying3,run_equalIn_string _ _ _ _ _ Tryz.underlying9]
 by_cases h0:o=o'
 ·by_cases h1:k=k'
  ·by_cases h2:n=n'
   ·by_cases h3:s=s'
    ·simp [h0,h1,h2,h3,strEq]
    ·have h4:¬ s.toList=s'.toList:=fun e=>h3 (Tm.strEq_iff.1 (by simp [strEq,e]))
     simp [h0,h1,h2,strEq,h4,h3]
   ·simp [h0,h1,h2]
  ·simp [h0,h1]
 ·simp [h0]

theorem kyEql (x y:Operand) (a b:Ky) (w:World):((do eqGuard .eql 48 x y (kyV a) (kyV b); binOp .eql 48 (kyV a) (kyV b)):Sem Value).run Tryz.prog w=.ok (.bool (kyEqB a b)) w:=by
 have h:=kyEqual 9998 a b w
 unfold kyV at h ⊢
 simp only [Sem.run_bind]
 rw [run_eqGuard_agg _ _ _ _ _ _ _ Tryz.eqGuardType48]
 simp only [Result.andThen_ok]
 rw [run_eql_struct,h]
 rfl

theorem isEql (x y:Operand) (a b:Is) (w:World):((do eqGuard .eql 86 x y (isV a) (isV b); binOp .eql 86 (isV a) (isV b)):Sem Value).run Tryz.prog w=.ok (.bool (isEqB a b)) w:=by
 have h:=isEqual 9998 a b w
 unfold isV at h ⊢
 simp only [Sem.run_bind]
 rw [run_eqGuard_agg _ _ _ _ _ _ _ Tryz.eqGuardType86]
 simp only [Result.andThen_ok]
 rw [run_eql_struct,h]
 rfl

set_option maxRecDepth 100000 in
theorem fits_ok (k:Ky) (t:Tm):PCtr Tryz.prog 16 [kyA k,t.av] (bV (fitK k t)):=by
 have hkey:PCtr Tryz.prog 37 [.agg [iV 0,.d (.v (.string ByteArray.empty)),iV 0,.d (.sl [Tm.row t])]] (kyA (keyT t)):=by
  have h:=key_ok (.mk 0 ByteArray.empty 0 [t])
  unfold Tm.av at h
  simp only [Tm.k,Tm.s,Tm.n,Tm.l] at h
  rw [Tm.rows_eq] at h
  exact h
 refine PCtr.of_R (pf:=fun _=>.still) tyOk mixed Tryz.func16 rfl (by kernel_rfl) (by kernel_rfl) (by simp [Tryz.ntmps16]) fun w S hg=>?_
 refine R_run hg.ok 1000 rfl rfl ?_
 unfold fitK
 by_cases h2:t.k=2
 ·refine R_if rfl rfl (fun h=>absurd h (by simp [h2])) (fun _=>?_) <;> refine R_run hg.ok 1000 rfl rfl ?_
  by_cases q2:k.kind=2
  ·refine R_if rfl rfl (fun h=>absurd h (by simp [q2])) (fun _=>?_) <;> refine R_run hg.ok 1000 rfl rfl ?_
   rw [if_neg (by omega)]
   refine R_weak [(2,.lo 0 0),(26,.agg [iV 0,.d (.v (.string ByteArray.empty)),iV 0,.d (.sl [Tm.row t])])] ⟨.refl _,Ent.agg ⟨.refl _,.refl _,.refl _,Ent.fs _,trivial⟩,trivial⟩ ?_
   refine R_call hg.ok (hkey) rfl rfl rfl rfl rfl rfl ?_
   refine R_run hg.ok 1000 rfl rfl ?_
   refine R_eqlV hg.ok [.int .i64 k.kind,.int .i64 k.n,.string k.s] [.int .i64 (keyT t).kind,.int .i64 (keyT t).n,.string (keyT t).s] (kyEqB k (keyT t)) rfl rfl rfl rfl (fun w=>kyEql _ _ k (keyT t) w) ?_
   refine R_run hg.ok 1000 rfl rfl ?_
   refine R_ret hg 5 rfl rfl ?_
   rfl
  refine R_if rfl rfl (fun _=>?_) (fun h=>absurd h (by simp [q2])) <;> refine R_run hg.ok 1000 rfl rfl ?_
  by_cases q3:k.kind=3
  ·refine R_if rfl rfl (fun h=>absurd h (by simp [q3])) (fun _=>?_) <;> refine R_run hg.ok 1000 rfl rfl ?_
   rw [if_neg (by omega)]
   refine R_weak [(2,.lo 0 0),(26,.agg [iV 0,.d (.v (.string ByteArray.empty)),iV 0,.d (.sl [Tm.row t])])] ⟨.refl _,Ent.agg ⟨.refl _,.refl _,.refl _,Ent.fs _,trivial⟩,trivial⟩ ?_
   refine R_call hg.ok (hkey) rfl rfl rfl rfl rfl rfl ?_
   refine R_run hg.ok 1000 rfl rfl ?_
   refine R_eqlV hg.ok [.int .i64 k.kind,.int .i64 k.n,.string k.s] [.int .i64 (keyT t).kind,.int .i64 (keyT t).n,.string (keyT t).s] (kyEqB k (keyT t)) rfl rfl rfl rfl (fun w=>kyEql _ _ k (keyT t) w) ?_
   refine R_run hg.ok 1000 rfl rfl ?_
   refine R_ret hg 5 rfl rfl ?_
   rfl
  refine R_if rfl rfl (fun _=>?_) (fun h=>absurd h (by simp [q3])) <;> refine R_run hg.ok 1000 rfl rfl ?_
  rw [if_pos (by omega)]
  refine R_ret hg 5 rfl rfl ?_
  rfl
 refine R_if rfl rfl (fun _=>?_) (fun h=>absurd h (by simp [h2])) <;> refine R_run hg.ok 1000 rfl rfl ?_
 by_cases h3:t.k=3
 ·refine R_if rfl rfl (fun h=>absurd h (by simp [h3])) (fun _=>?_) <;> refine R_run hg.ok 1000 rfl rfl ?_
  by_cases q2:k.kind=2
  ·refine R_if rfl rfl (fun h=>absurd h (by simp [q2])) (fun _=>?_) <;> refine R_run hg.ok 1000 rfl rfl ?_
   rw [if_neg (by omega)]
   refine R_weak [(2,.lo 0 0),(26,.agg [iV 0,.d (.v (.string ByteArray.empty)),iV 0,.d (.sl [Tm.row t])])] ⟨.refl _,Ent.agg ⟨.refl _,.refl _,.refl _,Ent.fs _,trivial⟩,trivial⟩ ?_
   refine R_call hg.ok (hkey) rfl rfl rfl rfl rfl rfl ?_
   refine R_run hg.ok 1000 rfl rfl ?_
   refine R_eqlV hg.ok [.int .i64 k.kind,.int .i64 k.n,.string k.s] [.int .i64 (keyT t).kind,.int .i64 (keyT t).n,.string (keyT t).s] (kyEqB k (keyT t)) rfl rfl rfl rfl (fun w=>kyEql _ _ k (keyT t) w) ?_
   refine R_run hg.ok 1000 rfl rfl ?_
   refine R_ret hg 5 rfl rfl ?_
   rfl
  refine R_if rfl rfl (fun _=>?_) (fun h=>absurd h (by simp [q2])) <;> refine R_run hg.ok 1000 rfl rfl ?_
  by_cases q3:k.kind=3
  ·refine R_if rfl rfl (fun h=>absurd h (by simp [q3])) (fun _=>?_) <;> refine R_run hg.ok 1000 rfl rfl ?_
   rw [if_neg (by omega)]
   refine R_weak [(2,.lo 0 0),(26,.agg [iV 0,.d (.v (.string ByteArray.empty)),iV 0,.d (.sl [Tm.row t])])] ⟨.refl _,Ent.agg ⟨.refl _,.refl _,.refl _,Ent.fs _,trivial⟩,trivial⟩ ?_
   refine R_call hg.ok (hkey) rfl rfl rfl rfl rfl rfl ?_
   refine R_run hg.ok 1000 rfl rfl ?_
   refine R_eqlV hg.ok [.int .i64 k.kind,.int .i64 k.n,.string k.s] [.int .i64 (keyT t).kind,.int .i64 (keyT t).n,.string (keyT t).s] (kyEqB k (keyT t)) rfl rfl rfl rfl (fun w=>kyEql _ _ k (keyT t) w) ?_
   refine R_run hg.ok 1000 rfl rfl ?_
   refine R_ret hg 5 rfl rfl ?_
   rfl
  refine R_if rfl rfl (fun _=>?_) (fun h=>absurd h (by simp [q3])) <;> refine R_run hg.ok 1000 rfl rfl ?_
  rw [if_pos (by omega)]
  refine R_ret hg 5 rfl rfl ?_
  rfl
 refine R_if rfl rfl (fun _=>?_) (fun h=>absurd h (by simp [h3])) <;> refine R_run hg.ok 1000 rfl rfl ?_
 rw [if_pos (by omega)]
 refine R_ret hg 5 rfl rfl ?_
 rfl
end Go.Proofs.YtcgkgofmldhokaaGreat

namespace Go.Proofs.YtcgkgofmldhokaaGreat
open Go PSL Go.Proofs
end Go.Proofs.YtcgkgofmldhokaaGreat

namespace Go.Proofs.YtcgkgofmldhokaaGreat
open Go PSL Go.Proofs
end Go.Proofs.YtcgkgofmldhokaaGreat

namespace Go.Proofs.YtcgkgofmldhokaaGreat
open Go PSL Go.Proofs
end Go.Proofs.YtcgkgofmldhokaaGreat

namespace Go.Proofs.YtcgkgofmldhokaaGreat
open Go PSL Go.Proofs
def sgR (l:List Sg):List (List D):=l.map fun p=>[.v (.string p.1),.v (.int .i64 p.2)]
end Go.Proofs.YtcgkgofmldhokaaGreat

namespace Go.Proofs.YtcgkgofmldhokaaGreat
open Go PSL Go.Proofs
end Go.Proofs.YtcgkgofmldhokaaGreat

namespace Go.Proofs.YtcgkgofmldhokaaGreat
open Go PSL Go.Proofs
end Go.Proofs.YtcgkgofmldhokaaGreat

namespace Go.Proofs.YtcgkgofmldhokaaGreat
open Go PSL Go.Proofs
end Go.Proofs.YtcgkgofmldhokaaGreat

namespace Go.Proofs.YtcgkgofmldhokaaGreat
open Go PSL Go.Proofs
end Go.Proofs.YtcgkgofmldhokaaGreat

namespace Go.Proofs.YtcgkgofmldhokaaGreat
open Go PSL Go.Proofs
end Go.Proofs.YtcgkgofmldhokaaGreat

namespace PSL
open Go Go.RowKit
section
variable {g:G} {pf:Nat→Cls} {ops:Array Oper}
end
section
variable {g:G} {pf:Nat→Cls} {ops:Array Oper} {Fin:Exit→Act→World→Prop}
end
end PSL
namespace PSL
open Go Go.RowKit

def DEnt (x y:D):Prop:=∀ (S:Nat→Prop) (w:World) (v:Value),Rd S w x v→Rd S w y v

def RowEnt:List D→List D→Prop
 | [],[]=>True
 | x::r,y::t=>DEnt x y∧RowEnt r t
 | _,_=>False
theorem DEnt.refl (x:D):DEnt x x:=fun _ _ _ h=>h
theorem DEnt.nil:DEnt (.v (.slice none 0 0)) (.sl []):=fun S w v h=>by cases h; exact .nil _ _

theorem RowEnt.len:∀ {r t:List D},RowEnt r t→r.length=t.length
 | [],[],_=>rfl
 | _::_,_::_,h=>by simp [RowEnt.len h.2]
 | [],_::_,h=>h.elim
 | _::_,[],h=>h.elim

theorem RowEnt.get:∀ {r t:List D} {j:Nat} {y:D},RowEnt r t→t[j]? = some y→∃ x,r[j]? = some x∧DEnt x y
 | [],[],j,y,_,hj=>by simp at hj
 | x::r,z::t,0,y,h,hj=>by
  simp only [List.getElem?_cons_zero,Option.some.injEq] at hj
  subst hj; exact ⟨x,rfl,h.1⟩
 | x::r,z::t,j+1,y,h,hj=>by
  simp only [List.getElem?_cons_succ] at hj ⊢
  exact RowEnt.get h.2 hj
 | [],_::_,_,_,h,_=>h.elim
 | _::_,[],_,_,h,_=>h.elim

theorem Ent.row1 {row row':List D} (h:RowEnt row row'):Ent (.fs [row]) (.d (.sl [row'])):=fun S w φ v hv=>by
 have hv:=Ent.fs [row] S w φ v hv
 simp only [RV] at hv ⊢
 cases hv with
 | @sl _ b o cap sz cs T fr g hS hb hl hc hsz hg hr =>
  refine .sl (sz:=sz) g hS hb hl hc (fun i r hi=>?_) (fun i r j x hi hj=>?_) (fun i r j x hi hj=>?_)
  ·cases i with
   | zero=>cases hi; rw [← h.len]; exact hsz 0 row rfl
   | succ i=>simp at hi
  ·cases i with
   | zero =>
    cases hi
    obtain ⟨x',h1,h2⟩:=h.get hj
    exact hg 0 row j x' rfl h1
   | succ i=>simp at hi
  ·cases i with
   | zero =>
    cases hi
    obtain ⟨x',h1,h2⟩:=h.get hj
    exact h2 _ _ _ (hr 0 row j x' rfl h1)
   | succ i=>simp at hi
end PSL

namespace Go.Proofs.YtcgkgofmldhokaaGreat
open Go PSL Go.Proofs
end Go.Proofs.YtcgkgofmldhokaaGreat

namespace Go.Proofs.YtcgkgofmldhokaaGreat
open Go PSL Go.Proofs
end Go.Proofs.YtcgkgofmldhokaaGreat

namespace Go.Proofs.YtcgkgofmldhokaaGreat
open Go PSL Go.Proofs
end Go.Proofs.YtcgkgofmldhokaaGreat

namespace Go.Proofs.YtcgkgofmldhokaaGreat
open Go PSL Go.Proofs
end Go.Proofs.YtcgkgofmldhokaaGreat

namespace PSL
open Go Go.RowKit

def plain2:Op→Bool
 | .call { callee:=.builtin .append,.. }=>true
 | .build .. => true
 | .buildSlice .. => true
 | o=>plainOp o

theorem plain2_sem {o:Oper} (h:plain2 o.op=true) (ro:Option Nat) (ρ:Operand→Value) (P:Program) (w:World):(∃ v w',(o.semAt ro ρ).run P w=.ok (.value v) w')∨(∃ x w',(o.semAt ro ρ).run P w=.halt x w'):=by
 have key:∀ s:Sem Value,(∃ v w',(do pure (Next.value (← s)):Sem Next).run P w=.ok (.value v) w')∨(∃ x w',(do pure (Next.value (← s)):Sem Next).run P w=.halt x w'):=fun s=>by
  rw [Sem.run_bind]
  cases s.run P w with
  | ok v w'=>exact .inl ⟨v,w',rfl⟩
  | halt x w'=>exact .inr ⟨x,w',rfl⟩
 have e:o.semAt ro ρ=execOp ρ o:=Oper.semAt_eq ro ρ o (fun c hc=>by rw [hc] at h; cases h)
 rw [e]
 unfold execOp
 cases ho:o.op <;> rw [ho] at h
 case call c =>
  obtain ⟨cal,args,ts⟩:=c
  cases cal
  case builtin b =>
   cases b <;> first
    | (cases h; done)
    | (simp only [resolve,Sem.run_bind,Sem.run_pure,Result.andThen_ok,invoke,builtin]
       first
       | (have:=key (Builtin.len_ ts o.type (args.map ρ)); simp only [Sem.run_bind] at this; exact this)
       | (have:=key (Builtin.append_ ts o.type (args.map ρ)); simp only [Sem.run_bind] at this; exact this)
       | exact key _)
  all_goals cases h
 case nilCheck x =>
  have hp:(∃ v w',(runtimePanic .nilDeref:Sem Next).run P w=.ok (.value v) w')∨(∃ x w',(runtimePanic .nilDeref:Sem Next).run P w=.halt x w'):=.inr ⟨_,_,rfl⟩
  have bind:∀ {α:Type} (s:Sem α) (k:α→Sem Next) (w:World),(∀ a w',(∃ v w2,(k a).run P w'=.ok (.value v) w2)∨(∃ x w2,(k a).run P w'=.halt x w2))→(∃ v w',(s >>= k).run P w=.ok (.value v) w')∨(∃ x w',(s >>= k).run P w=.halt x w'):=fun s k w h=>by
   rw [Sem.run_bind]
   cases s.run P w with
   | halt x w'=>exact .inr ⟨x,w',rfl⟩
   | ok a w'=>exact h a w'
  simp only
  split
  ·exact hp
  ·exact hp
  ·exact hp
  ·split
   ·exact hp
   ·refine bind _ _ _ fun a w'=>?_
    refine bind _ _ _ fun b w'=>?_
    split
    ·exact bind _ _ _ fun c w'=>.inl ⟨_,_,rfl⟩
    ·exact .inl ⟨_,_,rfl⟩
   ·exact .inl ⟨_,_,rfl⟩
  ·exact .inl ⟨_,_,rfl⟩
 all_goals first
  | (cases h; done)
  | exact key _
  | exact .inl ⟨_,_,rfl⟩
section
variable {g:G} {pf:Nat→Cls} {ops:Array Oper}

theorem any_of_drF {q:Nat} (hok:∀ (j:Nat) (o:Oper),ops[j]? = some o→(∀ e∈o.after.toList,Region.binds .any e=true→e.on<j)∧∀ (i:Nat) (x:Oper),i<j→ops[i]? = some x→conf pf ops x o=true→Reach ops i j∨j=q) {K:Env→List Ob→Prop} (hK:KC K) {Q:Exit→Act→World→Prop} (hQ:∀ E objs a w,K E objs→Sat g E objs a w→Q .normal a w) :
  ∀ (fuel:Nat) (listed:Array Bool) (R:List Nat) (E:Env) (objs:List Ob) (a:Act) (w:World),listed.size=ops.size→Cl ops listed→(∀ i,i∈R↔i<ops.size∧listed.getD i true=false)→R.Pairwise (· < ·)→R.length≤fuel→q ∉ R →
   Dr g pf ops (R.filterMap (ops[·]?)) E objs K→Sat g E objs a w→wpAnyIn g.F g.dep g.P .any ops Q fuel listed a w:=by
 intro fuel
 induction fuel with
 | zero =>
  intro listed R E objs a w hls hc hR _ hf hpq hd hs
  have:R=[]:=List.length_eq_zero_iff.1 (by omega)
  subst this
  refine ⟨?_,hQ E objs a w hd hs⟩
  apply List.eq_nil_iff_forall_not_mem.2
  intro i hi
  obtain ⟨h1,h2,_⟩:=mem_ready.1 hi
  exact absurd ((hR i).2 ⟨h1,h2⟩) (by simp)
 | succ fuel ih =>
  intro listed R E objs a w hls hc hR hp hf hpq hd hs
  refine ⟨fun hnil=>?_,fun i hi=>?_⟩
  ·cases R with
   | nil=>exact hQ E objs a w hd hs
   | cons k R' =>
    exfalso
    obtain ⟨hk1,hk2⟩:=(hR k).1 (by simp)
    have ho:ops[k]? = some ops[k]:=Array.getElem?_eq_getElem hk1
    have:k∈Region.ready .any ops listed:=by
     refine mem_ready.2 ⟨hk1,hk2,ops[k],ho,fun e he hb=>?_⟩
     have hlt:=(hok k _ ho).1 e he hb
     have hnot:e.on ∉ (k::R'):=fun hm=>by
      rcases List.mem_cons.1 hm with hm | hm
      ·omega
      ·have:=(List.pairwise_cons.1 hp).1 _ hm; omega
     have hsz:e.on<listed.size:=by omega
     have h2:¬ (listed.getD e.on true=false):=fun h2=>hnot ((hR e.on).2 ⟨by omega,h2⟩)
     simp only [Array.getD,hsz,dif_pos] at h2 ⊢
     simpa using h2
    rw [hnil] at this; cases this
  ·obtain ⟨hi1,hi2,o,ho,hdeps⟩:=mem_ready.1 hi
   obtain ⟨pre,post,rfl⟩:=List.append_of_mem ((hR i).2 ⟨hi1,hi2⟩)
   have hpre:∀ k∈pre,k<i:=fun k hk=>(List.pairwise_append.1 hp).2.2 k hk i (by simp)
   have hd':Dr g pf ops (pre.filterMap (ops[·]?)++o::post.filterMap (ops[·]?)) E objs K:=by
    have:(pre++i::post).filterMap (ops[·]?)=pre.filterMap (ops[·]?)++o::post.filterMap (ops[·]?):=by
     rw [List.filterMap_append,List.filterMap_cons,ho]
    rw [← this]; exact hd
   obtain ⟨v,objs',hloc,hrest⟩:=Dr.front hK (fun x hx=>by
    obtain ⟨k,hk,hkx⟩:=List.mem_filterMap.1 hx
    cases hcf:conf pf ops x o
    ·rfl
    ·exfalso
     have hreach:Reach ops k i:=by
      rcases (hok i o ho).2 k x (hpre k hk) hkx hcf with h | h2
      ·exact h
      ·exfalso
       exact hpq (by rw [← h2]; simp)
     have hl:=reach_listed hc hreach (fun o' ho' e he hb=>by rw [ho] at ho'; cases ho'; exact hdeps e he hb)
     obtain ⟨_,hk2⟩:=(hR k).1 (by simp [hk])
     have hsz:k<listed.size:=by have:=hpre k hk; omega
     simp only [Array.getD,hsz,dif_pos] at hl hk2
     rw [hl] at hk2; cases hk2) hd'
   have hstep:=hloc.step E objs objs' a w (fun t _=>.refl _) (.inr (.inr ⟨rfl,rfl⟩)) hs Q
   refine wpOpIn_mono (K:=fun a' w'=>Sat g (putO E o.dst v) objs' a' w') (fun a' w' hs'=>?_) (by unfold wpOpIn; rw [ho]; exact hstep)
   have hget:∀ (k:Nat) (d:Bool),(listed.setIfInBounds i true).getD k d=if k=i then true else listed.getD k d:=by
    intro k d
    simp only [Array.getD_eq_getD_getElem?,Array.getElem?_setIfInBounds]
    by_cases hki:k=i
    ·subst hki
     simp [hls,hi1]
    ·rw [if_neg (fun e=>hki e.symm),if_neg hki]
   refine ih _ (pre++post) _ objs' a' w' (by simp [hls]) ?_ ?_ ?_ ?_ ?_ ?_ hs'
   ·intro k o' hk hko e he hb
    rw [hget] at hk ⊢
    by_cases hki:k=i
    ·subst hki
     rw [ho] at hko; cases hko
     have:=hdeps e he hb
     split
     ·rfl
     ·exact this
    ·rw [if_neg hki] at hk
     have:=hc k o' hk hko e he hb
     split
     ·rfl
     ·exact this
   ·intro k
    rw [hget]
    have hk:=hR k
    have hnd:i ∉ pre++post:=by
     intro hm
     rcases List.mem_append.1 hm with hm | hm
     ·have:=hpre i hm; omega
     ·have:=(List.pairwise_cons.1 (List.pairwise_append.1 hp).2.1).1 i hm; omega
    by_cases hki:k=i
    ·subst hki
     simp only [if_true]
     exact ⟨fun h=>absurd h hnd,fun h=>by simp at h⟩
    ·simp only [hki,if_false]
     rw [← hk]
     simp [hki]
   ·obtain ⟨p1,p2,p3⟩:=List.pairwise_append.1 hp
    exact List.pairwise_append.2 ⟨p1,(List.pairwise_cons.1 p2).2,fun x hx y hy=>p3 x hx y (by simp [hy])⟩
   ·simp at hf ⊢; omega
   ·exact fun hm=>hpq (by simp only [List.mem_append,List.mem_cons] at hm ⊢; exact hm.imp id .inr)
   ·rw [List.filterMap_append]; exact hrest

theorem wpOpIn_all {F:Fence} {n:Nat} {P:Program} {Q:Exit→Act→World→Prop} {i:Nat} {o:Oper} {ι:Type} (x0:ι) (ho:ops[i]? = some o) (hp:plain2 o.op=true) {K:ι→Act→World→Prop} {a:Act} {w:World} (h:∀ x,wpOpIn F n P ops Q i (K x) a w):wpOpIn F n P ops Q i (fun a' w'=>∀ x,K x a' w') a w:=by
 have h0:=h x0
 unfold wpOpIn at *
 rw [ho] at h0 ⊢
 have h:∀ x,_:=fun x=>by have:=h x; rw [ho] at this; exact this
 simp only at h h0 ⊢
 split
 ·rename_i hw
  rw [if_pos hw] at h0
  have h:∀ x,_:=fun x=>by have:=h x; rw [if_pos hw] at this; exact this
  unfold Oper.wpIn at *
  refine ⟨h0.1,?_⟩
  have h0:=h0.2
  have h:∀ x,_:=fun x=>(h x).2
  rcases plain2_sem hp F.round a.eval P w with ⟨v,w',e⟩ | ⟨x,w',e⟩
  ·rw [e] at h0 ⊢
   intro x
   have:=h x
   rw [e] at this; exact this
  ·rw [e] at h0 ⊢
   cases x <;> exact h0
 ·rename_i hw
  rw [if_neg hw] at h0
  refine ⟨h0.1,fun x=>?_⟩
  have:=h x
  rw [if_neg hw] at this; exact this.2
end
end PSL
namespace PSL
open Go Go.RowKit
section
variable {g:G} {pf:Nat→Cls} {ops:Array Oper}

def FltB (pf:Nat→Cls) (ops:Array Oper) (oq:Oper) (B:List Nat):Prop:=B=[]∨∃ b B' y,B=b::B'∧ops[b]? = some y∧conf pf ops y oq=true

def ncB (pf:Nat→Cls) (ops:Array Oper) (oq:Oper) (k:Nat):Bool:=match ops[k]? with
 | some y=>!conf pf ops y oq
 | none=>true

theorem mem_tw {α:Type} {p:α→Bool}:∀ {l:List α} {x:α},x∈l.takeWhile p→p x=true
 | y::l,x,h=>by
  rw [List.takeWhile_cons] at h
  split at h
  ·rcases List.mem_cons.1 h with rfl | h
   ·assumption
   ·exact mem_tw h
  ·cases h

theorem any_of_flt {q:Nat} {oq:Oper} (hoq:ops[q]? = some oq) (hok:∀ (j:Nat) (o:Oper),ops[j]? = some o→(∀ e∈o.after.toList,Region.binds .any e=true→e.on<j)∧(∀ (i:Nat) (x:Oper),i<j→ops[i]? = some x→conf pf ops x o=true→Reach ops i j∨j=q)∧(q<j→Reach ops q j))
  (hps:∀ (i j:Nat) (x y:Oper),i<j→j<q→ops[i]? = some x→ops[j]? = some y→conf pf ops x oq=true→conf pf ops oq y=true→Reach ops i j)
  {K:Env→List Ob→Prop} (hK:KC K) {Q:Exit→Act→World→Prop} (hQ:∀ E objs a w,K E objs→Sat g E objs a w→Q .normal a w) (post:List Nat) :
  ∀ (fuel:Nat) (listed:Array Bool) (R:List Nat) (a:Act) (w:World),(∀ i∈R,∀ o,ops[i]? = some o→plain2 o.op=true)→listed.size=ops.size→Cl ops listed→(∀ i,i∈R++q::post↔i<ops.size∧listed.getD i true=false)→(R++q::post).Pairwise (· < ·)→(R++q::post).length≤fuel →
   (∀ A B:List Nat,R=A++B→FltB pf ops oq B→∃ E objs,Dr g pf ops (A.filterMap (ops[·]?)++oq::(B++post).filterMap (ops[·]?)) E objs K∧Sat g E objs a w)→wpAnyIn g.F g.dep g.P .any ops Q fuel listed a w:=by
 intro fuel
 induction fuel with
 | zero=>intro listed R a w _ _ _ _ _ hf _; simp at hf
 | succ fuel ih =>
  intro listed R a w hpl hls hc hR hp hf hd
  obtain ⟨pp1,pp2,pp3⟩:=List.pairwise_append.1 hp
  have hRq:∀ k∈R,k<q:=fun k hk=>pp3 k hk q (by simp)
  have hpost:∀ k∈post,q<k:=fun k hk=>(List.pairwise_cons.1 pp2).1 k hk
  have unl:∀ k,k∈R++q::post→listed.getD k false=false:=fun k hk=>by
   obtain ⟨h1,h2⟩:=(hR k).1 hk
   have hsz:k<listed.size:=by omega
   simp only [Array.getD,hsz,dif_pos] at h2 ⊢
   exact h2
  refine ⟨fun hnil=>?_,fun i hi=>?_⟩
  ·exfalso
   obtain ⟨k,R',hkR⟩:∃ k R',R++q::post=k::R':=by
    cases R with
    | nil=>exact ⟨q,_,rfl⟩
    | cons k r=>exact ⟨k,_,rfl⟩
   rw [hkR] at hR hp
   obtain ⟨hk1,hk2⟩:=(hR k).1 (by simp)
   have ho:ops[k]? = some ops[k]:=Array.getElem?_eq_getElem hk1
   have:k∈Region.ready .any ops listed:=by
    refine mem_ready.2 ⟨hk1,hk2,ops[k],ho,fun e he hb=>?_⟩
    have hlt:=(hok k _ ho).1 e he hb
    have hnot:e.on ∉ (k::R'):=fun hm=>by
     rcases List.mem_cons.1 hm with hm | hm
     ·omega
     ·have:=(List.pairwise_cons.1 hp).1 _ hm; omega
    have hsz:e.on<listed.size:=by omega
    have h2:¬ (listed.getD e.on true=false):=fun h2=>hnot ((hR e.on).2 ⟨by omega,h2⟩)
    simp only [Array.getD,hsz,dif_pos] at h2 ⊢
    simpa using h2
   rw [hnil] at this; cases this
  ·obtain ⟨hi1,hi2,o,ho,hdeps⟩:=mem_ready.1 hi
   have hreachF:∀ k,k∈R++q::post→Reach ops k i→False:=fun k hk hr=>by
    have hl:=reach_listed hc hr (fun o' ho' e he hb=>by rw [ho] at ho'; cases ho'; exact hdeps e he hb)
    rw [unl k hk] at hl; cases hl
   have hmem:=(hR i).2 ⟨hi1,hi2⟩
   rcases List.mem_append.1 hmem with hmem | hmem
   ·obtain ⟨RA,RB,rfl⟩:=List.append_of_mem hmem
    have hiq:i<q:=hRq i hmem
    have hRA:∀ k∈RA,k<i:=fun k hk=>(List.pairwise_append.1 pp1).2.2 k hk i (by simp)
    have hcf:∀ k x,k∈RA→ops[k]? = some x→conf pf ops x o=false:=fun k x hk hkx=>by
     cases hc1:conf pf ops x o
     ·rfl
     ·exfalso
      rcases (hok i o ho).2.1 k x (hRA k hk) hkx hc1 with h | h
      ·exact hreachF k (by simp [hk]) h
      ·omega
    have hfm:∀ {A:List Nat},(∀ k∈A,k∈RA)→∀ x∈A.filterMap (ops[·]?),conf pf ops x o=false:=fun hA x hx=>by
     obtain ⟨k,hk,hkx⟩:=List.mem_filterMap.1 hx
     exact hcf k x (hA k hk) hkx
    have H:∀ x:{p:List Nat × List Nat // RA++RB=p.1++p.2∧FltB pf ops oq p.2},∃ E1 o1,Dr g pf ops (x.1.1.filterMap (ops[·]?)++oq::(x.1.2++post).filterMap (ops[·]?)) E1 o1 K∧wpOpIn g.F g.dep g.P ops Q i (fun a' w'=>Sat g E1 o1 a' w') a w:=by
     rintro ⟨⟨A,B⟩,hab,hB⟩
     have one:∀ (a':List Nat),A=RA++a'→RB=a'++B→∃ E1 o1,Dr g pf ops (A.filterMap (ops[·]?)++oq::(B++post).filterMap (ops[·]?)) E1 o1 K∧wpOpIn g.F g.dep g.P ops Q i (fun a' w'=>Sat g E1 o1 a' w') a w:=fun a' h1 h2=>by
      obtain ⟨E,objs,hdr,hs⟩:=hd (RA++i::a') B (by rw [h2]; simp) hB
      rw [List.filterMap_append,List.filterMap_cons,ho,List.append_assoc] at hdr
      obtain ⟨v,objs',hloc,hrest⟩:=Dr.front hK (hfm fun k hk=>hk) hdr
      refine ⟨_,objs',by rw [h1,List.filterMap_append,List.append_assoc]; exact hrest,?_⟩
      unfold wpOpIn; rw [ho]
      exact hloc.step E objs objs' a w (fun t _=>.refl _) (.inr (.inr ⟨rfl,rfl⟩)) hs Q
     rcases List.append_eq_append_iff.1 hab with ⟨a',h1,h2⟩ | ⟨c',h1,h2⟩
     ·exact one a' h1 h2
     ·cases c' with
      | nil=>exact one [] (by simpa using h1.symm) (by simpa using h2.symm)
      | cons b c' =>
       simp only at h2 hB
       have hB2:FltB pf ops oq ((b::c')++i::RB):=by
        rcases hB with h | ⟨b2,B',y,h3,h4,h5⟩
        ·rw [h2] at h; cases h
        ·rw [h2] at h3; cases h3
         exact .inr ⟨b,_,y,rfl,h4,h5⟩
       obtain ⟨E,objs,hdr,hs⟩:=hd A ((b::c')++i::RB) (by rw [h1]; simp) hB2
       have e:A.filterMap (ops[·]?)++oq::((b::c')++i::RB++post).filterMap (ops[·]?)=(A.filterMap (ops[·]?)++oq::(b::c').filterMap (ops[·]?))++o::(RB++post).filterMap (ops[·]?):=by
        rw [List.append_assoc,List.filterMap_append,List.cons_append,List.filterMap_cons (a:=i),ho]; simp
       rw [e] at hdr
       obtain ⟨v,objs',hloc,hrest⟩:=Dr.front hK (fun x hx=>by
        rcases List.mem_append.1 hx with hx | hx
        ·exact hfm (fun k hk=>by rw [h1]; simp [hk]) x hx
        ·rcases List.mem_cons.1 hx with rfl | hx
         ·cases hc1:conf pf ops x o
          ·rfl
          ·exfalso
           rcases hB2 with h | ⟨b2,B',y,h3,h4,h5⟩
           ·cases h
           ·cases h3
            exact hreachF b (by rw [h1]; simp) (hps b i y o (hRA b (by rw [h1]; simp)) hiq h4 ho h5 hc1)
         ·exact hfm (fun k hk=>by rw [h1]; exact List.mem_append.2 (.inr hk)) x hx) hdr
       refine ⟨_,objs',by
        show Dr g pf ops (A.filterMap (ops[·]?)++oq::(B++post).filterMap (ops[·]?)) _ _ K
        rw [h2,List.append_assoc,List.filterMap_append]
        rw [List.append_assoc,List.cons_append] at hrest; exact hrest,?_⟩
       unfold wpOpIn; rw [ho]
       exact hloc.step E objs objs' a w (fun t _=>.refl _) (.inr (.inr ⟨rfl,rfl⟩)) hs Q
    have hall:=wpOpIn_all (F:=g.F) (n:=g.dep) (P:=g.P) (Q:=Q) (⟨(RA++RB,[]),by simp,.inl rfl⟩:{p:List Nat × List Nat // RA++RB=p.1++p.2∧FltB pf ops oq p.2}) ho (hpl i (by simp) o ho) (K:=fun x a' w'=>Sat g (H x).choose (H x).choose_spec.choose a' w') (fun x=>(H x).choose_spec.choose_spec.2)
    refine wpOpIn_mono (fun a' w' hs'=>?_) hall
    have hds:=draw_step (pre:=RA) (post:=RB++q::post) hls hc (by intro k; rw [← hR k]; simp) (by simpa using hp) hi1 ho hdeps
    refine ih _ (RA++RB) a' w' (fun j hj o' ho'=>hpl j (by simp only [List.mem_append,List.mem_cons] at hj ⊢; exact hj.imp id .inr) o' ho') hds.1 hds.2.1 (by intro k; rw [← hds.2.2.1 k]; simp) (by simpa using hds.2.2.2) (by simp at hf ⊢; omega) fun A B hab hB=>?_
    exact ⟨_,_,(H ⟨(A,B),hab,hB⟩).choose_spec.choose_spec.1,hs' ⟨(A,B),hab,hB⟩⟩
   ·rcases List.mem_cons.1 hmem with hiq | hmem
    ·subst hiq
     rw [hoq] at ho; cases ho
     have hAB:R=R.takeWhile (ncB pf ops oq)++R.dropWhile (ncB pf ops oq):=List.takeWhile_append_dropWhile.symm
     have hB:FltB pf ops oq (R.dropWhile (ncB pf ops oq)):=by
      cases hdw:R.dropWhile (ncB pf ops oq) with
      | nil=>exact .inl rfl
      | cons b B' =>
       right
       have hb:ncB pf ops oq b=false:=by
        have:=List.head_dropWhile_not (ncB pf ops oq) (show R.dropWhile (ncB pf ops oq)≠[] by rw [hdw]; simp)
        simpa [hdw] using this
       unfold ncB at hb
       cases hob:ops[b]? with
       | none=>rw [hob] at hb; cases hb
       | some y=>rw [hob] at hb; exact ⟨b,B',y,rfl,hob,by simpa using hb⟩
     obtain ⟨E,objs,hdr,hs⟩:=hd _ _ hAB hB
     obtain ⟨v,objs',hloc,hrest⟩:=Dr.front hK (fun x hx=>by
      obtain ⟨k,hk,hkx⟩:=List.mem_filterMap.1 hx
      have:=mem_tw hk
      unfold ncB at this
      rw [hkx] at this; simpa using this) hdr
     have hstep:=hloc.step E objs objs' a w (fun t _=>.refl _) (.inr (.inr ⟨rfl,rfl⟩)) hs Q
     refine wpOpIn_mono (K:=fun a' w'=>Sat g (putO E oq.dst v) objs' a' w') (fun a' w' hs'=>?_) (by unfold wpOpIn; rw [hoq]; exact hstep)
     have hds:=draw_step (pre:=R) (post:=post) hls hc hR hp hi1 hoq hdeps
     have e:(R++post).filterMap (ops[·]?)=(R.takeWhile (ncB pf ops oq)).filterMap (ops[·]?)++(R.dropWhile (ncB pf ops oq)++post).filterMap (ops[·]?):=by rw [← List.filterMap_append,← List.append_assoc,← hAB]
     refine any_of_drF (fun j o ho=>⟨(hok j o ho).1,(hok j o ho).2.1⟩) hK hQ fuel _ (R++post) _ objs' a' w' hds.1 hds.2.1 hds.2.2.1 hds.2.2.2 (by simp at hf ⊢; omega) (fun h=>?_) (by rw [e]; exact hrest) hs'
     rcases List.mem_append.1 h with h | h
     ·have:=hRq _ h; omega
     ·have:=hpost _ h; omega
    ·exact (hreachF q (by simp) ((hok i o ho).2.2 (hpost i hmem))).elim
end
end PSL
namespace PSL
open Go Go.RowKit
section
variable {g:G} {pf:Nat→Cls} {ops:Array Oper}

def ordGoF (q:Nat) (oq:Oper) (pf:Nat→Cls) (ops:Array Oper):List Oper→List Nat→List Oper→Bool
 | _,_,[]=>true
 | prev,acc,o::r =>
  (o.after.toList.all fun e=>!Region.binds .any e || Nat.blt e.on (len prev)) &&
  (prev.zipIdx.all fun x=>!conf pf ops x.1 o || (maskOf acc o).testBit x.2 || Nat.beq (len prev) q) &&
  (Nat.ble (len prev) q || (maskOf acc o).testBit q) &&
  (prev.zipIdx.all fun x=>!conf pf ops x.1 oq || !conf pf ops oq o || (maskOf acc o).testBit x.2 || Nat.ble q (len prev)) &&
  ordGoF q oq pf ops (prev++[o]) (acc++[maskOf acc o]) r

theorem ordGoF_spec {q:Nat} {oq:Oper}:∀ (rest prev:List Oper) (acc:List Nat),ops.toList=prev++rest→acc.length=prev.length→(∀ j i m,acc[j]? = some m→m.testBit i=true→Reach ops i j)→ordGoF q oq pf ops prev acc rest=true →
  ∀ (j:Nat) (o:Oper),prev.length≤j→ops[j]? = some o→(∀ e∈o.after.toList,Region.binds .any e=true→e.on<j)∧(∀ (i:Nat) (x:Oper),i<j→ops[i]? = some x→conf pf ops x o=true→Reach ops i j∨j=q)∧(q<j→Reach ops q j)∧(∀ (i:Nat) (x:Oper),i<j→j<q→ops[i]? = some x→conf pf ops x oq=true→conf pf ops oq o=true→Reach ops i j)
 | [],prev,acc,h,_,_,_,j,o,hj,ho=>by
  have:j<ops.size:=(Array.getElem?_eq_some_iff.1 ho).1
  have:ops.size=prev.length:=by rw [← Array.length_toList,h]; simp
  omega
 | o'::r,prev,acc,h,hl,hr,hg,j,o,hj,ho=>by
  simp only [ordGoF,Bool.and_eq_true] at hg
  obtain ⟨⟨⟨⟨h1,h2⟩,h4⟩,h5⟩,h3⟩:=hg
  have hcur:ops[prev.length]? = some o':=by rw [← Array.getElem?_toList,h]; simp
  have hm:∀ i,(maskOf acc o').testBit i=true→Reach ops i prev.length:=fun i hi=>by
   obtain ⟨e,e1,e2,e3⟩:=maskOf_bit hi
   rcases e3 with e3 | ⟨m,e3,e4⟩
   ·exact .one hcur e1 e2 e3
   ·exact .step hcur e1 e2 rfl (hr _ _ _ e3 e4)
  rcases Nat.eq_or_lt_of_le hj with hj | hj
  ·subst hj
   rw [hcur] at ho; cases ho
   have hmem:∀ (i:Nat) (x:Oper),i<prev.length→ops[i]? = some x→(x,i)∈prev.zipIdx:=fun i x hi hx=>by
    rw [List.mem_zipIdx_iff_getElem?]
    rw [← Array.getElem?_toList,h,List.getElem?_append_left hi] at hx
    exact hx
   refine ⟨fun e he hbd=>?_,fun i x hi hx hc=>?_,fun hq=>?_,fun i x hi hq hx hc1 hc2=>?_⟩
   ·have:=List.all_eq_true.1 h1 e he
    rw [len_eq] at this
    simpa [Nat.blt_eq,hbd] using this
   ·have:=List.all_eq_true.1 h2 _ (hmem i x hi hx)
    simp only [hc,Bool.not_true,Bool.false_or,Bool.or_eq_true] at this
    rcases this with this | g2
    ·exact .inl (hm i this)
    ·rw [len_eq] at g2; exact .inr (natBeq g2)
   ·simp only [Bool.or_eq_true,len_eq,Nat.ble_eq] at h4
    rcases h4 with h4 | h4
    ·omega
    ·exact hm _ h4
   ·have:=List.all_eq_true.1 h5 _ (hmem i x hi hx)
    simp only [hc1,hc2,Bool.not_true,Bool.false_or,Bool.or_eq_true,len_eq,Nat.ble_eq] at this
    rcases this with this | this
    ·exact hm i this
    ·omega
  ·refine ordGoF_spec r (prev++[o']) (acc++[maskOf acc o']) (by rw [h]; simp) (by simp [hl]) (fun j i m hj hi=>?_) h3 j o (by simp; omega) ho
   rcases Nat.lt_or_ge j acc.length with hlt | hge
   ·rw [List.getElem?_append_left hlt] at hj; exact hr j i m hj hi
   ·rw [List.getElem?_append_right hge] at hj
    have:j - acc.length=0:=by
     rcases Nat.eq_zero_or_pos (j - acc.length) with h | h
     ·exact h
     ·rw [List.getElem?_eq_none (by simp; omega)] at hj; cases hj
    rw [this] at hj; simp at hj; subst hj
    have:j=prev.length:=by omega
    subst this
    exact hm i hi
end
end PSL
namespace PSL
open Go Go.RowKit
section
variable {g:G} {pf:Nat→Cls} {ops:Array Oper}

def fltL (m q:Nat) (oq:Oper) (l:List Oper):List Oper:=l.take m++oq::((l.drop m).take (q - m)++l.drop (q+1))

theorem wp_flt (hg:GOk g) {q:Nat} {oq:Oper} (hoq:ops[q]? = some oq) (hok:ordGoF q oq pf ops [] [] ops.toList=true) {K:Env→List Ob→Prop} (hK:KC K) {Q:Exit→Act→World→Prop} (hQ:∀ E objs a w,K E objs→Sat g E objs a w→Q .normal a w)
  {E:Env} {objs:List Ob} (hpl:((ops.toList.take q).all fun o=>plain2 o.op)=true) (hd:∀ m,m≤q→(m=q∨∃ y,ops[m]? = some y∧conf pf ops y oq=true)→Dr g pf ops (fltL m q oq ops.toList) E objs K) {a:Act} {w:World} (hs:Sat g E objs a w) (id:Nat):(Code.region id ops true).wpIn g.F g.dep g.P Q a w:=by
 refine wpIn_region_any hg.mixed ?_
 have hq:q<ops.size:=(Array.getElem?_eq_some_iff.1 hoq).1
 have hsz:ops.toList.length=ops.size:=by simp
 have hspec:=ordGoF_spec (pf:=pf) (ops:=ops) ops.toList [] [] rfl rfl (by simp) hok
 have f:∀ a n,a+n≤ops.size→(List.range' a n).filterMap (ops[·]?)=(ops.toList.drop a).take n:=fun a n h=>by
  have:=fm_range ops.toList a n (by omega)
  simpa using this
 have hrange:List.range ops.size=List.range' 0 q++q::List.range' (q+1) (ops.size - (q+1)):=by
  obtain ⟨m,hm⟩:∃ m,ops.size=q+(1+m):=⟨ops.size - (q+1),by omega⟩
  have e1:ops.size - (q+1)=m:=by omega
  rw [e1,List.range_eq_range',hm,← List.range'_append,← List.range'_append]
  simp [List.range'_succ]
 refine any_of_flt hoq (fun j o ho=>⟨(hspec j o (Nat.zero_le _) ho).1,(hspec j o (Nat.zero_le _) ho).2.1,(hspec j o (Nat.zero_le _) ho).2.2.1⟩) (fun i j x y hij hjq hx hy h1 h2=>(hspec j y (Nat.zero_le _) hy).2.2.2 i x hij hjq hx h1 h2) hK hQ (List.range' (q+1) (ops.size - (q+1))) ops.size (Array.replicate ops.size false) (List.range' 0 q) a _ ?_ (by simp) ?_ ?_ ?_ ?_ ?_
 ·intro j hj o ho
  have hj:j<q:=by have:=List.mem_range'.1 hj; omega
  exact List.all_eq_true.1 hpl o (List.mem_iff_getElem?.2 ⟨j,by rw [List.getElem?_take_of_lt hj,Array.getElem?_toList]; exact ho⟩)
 ·intro k o hk
  simp [Array.getD] at hk
 ·intro i
  rw [← hrange]
  simp only [List.mem_range,Array.getD,Array.size_replicate]
  constructor
  ·intro h; simp [h]
  ·intro h; exact h.1
 ·rw [← hrange]; exact List.pairwise_lt_range
 ·rw [← hrange]; simp
 ·intro A B hab hB
  obtain ⟨m,hm,rfl,rfl⟩:=List.range'_eq_append_iff.1 hab
  rw [Nat.mul_one] at hB ⊢
  refine ⟨E,objs,?_,hs.drew⟩
  have:=hd m hm (by
   rcases hB with h | ⟨b,B',y,h1,h2,h3⟩
   ·left
    have:=congrArg List.length h
    simp at this; omega
   ·right
    have hb:b=0+m:=by
     have:(List.range' (0+m) (q - m)).head? = some b:=by rw [h1]; rfl
     cases hqm:q - m with
     | zero=>rw [hqm] at this; simp at this
     | succ n=>rw [hqm,List.range'_succ] at this; simp at this; omega
    exact ⟨y,by rw [← h2,hb]; simp,h3⟩)
  unfold fltL at this
  rw [List.filterMap_append,f 0 m (by omega),f (0+m) (q - m) (by omega),f (q+1) _ (by omega),List.drop_zero]
  rw [List.take_of_length_le (i:=ops.size - (q+1)) (by simp)]
  simpa using this
end
end PSL
namespace PSL
open Go Go.RowKit
section
variable {g:G} {pf:Nat→Cls} {ops:Array Oper}

theorem R_float {Fin:Exit→Act→World→Prop} (hg:GOk g) (q:Nat) (oq:Oper) {id:Nat} {k:List It} {E:Env} {objs:List Ob} (hoq:ops[q]? = some oq) (hx:ordGoF q oq pf ops [] [] ops.toList=true) (hpl:((ops.toList.take q).all fun o=>plain2 o.op)=true) (h:∀ m,m≤q→(m=q∨∃ y,ops[m]? = some y∧conf pf ops y oq=true)→R g pf Fin (.dr ops (fltL m q oq ops.toList)::k) E objs):R g pf Fin (.code (.region id ops true)::k) E objs:=by
 rintro ⟨ho1,ho⟩
 intro a w hs
 simp only [KP]
 have hQ:∀ E objs a w,RK g Fin k E objs→Sat g E objs a w→KP g Fin k .normal a w:=fun _ _ a w hr hs=>hr a w hs
 exact wp_flt hg hoq hx (RK_kc k) hQ hpl (fun m h1 h2=>by have:=h m h1 h2 ho; simpa only using this) hs id
end
end PSL

namespace Go.Proofs.YtcgkgofmldhokaaGreat
open Go PSL Go.Proofs
def pfSom:Nat→Cls:=fun f=>bif Nat.beq f 28 then .look 0 else bif Nat.beq f 4900100001 then .turn 100 else bif Nat.beq f 4000000007 then .loadB else .still
def som14 (l:List Cs) (q:Cs):Bool:=somP (l++[q])&&decide ((l.length:Int)≤60)

theorem cs_six (l:List Cs):∀ r∈Cs.rows l,r.length=6:=fun r hr=>by
 unfold Cs.rows at hr
 obtain ⟨c,_,rfl⟩:=List.mem_map.1 hr; rfl

set_option maxRecDepth 100000 in
theorem refSome14_ok (l:List Cs) (q:Cs) (hok:∀ c∈l,c.Ok) (hq:q.Ok) (hb:l.length * 88≤140737488351232):PCtr Tryz.prog 8 [prV l,q.av] (bV (som14 l q)):=by
 have hcl:=Cs.rows_len l
 have hall:∀ c∈l++[q],c.Ok:=fun c hc=>by
  rcases List.mem_append.1 hc with hc | hc
  ·exact hok c hc
  ·rw [List.mem_singleton.1 hc]; exact hq
 refine PCtr.of_R (pf:=pfSom) tyOk mixed Tryz.func8 rfl (by kernel_rfl) (by kernel_rfl) (by simp [Tryz.ntmps8]) fun w S hg=>?_
 refine R_run hg.ok 1000 rfl rfl ?_
 refine R_float hg.ok 8 _ rfl (by kernel_rfl) (by kernel_rfl) ?_
 intro m hm hB
 have h3:m=3∨m=6∨m=8:=by
  rcases hB with h | ⟨y,h1,h2⟩
  ·exact .inr (.inr h)
  ·have:m=0∨m=1∨m=2∨m=3∨m=4∨m=5∨m=6∨m=7∨m=8:=by omega
   rcases this with rfl | rfl | rfl | rfl | rfl | rfl | rfl | rfl | rfl <;> first | (left; rfl) | (right; left; rfl) | (right; right; rfl) | (cases h1; exact absurd (h2.symm.trans (show _=false by kernel_rfl)) (by decide))
 clear hB hm
 rcases h3 with rfl | rfl | rfl
 ·refine R_run hg.ok 1000 rfl rfl ?_
  refine R_appendF hg.ok rfl rfl (.inl rfl) rfl (.inl rfl) rfl rfl rfl (by simp) (cs_six l) (by rw [hcl]; simp; omega) (by rw [hcl]; simp; omega) ?_
  refine R_run hg.ok 1000 rfl rfl ?_
  refine R_appendO hg.ok (Cs.rows (l++[q])) rfl rfl rfl rfl rfl rfl rfl rfl rfl (by simp) (by simp [one1]) (Cs.rows_snoc l q) (by simp [hcl]; omega) (by simp [hcl]; omega) ?_
  refine R_run hg.ok 1000 rfl rfl ?_
  refine R_callO hg.ok hg.gup (refSomeP_ok (l++[q]) hall (by simp; omega)) rfl rfl rfl rfl (mapO_cons (sealA_agg (mapO_cons (sealA_ow rfl) rfl)) rfl) rfl rfl ?_
  refine R_run hg.ok 1000 rfl rfl ?_
  unfold som14
  refine R_if rfl rfl (fun h=>?_) (fun h=>?_) <;> refine R_run hg.ok 1000 rfl rfl ?_
  ·refine R_ret hg 5 rfl rfl ?_
   rw [h,hcl]; rfl
  ·refine R_ret hg 5 rfl rfl ?_
   rw [h]; rfl
 ·refine R_run hg.ok 1000 rfl rfl ?_
  refine R_appendF hg.ok rfl rfl (.inl rfl) rfl (.inl rfl) rfl rfl rfl (by simp) (cs_six l) (by rw [hcl]; simp; omega) (by rw [hcl]; simp; omega) ?_
  refine R_run hg.ok 1000 rfl rfl ?_
  refine R_appendO hg.ok (Cs.rows (l++[q])) rfl rfl rfl rfl rfl rfl rfl rfl rfl (by simp) (by simp [one1]) (Cs.rows_snoc l q) (by simp [hcl]; omega) (by simp [hcl]; omega) ?_
  refine R_run hg.ok 1000 rfl rfl ?_
  refine R_callO hg.ok hg.gup (refSomeP_ok (l++[q]) hall (by simp; omega)) rfl rfl rfl rfl (mapO_cons (sealA_agg (mapO_cons (sealA_ow rfl) rfl)) rfl) rfl rfl ?_
  refine R_run hg.ok 1000 rfl rfl ?_
  unfold som14
  refine R_if rfl rfl (fun h=>?_) (fun h=>?_) <;> refine R_run hg.ok 1000 rfl rfl ?_
  ·refine R_ret hg 5 rfl rfl ?_
   rw [h,hcl]; rfl
  ·refine R_ret hg 5 rfl rfl ?_
   rw [h]; rfl
 ·refine R_run hg.ok 1000 rfl rfl ?_
  refine R_appendF hg.ok rfl rfl (.inl rfl) rfl (.inl rfl) rfl rfl rfl (by simp) (cs_six l) (by rw [hcl]; simp; omega) (by rw [hcl]; simp; omega) ?_
  refine R_run hg.ok 1000 rfl rfl ?_
  refine R_appendO hg.ok (Cs.rows (l++[q])) rfl rfl rfl rfl rfl rfl rfl rfl rfl (by simp) (by simp [one1]) (Cs.rows_snoc l q) (by simp [hcl]; omega) (by simp [hcl]; omega) ?_
  refine R_run hg.ok 1000 rfl rfl ?_
  refine R_callO hg.ok hg.gup (refSomeP_ok (l++[q]) hall (by simp; omega)) rfl rfl rfl rfl (mapO_cons (sealA_agg (mapO_cons (sealA_ow rfl) rfl)) rfl) rfl rfl ?_
  refine R_run hg.ok 1000 rfl rfl ?_
  unfold som14
  refine R_if rfl rfl (fun h=>?_) (fun h=>?_) <;> refine R_run hg.ok 1000 rfl rfl ?_
  ·refine R_ret hg 5 rfl rfl ?_
   rw [h,hcl]; rfl
  ·refine R_ret hg 5 rfl rfl ?_
   rw [h]; rfl
end Go.Proofs.YtcgkgofmldhokaaGreat

namespace Go.Proofs.YtcgkgofmldhokaaGreat
open Go PSL Go.Proofs

theorem som14_all {l:List Cs} {q:Cs} (h:som14 l q=true):Med (l++[q])∧l.length≤60:=by
 unfold som14 at h
 simp only [Bool.and_eq_true,decide_eq_true_eq] at h
 obtain ⟨h1,h2⟩:=h
 obtain ⟨a,b,c⟩:=somP_sm h1
 exact ⟨⟨a,b,c⟩,by omega⟩

theorem cmpOk_of {l:List Cs} {q:Cs} (hm:Med (l++[q])) (hl:l.length≤210) (hf:fairQ q l=true):CmpOk l q:=by
 have hq:=fairQ_ok hf
 obtain ⟨h1,h2,h3⟩:=(checkR_ok l).1 hq.prog
 have hs:=hm.size
 have hs1:=Cs.sizeL_sub (List.sublist_append_left l [q])
 have hs2:=Cs.size_mem (l:=l++[q]) (c:=q) (by simp)
 exact ⟨hl,by omega,by omega,fun c hc=>cls_five (h2 c hc),fun c hc=>cls_vars (h2 c hc),chkL_five _ _ _ _ _ hq.body,hq.vars0,hq.vars1⟩

theorem compileL_ok (l:List Cs) (q:Cs) (hm:Med (l++[q])) (hl:l.length≤210):PCtr Tryz.prog 10 [prV l,q.av] (if fairQ q l then .tup [(compG l q).av,iV 0] else .tup [cdZ.av,iV 1]):=by
 have hf:=modelFair_ok q l (hm.sm q (by simp)) (fun c hc=>hm.sm c (by simp [hc])) (by omega)
 cases h:fairQ q l with
 | true=>rw [h] at hf; exact compile_ok l q (cmpOk_of hm hl h) hf
 | false=>rw [h] at hf; exact compile_bad l q hf
def k15a:Bs:=[112,40,88,41,32,58,45,32,113,40,88,44,32,97,41,46,32,113,40,98,44,32,89,41,46]
def k15b:Bs:=[112,40,90,41,46]
def k15aC:List Clau:=[(fnT [58,45] [fnT [112] [Tm.vT 0],fnT [113] [Tm.vT 0,fnT [97] []]],[[88]]),(fnT [113] [fnT [98] [],Tm.vT 0],[[89]])]
def k15bC:Clau:=(fnT [112] [Tm.vT 0],[[90]])
def k15P:List Cs:=[⟨fnT [112] [Tm.vT 0],[.mk 1 (fnT [113] [Tm.vT 0,fnT [97] []]) [] [] []],1⟩,⟨fnT [113] [fnT [98] [],Tm.vT 0],[],1⟩]
theorem k15a_read:clauR rightT false k15a=some (k15aC,0,0):=by rw [rightT_fun]; kernel_rfl
theorem k15b_read:clauR rightT false k15b=some ([k15bC],0,0):=by rw [rightT_fun]; kernel_rfl
theorem k15a_load:loadL k15aC 0 []=(k15P,0,0):=by kernel_rfl

theorem k15a_ctr:PCtr Tryz.prog 29 [txA k15a] (.tup [prV k15P,iV 0,iV 0]):=by
 have h:=load_ok k15a (by decide) k15a_read (List.all_eq_true.1 (show (k15aC.all fun x=>noCh x.1)=true by kernel_rfl))
 rw [if_neg (by decide),k15a_load] at h
 exact h
theorem k15_med:Med (k15P++[qryC k15bC]):=(som14_all (l:=k15P) (q:=qryC k15bC) (by kernel_rfl)).1

theorem k15b_ctr:PCtr Tryz.prog 30 [txA k15b,prV k15P] (.tup [(qryC k15bC).av,.d (.sl (strRows k15bC.2)),iV 0,iV 0]) :=
 query_ok k15b (by decide) k15b_read (by kernel_rfl) k15P (fun c hc=>k15_med.sm c (by simp [hc])) (by decide) (by kernel_rfl) (by kernel_rfl) (by decide) (by kernel_rfl)
def k15I:List Is:=[⟨1,0,0,e0⟩,⟨6,0,0,e0⟩,⟨8,0,0,Tx [97]⟩,⟨9,0,2,Tx [113]⟩,⟨12,0,0,e0⟩,⟨4,0,0,Tx [98]⟩,⟨1,0,0,e0⟩,⟨12,0,0,e0⟩,⟨5,0,0,e0⟩,⟨6,0,0,e0⟩,⟨9,0,1,Tx [112]⟩,⟨6,0,0,e0⟩,⟨18,0,1,e0⟩]
def k15E:List En:=[⟨Tx [112],1,0,1,key0⟩,⟨Tx [113],2,5,1,⟨3,0,Tx [98]⟩⟩]
theorem k15_comp:compG k15P (qryC k15bC)=⟨k15I,k15E,8,1⟩:=by kernel_rfl

theorem k15_compile:PCtr Tryz.prog 10 [prV k15P,(qryC k15bC).av] (.tup [(Cd.mk k15I k15E 8 1).av,iV 0]):=by
 have h:=compileL_ok k15P (qryC k15bC) k15_med (by decide)
 rw [show fairQ (qryC k15bC) k15P=true by kernel_rfl,k15_comp] at h
 exact h

set_option maxRecDepth 100000 in
theorem knows15_ok:PCtr Tryz.prog 9 [] (bV true):=by
 refine PCtr.of_R (pf:=fun _=>.still) tyOk mixed Tryz.func9 rfl (by kernel_rfl) (by kernel_rfl) (by simp [Tryz.ntmps9]) fun w S hg=>?_
 refine R_run hg.ok 1000 rfl rfl ?_
 refine R_call hg.ok (k15a_ctr) rfl rfl rfl rfl rfl rfl ?_
 refine R_run hg.ok 1000 rfl rfl ?_
 refine R_call hg.ok (k15b_ctr) rfl rfl rfl rfl rfl rfl ?_
 refine R_run hg.ok 1000 rfl rfl ?_
 refine R_call hg.ok (k15_compile) rfl rfl rfl rfl rfl rfl ?_
 refine R_run hg.ok 1000 rfl rfl ?_
 repeat
  first
  | (refine R_if rfl rfl (fun h=>absurd h (by decide +kernel)) (fun _=>?_); refine R_run hg.ok 1000 rfl rfl ?_)
  | (refine R_if rfl rfl (fun _=>?_) (fun h=>absurd h (by decide +kernel)); refine R_run hg.ok 1000 rfl rfl ?_)
  | (refine R_index hg.ok rfl rfl rfl rfl rfl rfl (by decide) rfl rfl ?_; refine R_run hg.ok 1000 rfl rfl ?_)
 refine R_eqlV hg.ok [.int .i64 1,.int .i64 0,.int .i64 0,.string e0] [.int .i64 1,.int .i64 0,.int .i64 0,.string e0] true rfl rfl rfl rfl (fun w=>by rw [← show isEqB (Is.mk 1 0 0 e0) (Is.mk 1 0 0 e0)=true by decide +kernel]; exact isEql _ _ (Is.mk 1 0 0 e0) (Is.mk 1 0 0 e0) w) ?_
 refine R_run hg.ok 1000 rfl rfl ?_
 repeat
  first
  | (refine R_if rfl rfl (fun _=>?_) (fun h=>absurd h (by decide +kernel)); refine R_run hg.ok 1000 rfl rfl ?_)
  | (refine R_index hg.ok rfl rfl rfl rfl rfl rfl (by decide) rfl rfl ?_; refine R_run hg.ok 1000 rfl rfl ?_)
 refine R_eqlV hg.ok [.int .i64 8,.int .i64 0,.int .i64 0,.string (Tx [97])] [.int .i64 8,.int .i64 0,.int .i64 0,.string ⟨#[97]⟩] true rfl rfl rfl rfl (fun w=>by rw [← show isEqB (Is.mk 8 0 0 (Tx [97])) (Is.mk 8 0 0 ⟨#[97]⟩)=true by decide +kernel]; exact isEql _ _ (Is.mk 8 0 0 (Tx [97])) (Is.mk 8 0 0 ⟨#[97]⟩) w) ?_
 refine R_run hg.ok 1000 rfl rfl ?_
 repeat
  first
  | (refine R_if rfl rfl (fun _=>?_) (fun h=>absurd h (by decide +kernel)); refine R_run hg.ok 1000 rfl rfl ?_)
  | (refine R_index hg.ok rfl rfl rfl rfl rfl rfl (by decide) rfl rfl ?_; refine R_run hg.ok 1000 rfl rfl ?_)
 refine R_eqlV hg.ok [.int .i64 9,.int .i64 0,.int .i64 2,.string (Tx [113])] [.int .i64 9,.int .i64 0,.int .i64 2,.string ⟨#[113]⟩] true rfl rfl rfl rfl (fun w=>by rw [← show isEqB (Is.mk 9 0 2 (Tx [113])) (Is.mk 9 0 2 ⟨#[113]⟩)=true by decide +kernel]; exact isEql _ _ (Is.mk 9 0 2 (Tx [113])) (Is.mk 9 0 2 ⟨#[113]⟩) w) ?_
 refine R_run hg.ok 1000 rfl rfl ?_
 repeat
  first
  | (refine R_if rfl rfl (fun _=>?_) (fun h=>absurd h (by decide +kernel)); refine R_run hg.ok 1000 rfl rfl ?_)
  | (refine R_index hg.ok rfl rfl rfl rfl rfl rfl (by decide) rfl rfl ?_; refine R_run hg.ok 1000 rfl rfl ?_)
 refine R_eqlV hg.ok [.int .i64 3,.int .i64 0,.string (Tx [98])] [.int .i64 3,.int .i64 0,.string ⟨#[98]⟩] true rfl rfl rfl rfl (fun w=>by rw [← show kyEqB (Ky.mk 3 0 (Tx [98])) (Ky.mk 3 0 ⟨#[98]⟩)=true by decide +kernel]; exact kyEql _ _ (Ky.mk 3 0 (Tx [98])) (Ky.mk 3 0 ⟨#[98]⟩) w) ?_
 refine R_run hg.ok 1000 rfl rfl ?_
 repeat
  first
  | (refine R_if rfl rfl (fun _=>?_) (fun h=>absurd h (by decide +kernel)); refine R_run hg.ok 1000 rfl rfl ?_)
 refine R_split 94 (b:=true) rfl (fun _=>?_) (fun h=>absurd h (by decide))
 refine R_run hg.ok 1000 rfl rfl ?_
 refine R_ret hg 5 rfl rfl ?_
 rfl
end Go.Proofs.YtcgkgofmldhokaaGreat

namespace PSL
open Go Go.RowKit Go.MapKept
section
variable {g:G} {pf:Nat→Cls} {ops:Array Oper} {Fin:Exit→Act→World→Prop}
end
end PSL

namespace Go.Proofs.YtcgkgofmldhokaaGreat
open Go PSL Go.Proofs
end Go.Proofs.YtcgkgofmldhokaaGreat

namespace PSL
open Go
section
variable {ty:Nat→Option Ty} {T TT TG TS B:Nat} {n:Nat} {τ:Ty} {row:List D} {a:AV}

theorem arg_progB {TC TP s:Nat} {τs τc:Ty} (hT:IsTerm ty TT) (hG:IsGoal ty TG TT) (hC:IsClause ty TC TT TG) (hB:B≤140737488355328) (hτ:ty TP=some τ) (hsh:τ.sh=.struct [(0,s)]) (hs:ty s=some τs) (hss:τs.sh=.slice TC) (hc:ty TC=some τc) (h:HasTy ty B n TP row) (ha:a=avOf τ row):∃ l:List Cs,a=prV l∧(∀ x∈l,x.Ok)∧l.length≤140737488355328∧l.length * τc.bytes≤B:=by
 obtain ⟨l,h1,h2,h3⟩:=arg_prog hT hG hC hB hτ hsh hs hss h ha
 refine ⟨l,h1,h2,h3,?_⟩
 cases n with
 | zero=>simp [HasTy] at h
 | succ n =>
  simp only [HasTy,hτ,hsh,HasFs] at h
  obtain ⟨_,ra,_,g1,rfl,g2,g3,rfl⟩:=h
  rw [hs] at g1; cases g1
  cases n with
  | zero=>simp [HasTy] at g3
  | succ n =>
   obtain ⟨rows,rfl,hlen,_⟩:=has_slice hs hss g3
   have hb:=hlen τc hc
   have e:a=.agg [.d (.sl rows)]:=by rw [ha]; unfold avOf Ty.agg; rw [hsh]; rfl
   rw [h1] at e
   unfold prV at e
   simp only [AV.agg.injEq,List.cons.injEq,AV.d.injEq,D.sl.injEq,and_true] at e
   rw [← e,Cs.rows_len] at hb
   exact hb
end
end PSL

namespace Go.Proofs.YtcgkgofmldhokaaGreat
open Go PSL Go.Proofs
end Go.Proofs.YtcgkgofmldhokaaGreat

namespace Go.Proofs.YtcgkgofmldhokaaGreat
open Go PSL Go.Proofs

theorem part_ok (l:List Cs) (q:Cs) (k:Nat) (c:Cs) (h:l[k]? = some c):∃ pre post:List Is,(compG l q).ins=pre++clsC c pre.length++post∧pre=codeL (l.take k) []∧(compG l q).ents[k]? = some (entG c pre.length)∧(∀ d,l[k+1]? = some d→(compG l q).ents[k+1]? = some (entG d (pre.length+(clsC c pre.length).length)))∧(l[k+1]? = none→(compG l q).at_=((pre.length+(clsC c pre.length).length:Nat):Int)):=by
 have hkl:=(List.getElem?_eq_some_iff.1 h).1
 have e1:=codeL_take h []
 have hent:∀ (j:Nat) (x:Cs),l[j]? = some x→(entL l 0)[j]? = some (entG x (codeL (l.take j) []).length):=fun j x hx=>by
  have hs:=entL_take hx
  have hj:=(List.getElem?_eq_some_iff.1 hx).1
  have hp:entL l 0=entL (l.take (j+1)) 0++entL (l.drop (j+1)) (codeL (l.take (j+1)) []).length:=by
   have:=entL_app (l.take (j+1)) (l.drop (j+1)) []
   rw [List.take_append_drop] at this
   exact this
  rw [hp,hs,List.append_assoc,List.getElem?_append_right (by rw [entL_len,List.length_take]; omega),entL_len,List.length_take,Nat.min_eq_left (by omega),Nat.sub_self]; rfl
 have hcode:codeL l []=codeL (l.drop (k+1)) (codeL (l.take (k+1)) []):=by rw [← codeL_app,List.take_append_drop]
 have hext:∀ (m:List Cs) (out:List Is),∃ t,codeL m out=out++t:=by
  intro m
  induction m with
  | nil=>exact fun out=>⟨[],by simp [codeL]⟩
  | cons x r ih =>
   intro out
   obtain ⟨t,ht⟩:=ih (out++clsC x out.length)
   exact ⟨clsC x out.length++t,by simp only [codeL]; rw [ht,List.append_assoc]⟩
 obtain ⟨t,ht⟩:=hext (l.drop (k+1)) (codeL (l.take (k+1)) [])
 refine ⟨codeL (l.take k) [],t++qryE q (codeL l []).length,?_,rfl,hent k c h,fun d hd=>?_,fun hn=>?_⟩
 ·show codeL l []++qryE q (codeL l []).length=_
  rw [hcode,ht,e1]
  simp only [List.append_assoc]
 ·have:=hent (k+1) d hd
  rw [e1,List.length_append] at this
  exact this
 ·have hd:l.drop (k+1)=[]:=List.drop_eq_nil_of_le (by have:=List.getElem?_eq_none_iff.1 hn; omega)
  show ((codeL l []).length:Int)=_
  rw [hcode,hd]
  simp only [codeL]
  rw [e1,List.length_append]
end Go.Proofs.YtcgkgofmldhokaaGreat

namespace Go.Proofs.YtcgkgofmldhokaaGreat
open Go PSL Go.Proofs
def zbT:Ob:=.box [iV 0,.d (.v (.string ByteArray.empty)),iV 0,.d (.v (.slice none 0 0))]

set_option maxRecDepth 100000 in
theorem turned14_ok (d:Int) (t:Tm):t.size≤100000000→PCtr Tryz.prog 50 [t.av,iV d] (Tm.turnT (shF d) t).av:=by
 induction t using Tm.ind with
 | _ t ih =>
 intro hc
 have hs:=Tm.size_eq t
 have hl:=Tm.len_le_sizeL t.l
 obtain ⟨n',hn'⟩:∃ n',n'=if t.k=1 then shF d t.n else t.n:=⟨_,rfl⟩
 rw [Tm.turnT_eq,← hn']
 refine PCtr.of_R (pf:=pfB) tyOk mixed Tryz.func50 rfl (by kernel_rfl) (by kernel_rfl) (by simp [Tryz.ntmps50]) fun w S hg=>?_
 refine R_run hg.ok 1000 rfl rfl ?_
 refine R_cut1 (fun _:Unit=>([(1,iV d),(2,.lo 0 0),(4,.lo 1 0),(5,.lo 2 0)],[boxR t,zbT,.box [iV t.k,.d (.v (.string t.s)),iV n',.d (.v (.slice none 0 0))]])) (fun _=>True) rfl ?_ ?_
 ·by_cases h1:t.k=1
  ·rw [if_pos h1] at hn'
   refine R_if rfl rfl (fun _=>?_) (fun h=>absurd h (by simp [h1])) <;> refine R_run hg.ok 1000 rfl rfl ?_
   rw [show IntKind.i64.wrap (t.n+d)=n' from hn'.symm]
   exact R_to () trivial ⟨.refl _,.refl _,.refl _,.refl _,trivial⟩ rfl
  ·rw [if_neg h1] at hn'
   refine R_if rfl rfl (fun h=>absurd h (by simp [h1])) (fun _=>?_) <;> refine R_run hg.ok 1000 rfl rfl ?_
   subst hn'
   exact R_to () trivial ⟨.refl _,.refl _,.refl _,.refl _,trivial⟩ rfl
 rintro _ _
 refine R_run hg.ok 1000 rfl rfl ?_
 refine R_ownB 2 3 4 rfl rfl rfl ?_
 refine R_loop (fun k:Nat=>([(1,iV d),(2,.lo 0 0),(4,.lo 1 0),(5,.lo 2 0),(6,iV k)],[boxR t,zbT,.box [iV t.k,.d (.v (.string t.s)),iV n',.ow 3 k],.arr 4 k (Tm.rows (Tm.turnTL (shF d) (t.l.take k)))])) (fun k=>k≤t.l.length) (fun k=>t.l.length - k) 0 (Nat.zero_le _) ⟨.refl _,.refl _,.refl _,.refl _,.refl _,trivial⟩ rfl ?_
 rintro k hk
 refine R_run hg.ok 1000 rfl rfl ?_
 refine R_if rfl rfl (fun h=>?_) (fun h=>?_) <;> refine R_run hg.ok 1000 rfl rfl ?_
 ·have hk1:k<t.l.length:=lt_dec h (by rw [Tm.rows_length])
  have e1:t.l[k]? = some t.l[k]:=List.getElem?_eq_getElem hk1
  have hm:=List.getElem_mem hk1
  have hsz:=tm_sizeL_at e1
  have hx:=ih _ hm (by omega)
  generalize t.l[k]=x at *
  have hrl:(Tm.rows (Tm.turnTL (shF d) (t.l.take k))).length=k:=by rw [Tm.rows_length,Tm.turnTL_map,List.length_map,List.length_take]; omega
  refine R_index hg.ok rfl rfl rfl rfl rfl rfl (Int.natCast_nonneg _) (Tm.rows_get e1) rfl ?_
  refine R_run hg.ok 1000 rfl rfl ?_
  refine R_call hg.ok (hx) rfl rfl rfl rfl rfl rfl ?_
  refine R_run hg.ok 1000 rfl rfl ?_
  refine R_appendO hg.ok (Tm.rows (Tm.turnTL (shF d) (t.l.take (k+1)))) rfl rfl rfl rfl rfl rfl rfl rfl rfl (by simp) (by simp [one1]) (turnTL_take e1) (by rw [hrl]; simp; omega) (by rw [hrl]; simp; omega) ?_
  refine R_run hg.ok 1000 rfl rfl ?_
  exact R_next (k+1) hk1 (by omega) ⟨.refl _,.refl _,.refl _,.refl _,Ent.wrap (by omega) (by omega) (by omega),trivial⟩ rfl
 ·have hk1:t.l.length≤k:=ge_dec h (by rw [Tm.rows_length])
  rw [List.take_of_length_le hk1]
  refine R_ret hg 5 rfl (sealA_term rfl rfl rfl rfl) ?_
  rfl
def glz (g:Gl) (t:Tm) (a b c:List Gl):Ob:=.box [.d (.v (.int .i64 g.k)),.d (.v (.int .i64 t.k)),.d (.v (.string t.s)),.d (.v (.int .i64 t.n)),.d (.sl (Tm.rows t.l)),.d (.sl (Gl.rows a)),.d (.sl (Gl.rows b)),.d (.sl (Gl.rows c))]

set_option maxRecDepth 100000 in
theorem goals14_ok (d:Int) (l:List Gl):Gl.sizeL l≤100000000→PCtr Tryz.prog 20 [.d (.sl (Gl.rows l)),iV d] (.d (.sl (Gl.rows (gshL d l)))):=by
 induction l using Gl.indL with
 | _ l ih =>
 intro hc
 have hll:=Gl.len_size l
 refine PCtr.of_R (pf:=fun _=>.still) tyOk mixed Tryz.func20 rfl (by kernel_rfl) (by kernel_rfl) (by simp [Tryz.ntmps20]) fun w S hg=>?_
 refine R_run hg.ok 1000 rfl rfl ?_
 refine R_own 5 8 rfl rfl ?_
 refine R_loop (fun k:Nat=>([(0,.d (.sl (Gl.rows l))),(1,iV d),(5,.ow 0 k),(6,iV k)],[.arr 8 k (Gl.rows (gshL d (l.take k)))])) (fun k=>k≤l.length) (fun k=>l.length - k) 0 (Nat.zero_le _) ⟨.refl _,.refl _,.refl _,.refl _,trivial⟩ rfl ?_
 rintro k hk
 refine R_run hg.ok 1000 rfl rfl ?_
 refine R_if rfl rfl (fun h=>?_) (fun h=>?_) <;> refine R_run hg.ok 1000 rfl rfl ?_
 ·have hk1:k<l.length:=lt_dec h (by rw [Gl.rows_length])
  have e1:l[k]? = some l[k]:=List.getElem?_eq_getElem hk1
  have hm:=List.getElem_mem hk1
  have hsz:=gl_sizeL_at e1
  obtain ⟨sa,sb,sc⟩:=ih _ hm
  have hge:=Gl.size_eq l[k]
  have hap:=gshL_take d e1
  have hgt:=gshG_eq d l[k]
  generalize l[k]=g at *
  have hrl:(Gl.rows (gshL d (l.take k))).length=k:=by rw [Gl.rows_length,gshL_map,List.length_map,List.length_take]; omega
  obtain ⟨t',ht'⟩:∃ t',t'=if g.k=1∨g.k=2 then Tm.turnT (shF d) g.t else g.t:=⟨_,rfl⟩
  rw [← ht'] at hgt
  refine R_index hg.ok rfl rfl rfl rfl rfl rfl (Int.natCast_nonneg _) (Gl.rows_get e1) rfl ?_
  refine R_run hg.ok 1000 rfl rfl ?_
  refine R_cut2 (fun _:Unit=>([(0,.d (.sl (Gl.rows l))),(1,iV d),(5,.ow 0 k),(6,iV k),(7,.lo 1 0)],[.arr 8 k (Gl.rows (gshL d (l.take k))),glz g t' g.a g.b g.c])) (fun _=>True) rfl ?_ ?_
  ·by_cases k1:g.k=1
   ·rw [if_pos (.inl k1)] at ht'
    subst ht'
    refine R_if rfl rfl (fun _=>?_) (fun h=>absurd h (by simp [k1])) <;> refine R_run hg.ok 1000 rfl rfl ?_
    refine R_call hg.ok (turned14_ok d g.t (by omega)) rfl rfl rfl rfl rfl rfl ?_
    refine R_run hg.ok 1000 rfl rfl ?_
    exact R_to () trivial ⟨.refl _,.refl _,.refl _,.refl _,.refl _,trivial⟩ rfl
   refine R_if rfl rfl (fun h=>absurd h (by simp [k1])) (fun _=>?_) <;> refine R_run hg.ok 1000 rfl rfl ?_
   by_cases k2:g.k=2
   ·rw [if_pos (.inr k2)] at ht'
    subst ht'
    refine R_if rfl rfl (fun _=>?_) (fun h=>absurd h (by simp [k2])) <;> refine R_run hg.ok 1000 rfl rfl ?_
    refine R_call hg.ok (turned14_ok d g.t (by omega)) rfl rfl rfl rfl rfl rfl ?_
    refine R_run hg.ok 1000 rfl rfl ?_
    exact R_to () trivial ⟨.refl _,.refl _,.refl _,.refl _,.refl _,trivial⟩ rfl
   refine R_if rfl rfl (fun h=>absurd h (by simp [k2])) (fun _=>?_) <;> refine R_run hg.ok 1000 rfl rfl ?_
   rw [if_neg (by omega)] at ht'
   subst ht'
   exact R_to () trivial ⟨.refl _,.refl _,.refl _,.refl _,.refl _,trivial⟩ rfl
  rintro _ _
  refine R_run hg.ok 1000 rfl rfl ?_
  refine R_index hg.ok rfl rfl rfl rfl rfl rfl (Int.natCast_nonneg _) (Gl.rows_get e1) rfl ?_
  refine R_run hg.ok 1000 rfl rfl ?_
  refine R_call hg.ok (sa (by omega)) rfl rfl rfl rfl rfl rfl ?_
  refine R_run hg.ok 1000 rfl rfl ?_
  refine R_index hg.ok rfl rfl rfl rfl rfl rfl (Int.natCast_nonneg _) (Gl.rows_get e1) rfl ?_
  refine R_run hg.ok 1000 rfl rfl ?_
  refine R_call hg.ok (sb (by omega)) rfl rfl rfl rfl rfl rfl ?_
  refine R_run hg.ok 1000 rfl rfl ?_
  refine R_index hg.ok rfl rfl rfl rfl rfl rfl (Int.natCast_nonneg _) (Gl.rows_get e1) rfl ?_
  refine R_run hg.ok 1000 rfl rfl ?_
  refine R_call hg.ok (sc (by omega)) rfl rfl rfl rfl rfl rfl ?_
  refine R_run hg.ok 1000 rfl rfl ?_
  refine R_appendO hg.ok (Gl.rows (gshL d (l.take (k+1)))) rfl rfl rfl rfl rfl rfl rfl rfl rfl (by simp) (by simp [one1]) (by rw [← hap,hgt]; rfl) (by rw [hrl]; simp; omega) (by rw [hrl]; simp; omega) ?_
  refine R_run hg.ok 1000 rfl rfl ?_
  refine R_dropO 1 [.arr 8 (Nat.succ k) (Gl.rows (gshL d (l.take (k+1))))] (Nat.zero_le _) rfl rfl ?_
  exact R_next (k+1) hk1 (by omega) ⟨.refl _,.refl _,.refl _,Ent.wrap (by omega) (by omega) (by omega),trivial⟩ rfl
 ·have hk1:l.length≤k:=ge_dec h (by rw [Gl.rows_length])
  rw [List.take_of_length_le hk1]
  refine R_ret hg 5 rfl (sealA_ow rfl) ?_
  rfl
end Go.Proofs.YtcgkgofmldhokaaGreat

namespace Go.Proofs.YtcgkgofmldhokaaGreat
open Go PSL Go.Proofs

theorem ok_arg {t x:Tm} (h:t.Ok) (hx:x∈t.l):x.Ok:=fun d e he=>by
 cases t with | mk k s n l =>
 have hx:x∈l:=hx
 have key:∀ (m:List Tm),x∈m→e∈Tm.elsL m d:=by
  intro m
  induction m with
  | nil=>intro h; cases h
  | cons y r ih =>
   intro h
   rw [Tm.elsL]
   rcases List.mem_cons.1 h with rfl | h
   ·exact List.mem_append_left _ he
   ·exact List.mem_append_right _ (ih h)
 refine h (d - 1) e ?_
 rw [Tm.els]
 refine List.mem_cons_of_mem _ ?_
 rw [show d - 1+1=d by omega]
 exact key l hx

set_option maxHeartbeats 4000000 in
set_option maxRecDepth 100000 in
theorem codeKeys_ok (l:List Cs) (q:Cs) (t:Tm) (ht:t.Ok) (hok:∀ c∈l,c.Ok) (hq:q.Ok) (hb:l.length * 88≤140737488351232):PCtr Tryz.prog 6 [prV l,q.av,t.av] (bV true):=by
 have hs:=refSome14_ok l q hok hq hb
 refine PCtr.of_R (pf:=fun _=>.still) tyOk mixed Tryz.func6 rfl (by kernel_rfl) (by kernel_rfl) (by simp [Tryz.ntmps6]) fun w S hg=>?_
 refine R_run hg.ok 1000 rfl rfl ?_
 cases hp:som14 l q with
 | false =>
  rw [hp] at hs
  refine R_call hg.ok (hs) rfl rfl rfl rfl rfl rfl ?_
  refine R_run hg.ok 1000 rfl rfl ?_
  refine R_if rfl rfl (fun _=>?_) (fun h=>absurd h (by simp)) <;> refine R_run hg.ok 1000 rfl rfl ?_
  refine R_call hg.ok (knows15_ok) rfl rfl rfl rfl rfl rfl ?_
  refine R_run hg.ok 1000 rfl rfl ?_
  refine R_ret hg 5 rfl rfl ?_
  rfl
 | true =>
  rw [hp] at hs
  obtain ⟨hm,h60⟩:=som14_all hp
  have hc:=compileL_ok l q hm (by omega)
  refine R_call hg.ok (hs) rfl rfl rfl rfl rfl rfl ?_
  refine R_run hg.ok 1000 rfl rfl ?_
  refine R_if rfl rfl (fun h=>absurd h (by simp)) (fun _=>?_) <;> refine R_run hg.ok 1000 rfl rfl ?_
  refine R_call hg.ok ((sm4_ok [t] (by simpa using ht) (by simp)).one) rfl rfl rfl rfl rfl rfl ?_
  refine R_run hg.ok 1000 rfl rfl ?_
  refine R_if rfl rfl (fun hsm=>?_) (fun hsm=>?_) <;> refine R_run hg.ok 1000 rfl rfl ?_
  ·refine R_call hg.ok (knows15_ok) rfl rfl rfl rfl rfl rfl ?_
   refine R_run hg.ok 1000 rfl rfl ?_
   refine R_ret hg 5 rfl rfl ?_
   rfl
  obtain ⟨h1,h2⟩:=smallS_ok (show smallS [t]=true by simpa using hsm)
  simp only [Tm.sizeL] at h1
  refine R_call hg.ok (refRight_ok t (by omega) (fun x e he=>by have:=h2 x e (Tm.els_memL (by simp) he); omega)) rfl rfl rfl rfl rfl rfl ?_
  refine R_run hg.ok 1000 rfl rfl ?_
  cases hr:t.rightB with
  | false =>
   refine R_if rfl rfl (fun _=>?_) (fun h=>absurd h (by simp)) <;> refine R_run hg.ok 1000 rfl rfl ?_
   refine R_call hg.ok (knows15_ok) rfl rfl rfl rfl rfl rfl ?_
   refine R_run hg.ok 1000 rfl rfl ?_
   refine R_ret hg 5 rfl rfl ?_
   rfl
  | true =>
  refine R_if rfl rfl (fun h=>absurd h (by simp)) (fun _=>?_) <;> refine R_run hg.ok 1000 rfl rfl ?_
  cases hfq:fairQ q l with
  | false =>
   rw [hfq] at hc
   simp only [Bool.false_eq_true,if_false] at hc
   refine R_call hg.ok (hc) rfl rfl rfl rfl rfl rfl ?_
   refine R_run hg.ok 1000 rfl rfl ?_
   refine R_if rfl rfl (fun _=>?_) (fun h=>absurd h (by simp)) <;> refine R_run hg.ok 1000 rfl rfl ?_
   refine R_if rfl rfl (fun _=>?_) (fun h=>absurd h (by simp [cdZ,En.rows])) <;> refine R_run hg.ok 1000 rfl rfl ?_
   refine R_call hg.ok (knows15_ok) rfl rfl rfl rfl rfl rfl ?_
   refine R_run hg.ok 1000 rfl rfl ?_
   refine R_ret hg 5 rfl rfl ?_
   rfl
  | true =>
  rw [hfq] at hc
  simp only [if_true] at hc
  have hk:=cmpOk_of hm (by omega) hfq
  have hfp:=(checkR_ok l).1 (fairQ_ok hfq).prog
  have hent:∀ (j:Nat) (x:Cs),l[j]? = some x→∃ a:Nat,(compG l q).ents[j]? = some (entG x a):=fun j x hx=>by
   obtain ⟨pre,post,_,_,p3,_⟩:=part_ok l q j x hx
   exact ⟨_,p3⟩
  have hel:(compG l q).ents.length=l.length:=entL_len l 0
  generalize compG l q=W at *
  obtain ⟨ins,ents,wat,slots⟩:=W
  simp only at hent hel
  refine R_call hg.ok (hc) rfl rfl rfl rfl rfl rfl ?_
  refine R_run hg.ok 1000 rfl rfl ?_
  refine R_if rfl rfl (fun h=>absurd h (by simp)) (fun _=>?_) <;> refine R_run hg.ok 1000 rfl rfl ?_
  refine R_if rfl rfl (fun h=>absurd h (by simp [En.rows_len,hel,Cs.rows_len])) (fun _=>?_) <;> refine R_run hg.ok 1000 rfl rfl ?_
  refine R_loop (fun i:Nat=>([(3,.lo 0 0),(5,.lo 2 0),(7,.lo 3 0),(9,iV i)],[.box [.d (.sl (Cs.rows l))],csBox q,boxR t,.box [.d (.sl (Is.rows ins)),.d (.sl (En.rows ents)),iV wat,iV slots]])) (fun i=>i≤l.length) (fun i=>l.length - i) 0 (Nat.zero_le _) ⟨.refl _,.refl _,.refl _,.refl _,trivial⟩ rfl ?_
  rintro i hi
  refine R_run hg.ok 1000 rfl rfl ?_
  refine R_if rfl rfl (fun h=>?_) (fun h=>?_) <;> refine R_run hg.ok 1000 rfl rfl ?_
  ·have hi1:i<l.length:=lt_dec h (by rw [Cs.rows_len])
   have e1:l[i]? = some l[i]:=List.getElem?_eq_getElem hi1
   have hcm:=List.getElem_mem hi1
   have hco:=(hok _ hcm).head.1
   have hcb:=hfp.2.1 _ hcm
   have hcv:=hk.vars _ hcm
   obtain ⟨pos,hen⟩:=hent i _ e1
   generalize l[i]=c at *
   have hch:c.head.rightB=true∧(∀ x∈varsT [c.head],x<c.vars)∧c.head.k=3:=by
    unfold clsB at hcb
    simp only [Bool.and_eq_true] at hcb
    have h5:=hcb.1.1.2
    rw [chk_vars] at h5
    unfold varsB at h5
    simp only [Bool.and_eq_true] at h5
    have h6:=hcb.1.2
    unfold ownB at h6
    simp only [Bool.and_eq_true,beq_iff_eq] at h6
    exact ⟨h5.2,fun x hx=>by simpa using List.all_eq_true.1 h5.1 x hx,h6.1.1⟩
   refine R_index hg.ok rfl rfl rfl rfl rfl rfl (Int.natCast_nonneg _) (Cs.rows_get e1) rfl ?_
   refine R_run hg.ok 1000 rfl rfl ?_
   have hll2:c.head.l=[]∨∃ x r,c.head.l=x::r:=by cases c.head.l with
    | nil=>exact .inl rfl
    | cons x r=>exact .inr ⟨x,r,rfl⟩
   rcases hll2 with hl0 | ⟨x,r,hl0⟩
   ·refine R_if rfl rfl (fun _=>?_) (fun h=>absurd h (by simp [hl0,Tm.rows])) <;> refine R_run hg.ok 1000 rfl rfl ?_
    refine R_dropO 4 [.box [.d (.sl (Cs.rows l))],csBox q,boxR t,.box [.d (.sl (Is.rows ins)),.d (.sl (En.rows ents)),iV wat,iV slots]] (Nat.zero_le _) rfl rfl ?_
    exact R_next (i+1) hi1 (by omega) ⟨.refl _,.refl _,.refl _,Ent.wrap (by omega) (by omega) (by omega),trivial⟩ rfl
   have hxm:x∈c.head.l:=by rw [hl0]; exact List.mem_cons_self
   refine R_if rfl rfl (fun h=>absurd h (by rw [Tm.rows_length,hl0]; simp <;> omega)) (fun _=>?_) <;> refine R_run hg.ok 1000 rfl rfl ?_
   refine R_index hg.ok rfl rfl rfl rfl rfl rfl (Int.natCast_nonneg _) ((Tm.rows_get (i:=0) (x:=x) (by rw [hl0]; rfl))) rfl ?_
   refine R_run hg.ok 1000 rfl rfl ?_
   refine R_call hg.ok (few_ok x (ok_arg hco hxm) 60 200) rfl rfl rfl rfl rfl rfl ?_
   refine R_run hg.ok 1000 rfl rfl ?_
   by_cases hfw:x.few 60 200<0
   ·refine R_if rfl rfl (fun _=>?_) (fun h=>absurd h (by simp [hfw])) <;> refine R_run hg.ok 1000 rfl rfl ?_
    refine R_dropO 4 [.box [.d (.sl (Cs.rows l))],csBox q,boxR t,.box [.d (.sl (Is.rows ins)),.d (.sl (En.rows ents)),iV wat,iV slots]] (Nat.zero_le _) rfl rfl ?_
    exact R_next (i+1) hi1 (by omega) ⟨.refl _,.refl _,.refl _,Ent.wrap (by omega) (by omega) (by omega),trivial⟩ rfl
   refine R_if rfl rfl (fun h=>absurd h (by simp [hfw])) (fun _=>?_) <;> refine R_run hg.ok 1000 rfl rfl ?_
   have hxs:x.size≤60:=by
    have:=(few_b x (m:=60) (by omega) (by omega)).2.2 (by omega)
    omega
   have hxr:=right_arg hch.1 hxm
   have hxo:∀ v∈Tm.occ x,0≤v∧v<1000:=fun v hv=>by
    have h7:=occ_arg (by rw [hch.2.2]; decide) hxm hv
    have hfl:Tm.fairRL [c.head]=true:=Tm.fairRL_iff.2 fun y hy=>by rw [List.mem_singleton] at hy; subst hy; exact right_fair hch.1
    have h8:=hch.2.1 v ((varsT_mem hfl).2 (by simpa [Tm.occL] using h7))
    have h9:=Tm.occ_range x (right_fair hxr) v hv
    omega
   have hur:(Tm.turnT (shF 1000) x).rightB=true:=by
    have:=rightL_turn (l:=[x]) (g:=shF 1000) (by simpa using hxr) (fun v hv=>by
     have hv:v∈Tm.occ x:=by simpa [Tm.occL] using hv
     have:=hxo v hv
     rw [shF_small this.1 this.2]; omega)
    exact this _ (by simp [Tm.turnTL])
   have hus:(Tm.turnT (shF 1000) x).size=x.size:=Tm.size_turn _ x
   obtain ⟨l',ok,hcU,hg1,hyes,_⟩:=ref4Unify_ok (S:=Tm.occL [Tm.turnT (shF 1000) x,t]) (N:=60) (by have h5:=Tm.occL_len [Tm.turnT (shF 1000) x,t]; simp only [Tm.sizeL] at h5; omega) (by decide) ((Tm.UG.nil (Tm.occL [Tm.turnT (shF 1000) x,t]) 60).pair hur hr (by omega) (by omega) (fun v hv=>by simp [Tm.occL,hv]) (fun v hv=>by simp [Tm.occL,hv]))
   have hgg:=goals14_ok 1000 [.mk 1 x [] [] []] (by simp only [Gl.sizeL,Gl.size]; omega)
   rw [show gshL 1000 [.mk 1 x [] [] []]=[.mk 1 (Tm.turnT (shF 1000) x) [] [] []] by simp [gshL,gshG]] at hgg
   refine R_index hg.ok rfl rfl rfl rfl rfl rfl (Int.natCast_nonneg _) ((Tm.rows_get (i:=0) (x:=x) (by rw [hl0]; rfl))) rfl ?_
   refine R_run hg.ok 1000 rfl rfl ?_
   refine R_weak [(3,.lo 0 0),(5,.lo 2 0),(7,.lo 3 0),(9,iV i),(10,.lo 4 0),(82,.d (.sl (Gl.rows [.mk 1 x [] [] []])))] ⟨.refl _,.refl _,.refl _,.refl _,.refl _,Ent.row1 ⟨.refl _,.refl _,.refl _,.refl _,.refl _,.nil,.nil,.nil,trivial⟩,trivial⟩ ?_
   refine R_call hg.ok (hgg) rfl rfl rfl rfl rfl rfl ?_
   refine R_run hg.ok 1000 rfl rfl ?_
   refine R_index hg.ok rfl rfl rfl rfl rfl rfl (Int.natCast_nonneg _) ((Gl.rows_get (i:=0) (x:=.mk 1 (Tm.turnT (shF 1000) x) [] [] []) rfl)) rfl ?_
   refine R_run hg.ok 1000 rfl rfl ?_
   refine R_call hg.ok (hcU) rfl rfl rfl rfl rfl rfl ?_
   refine R_run hg.ok 1000 rfl rfl ?_
   cases ok with
   | false =>
    refine R_if rfl rfl (fun h=>absurd h (by simp)) (fun _=>?_) <;> refine R_run hg.ok 1000 rfl rfl ?_
    refine R_dropO 4 [.box [.d (.sl (Cs.rows l))],csBox q,boxR t,.box [.d (.sl (Is.rows ins)),.d (.sl (En.rows ents)),iV wat,iV slots]] (Nat.zero_le _) rfl rfl ?_
    exact R_next (i+1) hi1 (by omega) ⟨.refl _,.refl _,.refl _,Ent.wrap (by omega) (by omega) (by omega),trivial⟩ rfl
   | true =>
    obtain ⟨σ,hσ⟩:=hg1.sol
    have hfit:=key_fit (hyes rfl σ |>.1 hσ).2
    have hkey:keyG c.head.l=keyT x:=by rw [hl0]; rfl
    refine R_if rfl rfl (fun _=>?_) (fun h=>absurd h (by simp)) <;> refine R_run hg.ok 1000 rfl rfl ?_
    refine R_index hg.ok rfl rfl rfl rfl rfl rfl (Int.natCast_nonneg _) (En.rows_get hen) rfl ?_
    refine R_run hg.ok 1000 rfl rfl ?_
    have hfc:=fits_ok (keyT x) t
    rw [hfit,← hkey] at hfc
    refine R_call hg.ok (hfc) rfl rfl rfl rfl rfl rfl ?_
    refine R_run hg.ok 1000 rfl rfl ?_
    refine R_if rfl rfl (fun h=>absurd h (by simp)) (fun _=>?_) <;> refine R_run hg.ok 1000 rfl rfl ?_
    refine R_dropO 4 [.box [.d (.sl (Cs.rows l))],csBox q,boxR t,.box [.d (.sl (Is.rows ins)),.d (.sl (En.rows ents)),iV wat,iV slots]] (Nat.zero_le _) rfl rfl ?_
    exact R_next (i+1) hi1 (by omega) ⟨.refl _,.refl _,.refl _,Ent.wrap (by omega) (by omega) (by omega),trivial⟩ rfl
  ·refine R_call hg.ok (knows15_ok) rfl rfl rfl rfl rfl rfl ?_
   refine R_run hg.ok 1000 rfl rfl ?_
   refine R_ret hg 5 rfl rfl ?_
   rfl
end Go.Proofs.YtcgkgofmldhokaaGreat
