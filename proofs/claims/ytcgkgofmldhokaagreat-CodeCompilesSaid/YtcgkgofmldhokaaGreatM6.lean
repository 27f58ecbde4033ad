import Derived.Test.YtcgkgofmldhokaaGreatM5
namespace Go.Proofs.YtcgkgofmldhokaaGreat
open Go PSL Go.Proofs
def pfCC:Nat→Cls:=fun f=>bif Nat.beq f 4000000006 then .turn 200 else bif Nat.beq f 4000100092 then .look 200 else bif Nat.beq f 4000100095 then .look 200 else bif Nat.beq f 4000100097 then .look 200 else bif Nat.beq f 4000100100 then .look 200 else bif Nat.beq f 4900100012 then .turn 100 else .still
def cdD (x:Cd):List D:=[.sl (Is.rows x.ins),.sl (En.rows x.ents),.v (.int .i64 x.at_),.v (.int .i64 x.slots)]

set_option maxHeartbeats 4000000 in
set_option maxRecDepth 100000 in
theorem codeCompiles_ok (l:List Cs) (q:Cs) (hok:∀ c∈l,c.Ok) (hq:q.Ok) (hb:l.length * 88≤140737488351232):PCtr Tryz.prog 3 [prV l,q.av] (bV true):=by
 have hs:=refSome14_ok l q hok hq hb
 refine PCtr.of_R (pf:=pfCC) tyOk mixed Tryz.func3 rfl (by kernel_rfl) (by kernel_rfl) (by simp [Tryz.ntmps3]) fun w S hg=>?_
 refine R_run hg.ok 1000 rfl rfl ?_
 cases hp:som14 l q with
 | false =>
  rw [hp] at hs
  refine R_call hg.ok (hs) rfl rfl rfl rfl rfl rfl ?_
  refine R_run hg.ok 1000 rfl rfl ?_
  refine R_if rfl rfl (fun _=>?_) (fun h=>absurd h (by simp)) <;> refine R_run hg.ok 1000 rfl rfl ?_
  refine R_call hg.ok (knows15_ok) rfl rfl rfl rfl rfl rfl ?_
  refine R_run hg.ok 1000 rfl rfl ?_
  refine R_ret hg 5 rfl rfl ?_
  rfl
 | true =>
  rw [hp] at hs
  obtain ⟨hm,h60⟩:=som14_all hp
  have hc:=compileL_ok l q hm (by omega)
  have hf:=refFair14_ok q l (hm.sm q (by simp)) (fun c hc=>hm.sm c (by simp [hc])) (by omega)
  refine R_call hg.ok (hs) rfl rfl rfl rfl rfl rfl ?_
  refine R_run hg.ok 1000 rfl rfl ?_
  refine R_if rfl rfl (fun h=>absurd h (by simp)) (fun _=>?_) <;> refine R_run hg.ok 1000 rfl rfl ?_
  cases hfq:fairQ q l with
  | false =>
   rw [hfq] at hf hc
   simp only [Bool.false_eq_true,if_false] at hc
   refine R_call hg.ok (hc) rfl rfl rfl rfl rfl rfl ?_
   refine R_run hg.ok 1000 rfl rfl ?_
   refine R_call hg.ok (hf) rfl rfl rfl rfl rfl rfl ?_
   refine R_run hg.ok 1000 rfl rfl ?_
   refine R_if rfl rfl (fun _=>?_) (fun h=>absurd h (by simp)) <;> refine R_run hg.ok 1000 rfl rfl ?_
   refine R_if rfl rfl (fun _=>?_) (fun h=>absurd h (by simp [cdZ,Is.rows])) <;> refine R_run hg.ok 1000 rfl rfl ?_
   refine R_if rfl rfl (fun _=>?_) (fun h=>absurd h (by simp [cdZ,En.rows])) <;> refine R_run hg.ok 1000 rfl rfl ?_
   refine R_if rfl rfl (fun _=>?_) (fun h=>absurd h (by simp [cdZ])) <;> refine R_run hg.ok 1000 rfl rfl ?_
   refine R_if rfl rfl (fun _=>?_) (fun h=>absurd h (by simp [cdZ])) <;> refine R_run hg.ok 1000 rfl rfl ?_
   refine R_if rfl rfl (fun _=>?_) (fun h=>absurd h (by simp)) <;> refine R_run hg.ok 1000 rfl rfl ?_
   refine R_call hg.ok (knows15_ok) rfl rfl rfl rfl rfl rfl ?_
   refine R_run hg.ok 1000 rfl rfl ?_
   refine R_ret hg 5 rfl rfl ?_
   rfl
  | true =>
   rw [hfq] at hf hc
   simp only [if_true] at hc
   have hk:=cmpOk_of hm (by omega) hfq
   have hw:=refCompile_ok l q hk
   have hln:=codeL_len l [] fun c hc=>(hk.vars c hc).2
   have hsz:=hk.size
   have hqs:=hk.qsize
   have hqv:=hk.qvars
   have hil:(compG l q).ins.length≤10000000:=by
    have h1:=golDL_len q.body ((codeL l []).length+(qryH q).length) q.vars
    have h2:=putGL_len q.head.l
    have h3:=Tm.size_eq q.head
    have h4:=freshG_len [] q.vars.toNat
    unfold Cs.size at hqs
    show (codeL l []++qryE q (codeL l []).length).length≤_
    unfold qryE
    generalize golDL q.body ((codeL l []).length+(qryH q).length) q.vars=G at *
    unfold qryH
    simp only [List.length_append,List.length_singleton,List.length_nil] at *
    omega
   have hjm:jmpIn 10000000 (compG l q).ins:=by
    show jmpIn _ (codeL l []++qryE q (codeL l []).length)
    have h5:(codeL l []++qryE q (codeL l []).length).length≤10000000:=hil
    rw [List.length_append] at h5
    exact jmpIn_app (codeL_jmp l [] _ (by omega) fun x hx=>by cases hx) (qryE_jmp q _ _ (by omega))
   have hsm:=same15_ok (compG l q).ins 0 (by omega) fun x hx hj=>by have:=hjm x hx hj; omega
   rw [mvIs_zero] at hsm
   have hel:(compG l q).ents.length=l.length:=entL_len l 0
   generalize compG l q=W at *
   obtain ⟨ins,ents,at_,slots⟩:=W
   simp only at hsm hel
   refine R_call hg.ok (hc) rfl rfl rfl rfl rfl rfl ?_
   refine R_run hg.ok 1000 rfl rfl ?_
   refine R_call hg.ok (hf) rfl rfl rfl rfl rfl rfl ?_
   refine R_run hg.ok 1000 rfl rfl ?_
   refine R_if rfl rfl (fun h=>absurd h (by simp)) (fun _=>?_) <;> refine R_run hg.ok 1000 rfl rfl ?_
   refine R_call hg.ok (hw) rfl rfl rfl rfl rfl rfl ?_
   refine R_run hg.ok 1000 rfl rfl ?_
   refine R_call hg.ok (hsm) rfl rfl rfl rfl rfl rfl ?_
   refine R_run hg.ok 1000 rfl rfl ?_
   refine R_if rfl rfl (fun h=>absurd h (by simp)) (fun _=>?_) <;> refine R_run hg.ok 1000 rfl rfl ?_
   refine R_if rfl rfl (fun h=>absurd h (by simp)) (fun _=>?_) <;> refine R_run hg.ok 1000 rfl rfl ?_
   refine R_if rfl rfl (fun h=>absurd h (by simp)) (fun _=>?_) <;> refine R_run hg.ok 1000 rfl rfl ?_
   refine R_if rfl rfl (fun h=>absurd h (by simp)) (fun _=>?_) <;> refine R_run hg.ok 1000 rfl rfl ?_
   refine R_freezeB hg.gup 2 (cdD ⟨ins,ents,at_,slots⟩) (Nat.zero_le _) rfl rfl ?_
   refine R_freezeB hg.gup 3 (cdD ⟨ins,ents,at_,slots⟩) (Nat.zero_le _) rfl rfl ?_
   refine R_loop (fun i:Nat=>([(5,.d (.ptr (cdD ⟨ins,ents,at_,slots⟩))),(6,iV 0),(7,.d (.ptr (cdD ⟨ins,ents,at_,slots⟩))),(8,iV i)],[.box [.d (.sl (Cs.rows l))],csBox q,.dead,.dead])) (fun i=>i≤ents.length) (fun i=>ents.length - i) 0 (Nat.zero_le _) ⟨.refl _,.refl _,.refl _,.refl _,trivial⟩ rfl ?_
   rintro i hi
   refine R_run hg.ok 1000 rfl rfl ?_
   refine R_if rfl rfl (fun h=>?_) (fun h=>?_) <;> refine R_run hg.ok 1000 rfl rfl ?_
   ·have hi1:i<ents.length:=lt_dec h (by rw [En.rows_len])
    have e1:ents[i]? = some ents[i]:=List.getElem?_eq_getElem hi1
    generalize ents[i]=x at *
    have hss:strEq x.s x.s=true:=Tm.strEq_iff.2 rfl
    have hs2:strEq x.key.s x.key.s=true:=Tm.strEq_iff.2 rfl
    refine R_pair hg.ok 10 (by kernel_rfl) (by kernel_rfl) ?_ ?_
    ·skip
     refine R_run hg.ok 1000 rfl rfl ?_
     refine R_loadD hg.ok rfl rfl rfl rfl rfl ?_
     refine R_run hg.ok 1000 rfl rfl ?_
     refine R_index hg.ok rfl rfl rfl rfl rfl rfl (Int.natCast_nonneg i) (En.rows_get e1) rfl ?_
     refine R_run hg.ok 1000 rfl rfl ?_
     refine R_loadD hg.ok rfl rfl rfl rfl rfl ?_
     refine R_run hg.ok 1000 rfl rfl ?_
     refine R_loadD hg.ok rfl rfl rfl rfl rfl ?_
     refine R_run hg.ok 1000 rfl rfl ?_
     refine R_index hg.ok rfl rfl rfl rfl rfl rfl (Int.natCast_nonneg i) (En.rows_get e1) rfl ?_
     refine R_run hg.ok 1000 rfl rfl ?_
     refine R_loadD hg.ok rfl rfl rfl rfl rfl ?_
     refine R_run hg.ok 1000 rfl rfl ?_
     refine R_if rfl rfl (fun h=>absurd h (by simp [hss])) (fun _=>?_) <;> refine R_run hg.ok 1000 rfl rfl ?_
     refine R_if rfl rfl (fun h=>absurd h (by simp)) (fun _=>?_) <;> refine R_run hg.ok 1000 rfl rfl ?_
     refine R_if rfl rfl (fun h=>absurd h (by simp)) (fun _=>?_) <;> refine R_run hg.ok 1000 rfl rfl ?_
     refine R_if rfl rfl (fun h=>absurd h (by simp)) (fun _=>?_) <;> refine R_run hg.ok 1000 rfl rfl ?_
     refine R_if rfl rfl (fun h=>absurd h (by simp)) (fun _=>?_) <;> refine R_run hg.ok 1000 rfl rfl ?_
     refine R_if rfl rfl (fun h=>absurd h (by simp)) (fun _=>?_) <;> refine R_run hg.ok 1000 rfl rfl ?_
     refine R_if rfl rfl (fun h=>absurd h (by simp [hs2])) (fun _=>?_) <;> refine R_run hg.ok 1000 rfl rfl ?_
     refine R_dropO 4 [.box [.d (.sl (Cs.rows l))],csBox q,.dead,.dead] (Nat.zero_le _) rfl rfl ?_
     exact R_next (i+1) hi1 (by omega) ⟨.refl _,.refl _,.refl _,Ent.wrap (by omega) (by omega) (by omega),trivial⟩ rfl
    ·skip
     refine R_run hg.ok 1000 rfl rfl ?_
     refine R_loadD hg.ok rfl rfl rfl rfl rfl ?_
     refine R_run hg.ok 1000 rfl rfl ?_
     refine R_index hg.ok rfl rfl rfl rfl rfl rfl (Int.natCast_nonneg i) (En.rows_get e1) rfl ?_
     refine R_run hg.ok 1000 rfl rfl ?_
     refine R_loadD hg.ok rfl rfl rfl rfl rfl ?_
     refine R_run hg.ok 1000 rfl rfl ?_
     refine R_loadD hg.ok rfl rfl rfl rfl rfl ?_
     refine R_run hg.ok 1000 rfl rfl ?_
     refine R_index hg.ok rfl rfl rfl rfl rfl rfl (Int.natCast_nonneg i) (En.rows_get e1) rfl ?_
     refine R_run hg.ok 1000 rfl rfl ?_
     refine R_loadD hg.ok rfl rfl rfl rfl rfl ?_
     refine R_run hg.ok 1000 rfl rfl ?_
     refine R_if rfl rfl (fun h=>absurd h (by simp [hss])) (fun _=>?_) <;> refine R_run hg.ok 1000 rfl rfl ?_
     refine R_if rfl rfl (fun h=>absurd h (by simp)) (fun _=>?_) <;> refine R_run hg.ok 1000 rfl rfl ?_
     refine R_if rfl rfl (fun h=>absurd h (by simp)) (fun _=>?_) <;> refine R_run hg.ok 1000 rfl rfl ?_
     refine R_if rfl rfl (fun h=>absurd h (by simp)) (fun _=>?_) <;> refine R_run hg.ok 1000 rfl rfl ?_
     refine R_if rfl rfl (fun h=>absurd h (by simp)) (fun _=>?_) <;> refine R_run hg.ok 1000 rfl rfl ?_
     refine R_if rfl rfl (fun h=>absurd h (by simp)) (fun _=>?_) <;> refine R_run hg.ok 1000 rfl rfl ?_
     refine R_if rfl rfl (fun h=>absurd h (by simp [hs2])) (fun _=>?_) <;> refine R_run hg.ok 1000 rfl rfl ?_
     refine R_dropO 4 [.box [.d (.sl (Cs.rows l))],csBox q,.dead,.dead] (Nat.zero_le _) rfl rfl ?_
     exact R_next (i+1) hi1 (by omega) ⟨.refl _,.refl _,.refl _,Ent.wrap (by omega) (by omega) (by omega),trivial⟩ rfl
   ·refine R_if rfl rfl (fun _=>?_) (fun h=>absurd h (by simp)) <;> refine R_run hg.ok 1000 rfl rfl ?_
    refine R_call hg.ok (knows15_ok) rfl rfl rfl rfl rfl rfl ?_
    refine R_run hg.ok 1000 rfl rfl ?_
    refine R_ret hg 5 rfl rfl ?_
    rfl
end Go.Proofs.YtcgkgofmldhokaaGreat
