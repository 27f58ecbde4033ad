import Derived.Test.YtcgkgofmldhokaaGreatM4
import Derived.Laws.StructEq
import Derived.Test.YtcgkgofmldhokaaGreatPslB
namespace Go.Proofs.YtcgkgofmldhokaaGreat
open Go PSL Go.Proofs

def clA (x:Clau):AV:=.agg [.d (.v (.int .i64 x.1.k)),.d (.v (.string x.1.s)),.d (.v (.int .i64 x.1.n)),.d (.sl (Tm.rows x.1.l)),.d (.sl (strRows x.2))]

def oneR (n:Nat):List Clau × Int × Int→Clau × Int × Int
 | (c,a,e)=>if e≠0 then ((zeroT,[]),a,e) else match c with
  | [x]=>(x,0,0)
  | _=>((zeroT,[]),n,2)

set_option maxRecDepth 100000 in
theorem one_ok (S0:Bs) (c:List Clau) (a e:Int) (h:PCtr Tryz.prog 63 [txA S0] (.tup [.d (.sl (clRows c)),iV a,iV e])):PCtr Tryz.prog 67 [txA S0] (.tup [clA (oneR S0.length (c,a,e)).1,iV (oneR S0.length (c,a,e)).2.1,iV (oneR S0.length (c,a,e)).2.2]):=by
 unfold oneR
 simp only
 refine PCtr.of_R (pf:=fun _=>.eff) tyOk mixed Tryz.func67 rfl (by kernel_rfl) (by kernel_rfl) (by simp [Tryz.ntmps67]) fun w S hg=>?_
 refine R_run hg.ok 1000 rfl rfl ?_
 refine R_call hg.ok (h) rfl rfl rfl rfl rfl rfl ?_
 refine R_run hg.ok 1000 rfl rfl ?_
 by_cases he:e≠0
 ·rw [if_pos he]
  refine R_if rfl rfl (fun _=>?_) (fun h=>absurd h (by simp [he])) <;> refine R_run hg.ok 1000 rfl rfl ?_
  refine R_ret hg 5 rfl rfl ?_
  rfl
 rw [if_neg he]
 refine R_if rfl rfl (fun h=>absurd h (by simpa using he)) (fun _=>?_) <;> refine R_run hg.ok 1000 rfl rfl ?_
 match c with
 | [x] =>
  refine R_if rfl rfl (fun h=>absurd h (by simp [clRows])) (fun _=>?_) <;> refine R_run hg.ok 1000 rfl rfl ?_
  refine R_index hg.ok rfl rfl rfl rfl rfl rfl (by decide) (show (clRows [x])[Int.toNat 0]? = some (clRow x) from rfl) rfl ?_
  refine R_run hg.ok 1000 rfl rfl ?_
  refine R_ret hg 5 rfl rfl ?_
  rfl
 | [] =>
  refine R_if rfl rfl (fun _=>?_) (fun h=>absurd h (by simp [clRows])) <;> refine R_run hg.ok 1000 rfl rfl ?_
  refine R_ret hg 5 rfl rfl ?_
  rw [Tx_size]; rfl
 | x::y::l =>
  refine R_if rfl rfl (fun _=>?_) (fun h=>absurd h (by simp [clRows]; omega)) <;> refine R_run hg.ok 1000 rfl rfl ?_
  refine R_ret hg 5 rfl rfl ?_
  rw [Tx_size]; rfl
end Go.Proofs.YtcgkgofmldhokaaGreat

namespace PSL
open Go
end PSL

namespace PSL
open Go
def st0:RSt:=⟨0,[],0,0,false⟩
end PSL

namespace Go.Proofs.YtcgkgofmldhokaaGreat
open Go PSL Go.Proofs
end Go.Proofs.YtcgkgofmldhokaaGreat

namespace Go.Proofs.YtcgkgofmldhokaaGreat
open Go PSL Go.Proofs
end Go.Proofs.YtcgkgofmldhokaaGreat

namespace Go.Proofs.YtcgkgofmldhokaaGreat
open Go PSL Go.Proofs
end Go.Proofs.YtcgkgofmldhokaaGreat

namespace Go.Proofs.YtcgkgofmldhokaaGreat
open Go PSL Go.Proofs
end Go.Proofs.YtcgkgofmldhokaaGreat

namespace Go.Proofs.YtcgkgofmldhokaaGreat
open Go PSL Go.Proofs
end Go.Proofs.YtcgkgofmldhokaaGreat

namespace Go.Proofs.YtcgkgofmldhokaaGreat
open Go PSL Go.Proofs
theorem clRows_get {c:List Clau} {i:Nat} {x:Clau} (h:c[i]? = some x):(clRows c)[i]? = some (clRow x):=by simp [clRows,h]
theorem rightT_fun:rightT=Tm.rightB:=funext rightT_eq

set_option maxRecDepth 100000 in
theorem clausesBad_ok (S0:Bs) (a e:Int) (he:e≠0) (h:PCtr Tryz.prog 93 [txA S0] (.tup [.d (.sl (tkRows [])),iV a,iV e])):PCtr Tryz.prog 63 [txA S0] (.tup [.d (.sl (clRows [])),iV a,iV e]):=by
 refine PCtr.of_R (pf:=fun _=>.eff) tyOk mixed Tryz.func63 rfl (by kernel_rfl) (by kernel_rfl) (by simp [Tryz.ntmps63]) fun w S hg=>?_
 refine R_run hg.ok 1000 rfl rfl ?_
 refine R_call hg.ok (h) rfl rfl rfl rfl rfl rfl ?_
 refine R_run hg.ok 1000 rfl rfl ?_
 refine R_if rfl rfl (fun _=>?_) (fun h=>absurd h (by simp [he])) <;> refine R_run hg.ok 1000 rfl rfl ?_
 refine R_ret hg 5 rfl rfl ?_
 rfl

theorem clausesT_ok (S0:Bs) (hS:S0.length≤9000) {c:List Clau} {a e:Int} (h:clauR rightT false S0=some (c,a,e)):PCtr Tryz.prog 63 [txA S0] (.tup [.d (.sl (clRows c)),iV a,iV e]):=by
 unfold clauR at h
 by_cases he:(tokT S0).2.2≠0
 ·rw [if_pos he] at h
  have ht:=tokens_ok S0 hS
  unfold tokR at ht
  rw [(tok_bad he).1] at ht
  cases h
  exact clausesBad_ok S0 _ _ he ht
 ·rw [if_neg he] at h
  obtain ⟨h8,ht,_⟩:=tok_ok (Decidable.not_not.1 he)
  have hpl:=toks_plc ht
  have hgd:=toks_good _ _ _ _ ht
  have hlen:=toks_len _ S0 0 _ ht
  refine clauses_ok S0 hS _ (by omega) (fun t ht=>⟨(hpl t ht).1,(hpl t ht).2,(hgd t ht).lo,(hgd t ht).hi⟩) (tokR_ok (by omega) ht) _ (fun st t st' hi hx he=>?_) c a e h
  have:=read_small (by omega) hS hgd hi hx he
  exact ⟨by have:=this.1; omega,fun e he=>by have:=this.2 1 e he; omega⟩
theorem oneT_ok9 (S0:Bs) (hS:S0.length≤9000) {c:List Clau} {a e:Int} (h:clauR rightT false S0=some (c,a,e)):PCtr Tryz.prog 67 [txA S0] (.tup [clA (oneR S0.length (c,a,e)).1,iV (oneR S0.length (c,a,e)).2.1,iV (oneR S0.length (c,a,e)).2.2]):=one_ok S0 c a e (clausesT_ok S0 hS h)
end Go.Proofs.YtcgkgofmldhokaaGreat

namespace Go.Proofs.YtcgkgofmldhokaaGreat
open Go PSL Go.Proofs

set_option maxRecDepth 100000 in
theorem goals_ok (t:Tm) (ht:SmT t) (hc:noCh t=true):PCtr Tryz.prog 65 [t.av] (.tup [.d (.sl (Gl.rows (goalsT t).1)),iV (goalsT t).2]):=by
 have hs:=ht.1
 have hD:=(gol_ok ⟨[],fun _=>true⟩ t.size).2 t (20,0) 1 true ht hc (Nat.le_refl _) (by simp only; omega) (by simp only; omega) (by omega) (by omega)
 refine PCtr.of_R (pf:=fun _=>.eff) tyOk mixed Tryz.func65 rfl (by kernel_rfl) (by kernel_rfl) (by simp [Tryz.ntmps65]) fun w S hg=>?_
 refine R_run hg.ok 1000 rfl rfl ?_
 refine R_call hg.ok (right_ok t (by omega) (ht.2 1)) rfl rfl rfl rfl rfl rfl ?_
 refine R_run hg.ok 1000 rfl rfl ?_
 unfold goalsT
 by_cases hr:rightT t=true
 rotate_left
 ·rw [if_neg hr]
  have hr:rightT t=false:=by simpa using hr
  refine R_if rfl rfl (fun _=>?_) (fun h=>absurd h (by simp [hr])) <;> refine R_run hg.ok 1000 rfl rfl ?_
  refine R_ret hg 5 rfl rfl ?_
  rfl
 rw [if_pos hr]
 refine R_if rfl rfl (fun h=>absurd h (by simp [hr])) (fun _=>?_) <;> refine R_run hg.ok 1000 rfl rfl ?_
 generalize golF t.size t (20,0) 1 true=A at *
 refine R_callSO hg.ok hg.gup ⟨rfl,rfl⟩ (fun _ _ _ _ h=>by cases h) [1] ([boxR t]++mkO A.2) (hD) (fun _=>rfl) rfl rfl rfl rfl rfl rfl rfl rfl ?_
 refine R_run hg.ok 1000 rfl rfl ?_
 by_cases he:A.2.2≠0
 ·rw [if_pos he]
  refine R_if rfl rfl (fun _=>?_) (fun h=>absurd h (by simp [he])) <;> refine R_run hg.ok 1000 rfl rfl ?_
  refine R_ret hg 5 rfl rfl ?_
  rfl
 ·rw [if_neg he]
  refine R_if rfl rfl (fun h=>absurd h (by simp at he; simp [he])) (fun _=>?_) <;> refine R_run hg.ok 1000 rfl rfl ?_
  refine R_ret hg 5 rfl rfl ?_
  rfl
end Go.Proofs.YtcgkgofmldhokaaGreat

namespace Go.Proofs.YtcgkgofmldhokaaGreat
open Go PSL Go.Proofs
theorem csRows_snoc (l:List Cs) (c:Cs):Cs.rows l++[c.row]=Cs.rows (l++[c]):=by simp [Cs.rows]
def csB (x:Cs):Ob:=.box [.d (.v (.int .i64 x.head.k)),.d (.v (.string x.head.s)),.d (.v (.int .i64 x.head.n)),.d (.sl (Tm.rows x.head.l)),.d (.sl (Gl.rows x.body)),.d (.v (.int .i64 x.vars))]
theorem smT_right {t:Tm} (h:t.rightB=true):SmT t:=⟨by have:=(Tm.rightB_iff.1 h).2.1; omega,fun x e he=>fair_names (right_fair h) x e he⟩
def clB (x:Clau):Ob:=.box [.d (.v (.int .i64 x.1.k)),.d (.v (.string x.1.s)),.d (.v (.int .i64 x.1.n)),.d (.sl (Tm.rows x.1.l)),.d (.sl (strRows x.2))]
def loadE (x:Clau):Int:=if sgOf x.1=sgR then (goalsT (argT x.1 1)).2 else 0

theorem loadE_own (x:Clau):(loadOne x).2=if ownB (loadOne x).1.head=true then loadE x else 5:=by
 unfold loadOne loadE
 split <;> rfl

theorem loadOne_sm {x:Clau} (hx:ClG x) (hc:noCh x.1=true):SmC (loadOne x).1:=by
 have hs:=smT_right hx.right
 have h3:=(Tm.rightB_iff.1 hx.right).2.1
 unfold loadOne
 by_cases h:sgOf x.1=sgR
 ·rw [if_pos h]
  have hl:x.1.l.length=2:=sg_len (n:=2) h
  have h1:SmT (argT x.1 1):=hs.arg (by omega)
  have h2:=size_arg (t:=x.1) (i:=1) (by omega)
  obtain ⟨g1,g2,_⟩:=golF_ok (argT x.1 1).size (argT x.1 1) (20,0) 1 true h1
  refine ⟨hs.arg (by omega),?_,?_⟩
  ·simp only [goalsT]
   split
   ·split
    ·simp only [allGL]
    ·exact g1
   ·simp only [allGL]
  ·simp only [goalsT]
   split
   ·split
    ·simp [Gl.sizeL]
    ·simp only; omega
   ·simp [Gl.sizeL]
 ·rw [if_neg h]
  exact ⟨hs,by simp only [allGL],by simp [Gl.sizeL]⟩

set_option maxHeartbeats 4000000 in
set_option maxRecDepth 100000 in
theorem load_ok (S0:Bs) (hS:S0.length≤9000) {c:List Clau} {a e:Int} (h:clauR rightT false S0=some (c,a,e)) (hc:∀ x∈c,noCh x.1=true):PCtr Tryz.prog 29 [txA S0] (if e≠0 then .tup [prV [],iV a,iV e] else .tup [prV (loadL c 0 []).1,iV (loadL c 0 []).2.1,iV (loadL c 0 []).2.2]):=by
 obtain ⟨_,f2,_,_⟩:=clau_facts hS h
 have hct:=clau_count h
 have hrl:=clRows_len c
 refine PCtr.of_R (pf:=fun _=>.eff) tyOk mixed Tryz.func29 rfl (by kernel_rfl) (by kernel_rfl) (by simp [Tryz.ntmps29]) fun w S hg=>?_
 refine R_run hg.ok 1000 rfl rfl ?_
 refine R_call hg.ok (clausesT_ok S0 hS h) rfl rfl rfl rfl rfl rfl ?_
 refine R_run hg.ok 1000 rfl rfl ?_
 by_cases he:e≠0
 ·rw [if_pos he]
  refine R_if rfl rfl (fun _=>?_) (fun h=>absurd h (by simp [he])) <;> refine R_run hg.ok 1000 rfl rfl ?_
  refine R_ret hg 5 rfl rfl ?_
  rfl
 rw [if_neg he]
 have he:e=0:=Decidable.not_not.1 he
 subst he
 obtain ⟨_,hcn⟩:=f2 rfl
 refine R_if rfl rfl (fun h=>absurd h (by simp)) (fun _=>?_) <;> refine R_run hg.ok 1000 rfl rfl ?_
 refine R_ownB 1 0 6 rfl rfl rfl ?_
 refine R_loop (fun x:Nat × Nat × List Cs=>([(2,.lo 0 0),(8,.lo 1 0),(26,.d (.sl (clRows c))),(27,iV c.length),(28,iV x.1)],[.box [.d (.v (.slice none 0 0))],.box [.ow 2 x.2.1],.arr 6 x.2.1 (Cs.rows x.2.2)])) (fun x=>x.1≤c.length∧loadL c 0 []=loadL (c.drop x.1) x.1 x.2.2∧x.2.2.length≤x.1∧∀ y∈x.2.2,SmC y) (fun x=>c.length - x.1) (0,0,[]) ⟨Nat.zero_le _,rfl,Nat.le_refl _,by simp⟩ ⟨.refl _,.refl _,.refl _,by rw [hrl]; exact .refl _,.refl _,trivial⟩ rfl ?_
 rintro ⟨k,s,out⟩ ⟨hk,hm,hol,hsm⟩
 have hm:loadL c 0 []=loadL (c.drop k) k out:=hm
 have hk:k≤c.length:=hk
 have hol:out.length≤k:=hol
 have hro:=Cs.rows_len out
 refine R_run hg.ok 1000 rfl rfl ?_
 refine R_if rfl rfl (fun h=>?_) (fun h=>?_)
 ·refine R_run hg.ok 1000 rfl rfl ?_
  have hk1:k<c.length:=lt_dec h rfl
  have e1:c[k]? = some c[k]:=List.getElem?_eq_getElem hk1
  have hmem:=List.getElem_mem hk1
  rw [List.drop_eq_getElem_cons hk1] at hm
  generalize c[k]=x at e1 hm hmem
  have hx:=hcn x hmem
  have hnc:=hc x hmem
  have hs:=smT_right hx.right
  have hsm1:=loadOne_sm hx hnc
  simp only [loadL] at hm
  refine R_index hg.ok rfl rfl rfl rfl rfl rfl (Int.natCast_nonneg _) (clRows_get e1) rfl ?_
  refine R_run hg.ok 1000 rfl rfl ?_
  refine R_call hg.ok (signOf_ok x.1) rfl rfl rfl rfl rfl rfl ?_
  refine R_run hg.ok 1000 rfl rfl ?_
  refine R_eqK hg.ok (sgOf x.1) sgR signCmp rfl rfl rfl rfl ?_
  refine R_run hg.ok 1000 rfl rfl ?_
  refine R_cut1 (fun _:Unit=>([(2,.lo 0 0),(8,.lo 1 0),(9,iV k),(11,.lo 4 0),(12,iV (loadE x)),(26,.d (.sl (clRows c))),(27,iV c.length),(28,iV k)],[.box [.d (.v (.slice none 0 0))],.box [.ow 2 s],.arr 6 s (Cs.rows out),clB x,csB (loadOne x).1])) (fun _=>True) rfl ?_ ?_
  ·by_cases hq:sgOf x.1=sgR
   ·have hl:x.1.l.length=2:=sg_len (n:=2) hq
    have hl0:0<x.1.l.length:=by omega
    have hl1:1<x.1.l.length:=by omega
    rw [show loadE x=(goalsT (argT x.1 1)).2 by unfold loadE; rw [if_pos hq],show (loadOne x).1=⟨argT x.1 0,(goalsT (argT x.1 1)).1,x.2.length⟩ by unfold loadOne; rw [if_pos hq]]
    refine R_if rfl rfl (fun _=>?_) (fun h=>absurd h (by simp [hq])) <;> refine R_run hg.ok 1000 rfl rfl ?_
    refine R_index hg.ok rfl rfl rfl rfl rfl rfl (by decide) (Tm.rows_get (i:=0) (argT_get hl0)) rfl ?_
    refine R_run hg.ok 1000 rfl rfl ?_
    refine R_index hg.ok rfl rfl rfl rfl rfl rfl (by decide) (Tm.rows_get (i:=1) (argT_get hl1)) rfl ?_
    refine R_run hg.ok 1000 rfl rfl ?_
    refine R_call hg.ok (goals_ok (argT x.1 1) (hs.arg hl1) (noCh_arg hnc hl1)) rfl rfl rfl rfl rfl rfl ?_
    refine R_run hg.ok 1000 rfl rfl ?_
    rw [strRows_len]
    exact R_to () trivial ⟨.refl _,.refl _,.refl _,.refl _,.refl _,.refl _,.refl _,.refl _,trivial⟩ rfl
   ·rw [show loadE x=0 by unfold loadE; rw [if_neg hq],show (loadOne x).1=⟨x.1,[],x.2.length⟩ by unfold loadOne; rw [if_neg hq]]
    refine R_if rfl rfl (fun h=>absurd h (by simp [hq])) (fun _=>?_) <;> refine R_run hg.ok 1000 rfl rfl ?_
    rw [strRows_len]
    refine R_obs [.box [.d (.v (.slice none 0 0))],.box [.ow 2 s],.arr 6 s (Cs.rows out),clB x,csB ⟨x.1,[],x.2.length⟩] (show ObsIn [.box [.d (.v (.slice none 0 0))],.box [.ow 2 s],.arr 6 s (Cs.rows out),clB x,.box [.d (.v (.int .i64 x.1.k)),.d (.v (.string x.1.s)),.d (.v (.int .i64 x.1.n)),.d (.sl (Tm.rows x.1.l)),.d (.v (.slice none 0 0)),.d (.v (.int .i64 x.2.length))]] _ from ⟨⟨.refl _,trivial⟩,⟨.refl _,trivial⟩,rfl,⟨.refl _,.refl _,.refl _,.refl _,.refl _,trivial⟩,⟨.refl _,.refl _,.refl _,.refl _,Ent.nrm _,.refl _,trivial⟩,trivial⟩) rfl ?_
    exact R_to () trivial ⟨.refl _,.refl _,.refl _,.refl _,.refl _,.refl _,.refl _,.refl _,trivial⟩ rfl
  rintro _ _
  refine R_run hg.ok 1000 rfl rfl ?_
  have hown:=loadE_own x
  cases ho:ownB (loadOne x).1.head with
  | false =>
   have hc1:=own_ok11 (loadOne x).1.head
   rw [ho] at hc1 hown
   rw [if_neg (by simp)] at hown
   rw [hown,if_pos (by decide)] at hm
   refine R_call hg.ok (hc1) rfl rfl rfl rfl rfl rfl ?_
   refine R_run hg.ok 1000 rfl rfl ?_
   refine R_if rfl rfl (fun _=>?_) (fun h=>absurd h (by simp)) <;> refine R_run hg.ok 1000 rfl rfl ?_
   refine R_if rfl rfl (fun _=>?_) (fun h=>absurd h (by simp)) <;> refine R_run hg.ok 1000 rfl rfl ?_
   refine R_ret hg 5 rfl rfl ?_
   rw [hm]; rfl
  | true =>
   have hc1:=own_ok11 (loadOne x).1.head
   rw [ho] at hc1 hown
   rw [if_pos rfl] at hown
   rw [hown] at hm
   refine R_call hg.ok (hc1) rfl rfl rfl rfl rfl rfl ?_
   refine R_run hg.ok 1000 rfl rfl ?_
   refine R_if rfl rfl (fun h=>absurd h (by simp)) (fun _=>?_) <;> refine R_run hg.ok 1000 rfl rfl ?_
   by_cases hle:loadE x≠0
   ·rw [if_pos hle] at hm
    refine R_if rfl rfl (fun _=>?_) (fun h=>absurd h (by simp [hle])) <;> refine R_run hg.ok 1000 rfl rfl ?_
    refine R_ret hg 5 rfl rfl ?_
    rw [hm]; rfl
   ·rw [if_neg hle] at hm
    refine R_if rfl rfl (fun h=>absurd h (by simp at hle; simp [hle])) (fun _=>?_) <;> refine R_run hg.ok 1000 rfl rfl ?_
    refine R_appendO hg.ok (Cs.rows (out++[(loadOne x).1])) rfl rfl rfl rfl rfl rfl rfl rfl rfl (by simp) (by simp [one1]) (csRows_snoc _ _) (by rw [hro]; simp; omega) (by rw [hro]; simp; omega) ?_
    refine R_run hg.ok 1000 rfl rfl ?_
    refine R_dropO 3 [.box [.d (.v (.slice none 0 0))],.box [.ow 2 (Nat.succ s)],.arr 6 (Nat.succ s) (Cs.rows (out++[(loadOne x).1]))] (Nat.zero_le _) rfl rfl ?_
    exact R_next (k+1,Nat.succ s,out++[(loadOne x).1]) ⟨hk1,hm,by simp only [List.length_append,List.length_singleton]; omega,fun y hy=>(List.mem_append.1 hy).elim (hsm y) (fun h=>by rw [List.mem_singleton.1 h]; exact hsm1)⟩ (by simp only; omega) ⟨.refl _,.refl _,.refl _,.refl _,Ent.wrap (by simp only; omega) (by simp only; omega) (by simp only; omega),trivial⟩ rfl
 ·have hk1:c.length≤k:=ge_dec h rfl
  rw [List.drop_eq_nil_of_le hk1] at hm
  simp only [loadL] at hm
  refine R_freezeO hg.gup 2 [(2,.lo 0 0),(8,.lo 1 0),(29,.ff)] [.box [.d (.v (.slice none 0 0))],.box [.d (.sl (Cs.rows out))],.dead] rfl rfl ⟨.refl _,.refl _,.refl _,trivial⟩ ⟨⟨.refl _,trivial⟩,⟨Ent.frz 2 s _,trivial⟩,trivial,trivial⟩ ?_
  refine R_run hg.ok 1000 rfl rfl ?_
  refine R_call hg.ok (check_ok out hsm) rfl rfl rfl rfl rfl rfl ?_
  refine R_run hg.ok 1000 rfl rfl ?_
  by_cases hce:(checkR out).2≠0
  ·rw [if_pos hce] at hm
   refine R_if rfl rfl (fun _=>?_) (fun h=>absurd h (by simp [hce])) <;> refine R_run hg.ok 1000 rfl rfl ?_
   refine R_ret hg 5 rfl rfl ?_
   rw [hm]; rfl
  ·rw [if_neg hce] at hm
   refine R_if rfl rfl (fun h=>absurd h (by simp at hce; simp [hce])) (fun _=>?_) <;> refine R_run hg.ok 1000 rfl rfl ?_
   refine R_ret hg 5 rfl rfl ?_
   rw [hm]; rfl
end Go.Proofs.YtcgkgofmldhokaaGreat

namespace PSL
open Go

theorem stepV_len (es:List (Int × Tm)):∀ a:List Int,(es.foldl stepV a).length≤a.length+es.length:=by
 induction es with
 | nil=>intro a; exact Nat.le_refl _
 | cons x r ih =>
  intro a
  have h1:=ih (stepV a x)
  have h2:(stepV a x).length≤a.length+1:=by
   unfold stepV addV
   split
   ·split <;> simp
   ·omega
  simp only [List.foldl_cons,List.length_cons]; omega

theorem varsT_len1 (t:Tm):(varsT [t]).length≤t.size:=by
 have:=stepV_len (t.els 1) []
 rw [Tm.els_len] at this
 simpa [varsT] using this

theorem atI_ctn:∀ (l:List Int) (n i:Int),0≤i→(atI l n i<0↔l.contains n=false)
 | [],n,i,h=>by simp [atI]
 | x::r,n,i,h=>by
  have ih:=atI_ctn r n (i+1) (by omega)
  by_cases hx:x=n
  ·subst hx; simp [atI]; omega
  ·have hn:¬ n=x:=fun e=>hx e.symm
   simp only [atI,if_neg hx,List.contains_cons,ih]
   simp [hn]
def atomT (s:ByteArray):Tm:=.mk 3 s 0 []
def qryS:ByteArray:=⟨#[113,117,101,114,121]⟩
def hayS:ByteArray:=⟨#[104,97,121]⟩
def pfC (s:ByteArray) (q:Cs):Cs:=⟨atomT s,q.body,q.vars⟩

theorem cls_atom (s:ByteArray) (h1:(atomT s).rightB=true) (h2:ownB (atomT s)=true) (q:Cs):clsB (pfC s q)=(decide (0≤q.vars)&&decide (q.vars≤1000)&&(chkL q.vars q.body 20 1 true).1):=by
 have h3:chkT q.vars (atomT s)=true:=by
  rw [chk_vars]
  unfold varsB
  rw [h1,show varsT [atomT s]=[] by rfl]; rfl
 show (decide (0≤q.vars)&&decide (q.vars≤1000)&&chkT q.vars (atomT s)&&ownB (atomT s)&&(chkL q.vars q.body 20 1 true).1)=_
 rw [h2,h3]; simp
theorem qry_own:(atomT qryS).rightB=true∧ownB (atomT qryS)=true:=⟨by kernel_rfl,by kernel_rfl⟩
theorem hay_own:(atomT hayS).rightB=true∧ownB (atomT hayS)=true:=⟨by kernel_rfl,by kernel_rfl⟩

theorem cls_qh (q:Cs):clsB (pfC qryS q)=clsB (pfC hayS q):=by
 rw [cls_atom _ qry_own.1 qry_own.2,cls_atom _ hay_own.1 hay_own.2]

def fairQ (q:Cs) (l:List Cs):Bool :=
 ((checkR l).2==0)&&(q.head.k==3)&&strEq q.head.s ⟨#[63]⟩&&q.head.rightB&&(varsT [q.head]).all (fun x=>decide (x<q.vars))&&clsB (pfC qryS q)&&thereL (hasH l) q.body

structure FairQ (q:Cs) (l:List Cs):Prop where
 prog:(checkR l).2=0
 kind:q.head.k=3
 name:q.head.s=⟨#[63]⟩
 right:q.head.rightB=true
 vars:∀ x∈varsT [q.head],x<q.vars
 vars0:0≤q.vars
 vars1:q.vars≤1000
 body:(chkL q.vars q.body 20 1 true).1=true
 there:thereL (hasH l) q.body=true

theorem fairQ_ok {q:Cs} {l:List Cs} (h:fairQ q l=true):FairQ q l:=by
 unfold fairQ at h
 simp only [Bool.and_eq_true,beq_iff_eq] at h
 obtain ⟨⟨⟨⟨⟨⟨h1,h2⟩,h3⟩,h4⟩,h5⟩,h6⟩,h7⟩:=h
 rw [cls_atom _ qry_own.1 qry_own.2] at h6
 simp only [Bool.and_eq_true,decide_eq_true_eq] at h6
 exact ⟨h1,h2,Tm.strEq_iff.1 h3,h4,fun x hx=>by simpa using List.all_eq_true.1 h5 x hx,h6.1.1,h6.1.2,h6.2,h7⟩

theorem codeL_app (a b:List Cs) (out:List Is):codeL (a++b) out=codeL b (codeL a out):=by
 induction a generalizing out with
 | nil=>rfl
 | cons c r ih=>simp only [List.cons_append,codeL]; exact ih _

theorem codeL_take {l:List Cs} {i:Nat} {c:Cs} (h:l[i]? = some c) (out:List Is):codeL (l.take (i+1)) out=codeL (l.take i) out++clsC c (codeL (l.take i) out).length:=by
 rw [List.take_add_one,h,codeL_app]; rfl

theorem entL_app (a b:List Cs) (out:List Is):entL (a++b) out.length=entL a out.length++entL b (codeL a out).length:=by
 induction a generalizing out with
 | nil=>rfl
 | cons c r ih =>
  simp only [List.cons_append,entL,codeL]
  have:=ih (out++clsC c out.length)
  rw [List.length_append] at this
  rw [this]

theorem entL_take {l:List Cs} {i:Nat} {c:Cs} (h:l[i]? = some c):entL (l.take (i+1)) 0=entL (l.take i) 0++[entG c (codeL (l.take i) []).length]:=by
 have:=entL_app (l.take i) [c] []
 rw [List.take_add_one,h]
 exact this

theorem entL_len:∀ (l:List Cs) (at_:Nat),(entL l at_).length=l.length
 | [],_=>rfl
 | c::r,at_=>by simp only [entL,List.length_cons,entL_len r]

theorem clsC_len (c:Cs) (at_:Nat):(clsC c at_).length≤c.head.size+c.vars.toNat+4 * Gl.sizeL c.body+1:=by
 have h1:=headGL_len c.head.l []
 have h2:=freshG_len (headGL c.head.l []).2 c.vars.toNat
 have h3:=golDL_len c.body (at_+(clsH c).length) c.vars
 have h4:=Tm.size_eq c.head
 unfold clsC
 generalize golDL c.body (at_+(clsH c).length) c.vars=G at *
 unfold clsH
 simp only [List.length_append,List.length_singleton]
 omega

theorem codeL_len:∀ (l:List Cs) (out:List Is),(∀ c∈l,c.vars≤1000)→(codeL l out).length≤out.length+4 * Cs.sizeL l+1001 * l.length
 | [],out,_=>by simp [codeL,Cs.sizeL]
 | c::r,out,h=>by
  have h1:=clsC_len c out.length
  have h2:=h c List.mem_cons_self
  have h3:=codeL_len r (out++clsC c out.length) fun x hx=>h x (List.mem_cons_of_mem _ hx)
  rw [List.length_append] at h3
  simp only [codeL,Cs.sizeL,Cs.size,List.length_cons]
  omega

theorem cs_sizeL_take (l:List Cs) (k:Nat):Cs.sizeL (l.take k)≤Cs.sizeL l:=by
 induction l generalizing k with
 | nil=>simp [Cs.sizeL]
 | cons c r ih=>cases k with
  | zero=>simp [Cs.sizeL]
  | succ k=>have:=ih k; simp only [List.take_succ_cons,Cs.sizeL]; omega

theorem cs_size_mem {l:List Cs} {c:Cs} (h:c∈l):Cs.size c≤Cs.sizeL l:=by
 induction l with
 | nil=>cases h
 | cons x r ih =>
  simp only [Cs.sizeL]
  rcases List.mem_cons.1 h with rfl | h
  ·omega
  ·have:=ih h; omega
end PSL

namespace Go.Proofs.YtcgkgofmldhokaaGreat
open Go PSL Go.Proofs
theorem smC_atom {s:ByteArray} (h:(atomT s).rightB=true) {q:Cs} (hq:SmC q):SmC (pfC s q):=⟨smT_right h,hq.body,hq.size⟩

set_option maxRecDepth 100000 in
theorem modelFair_ok (q:Cs) (l:List Cs) (hq:SmC q) (hl:∀ c∈l,SmC c) (hlen:l.length≤1000000):PCtr Tryz.prog 31 [q.av,prV l] (bV (fairQ q l)):=by
 have hs:=hq.head.1
 have hr:=right_ok q.head (by omega) (fun e he=>hq.head.2 1 e he)
 rw [rightT_eq] at hr
 have hv:=(vars_ok [q.head] (by simp [Tm.sizeL]; omega)).one
 have hc:=clause_ok11 (pfC qryS q) (smC_atom qry_own.1 hq)
 have ht:=theres_ok q.body l hq.size hlen
 have hf:fairQ q l=(((checkR l).2==0)&&(q.head.k==3)&&strEq q.head.s ⟨#[63]⟩&&q.head.rightB&&(varsT [q.head]).all (fun x=>decide (x<q.vars))&&clsB (pfC qryS q)&&thereL (hasH l) q.body):=rfl
 rw [hf]
 clear hf
 have hvl:(varsT [q.head]).length≤1000000:=Nat.le_trans (varsT_len1 q.head) hs
 generalize varsT [q.head]=V at *
 refine PCtr.of_R (pf:=fun _=>.still) tyOk mixed Tryz.func31 rfl (by kernel_rfl) (by kernel_rfl) (by simp [Tryz.ntmps31]) fun w S hg=>?_
 refine R_run hg.ok 1000 rfl rfl ?_
 refine R_call hg.ok (check_ok l hl) rfl rfl rfl rfl rfl rfl ?_
 refine R_run hg.ok 1000 rfl rfl ?_
 refine R_if rfl rfl (fun h1=>?_) (fun h1=>?_) <;> refine R_run hg.ok 1000 rfl rfl ?_
 ·refine R_ret hg 5 rfl rfl ?_
  rw [show ((checkR l).2==0)=false by simpa using h1]; rfl
 rw [show ((checkR l).2==0)=true by simpa using h1,Bool.true_and]
 refine R_if rfl rfl (fun h2=>?_) (fun h2=>?_) <;> refine R_run hg.ok 1000 rfl rfl ?_
 ·refine R_ret hg 5 rfl rfl ?_
  rw [show (q.head.k==3)=false by simpa using h2]; rfl
 rw [show (q.head.k==3)=true by simpa using h2,Bool.true_and]
 refine R_if rfl rfl (fun h3=>?_) (fun h3=>?_) <;> refine R_run hg.ok 1000 rfl rfl ?_
 ·refine R_ret hg 5 rfl rfl ?_
  rw [show strEq q.head.s ⟨#[63]⟩=false by simpa using h3]; rfl
 rw [show strEq q.head.s ⟨#[63]⟩=true by simpa using h3,Bool.true_and]
 refine R_call hg.ok (hr) rfl rfl rfl rfl rfl rfl ?_
 refine R_run hg.ok 1000 rfl rfl ?_
 refine R_if rfl rfl (fun h4=>?_) (fun h4=>?_) <;> refine R_run hg.ok 1000 rfl rfl ?_
 ·refine R_ret hg 5 rfl rfl ?_
  rw [show q.head.rightB=false by simpa using h4]; rfl
 rw [show q.head.rightB=true by simpa using h4,Bool.true_and]
 refine R_call hg.ok (hv) rfl rfl rfl rfl rfl rfl ?_
 refine R_run hg.ok 1000 rfl rfl ?_
 refine R_loop (fun k:Nat=>([(2,.lo 0 0),(3,.lo 1 0),(38,.d (.sl (irows V))),(39,iV V.length),(40,iV k)],[.box [.d (.v (.int .i64 q.head.k)),.d (.v (.string q.head.s)),.d (.v (.int .i64 q.head.n)),.d (.sl (Tm.rows q.head.l)),.d (.sl (Gl.rows q.body)),.d (.v (.int .i64 q.vars))],.box [.d (.sl (Cs.rows l))]])) (fun k=>k≤V.length∧V.all (fun x=>decide (x<q.vars))=(V.drop k).all fun x=>decide (x<q.vars)) (fun k=>V.length - k) 0 ⟨Nat.zero_le _,rfl⟩ ⟨.refl _,.refl _,.refl _,by rw [irows_length]; exact .refl _,.refl _,trivial⟩ rfl ?_
 rintro k ⟨hk,hm⟩
 refine R_run hg.ok 1000 rfl rfl ?_
 refine R_if rfl rfl (fun h=>?_) (fun h=>?_) <;> refine R_run hg.ok 1000 rfl rfl ?_
 ·have hk1:k<V.length:=lt_dec h rfl
  have e1:V[k]? = some V[k]:=List.getElem?_eq_getElem hk1
  rw [List.drop_eq_getElem_cons hk1,List.all_cons] at hm
  generalize V[k]=x at e1 hm
  refine R_index hg.ok rfl rfl rfl rfl rfl rfl (Int.natCast_nonneg _) (irows_get e1) rfl ?_
  refine R_run hg.ok 1000 rfl rfl ?_
  refine R_if rfl rfl (fun h=>?_) (fun h=>?_) <;> refine R_run hg.ok 1000 rfl rfl ?_
  ·refine R_ret hg 5 rfl rfl ?_
   rw [hm,show decide (x<q.vars)=false by simpa using h]; rfl
  ·exact R_next (k+1) ⟨hk1,by rw [hm,show decide (x<q.vars)=true by simpa using h,Bool.true_and]⟩ (by omega) ⟨.refl _,.refl _,.refl _,.refl _,Ent.wrap (by omega) (by omega) (by omega),trivial⟩ rfl
 ·have hk1:V.length≤k:=ge_dec h rfl
  rw [hm,List.drop_eq_nil_of_le hk1]
  refine R_call hg.ok (hc) rfl rfl rfl rfl rfl rfl ?_
  refine R_run hg.ok 1000 rfl rfl ?_
  refine R_if rfl rfl (fun h5=>?_) (fun h5=>?_) <;> refine R_run hg.ok 1000 rfl rfl ?_
  ·refine R_call hg.ok (ht) rfl rfl rfl rfl rfl rfl ?_
   refine R_run hg.ok 1000 rfl rfl ?_
   refine R_ret hg 5 rfl rfl ?_
   rw [h5]; rfl
  ·refine R_ret hg 5 rfl rfl ?_
   rw [h5]; rfl
end Go.Proofs.YtcgkgofmldhokaaGreat

namespace Go.Proofs.YtcgkgofmldhokaaGreat
open Go PSL Go.Proofs

def hdO (c:List Is):List Ob:=[.arr 4 c.length (Is.rows c)]
def HeadR (Y:YP) (t:Tm):Prop:=∀ (met:List Int) (c:List Is),c.length+t.size≤100000000→met.length+t.size≤100000000→SCtr Tryz.prog Y 45 [.ow 0 c.length,.d (.sl (irows met)),t.av] (hdO c) (.tup [.ow 0 (c++(headG t met).1).length,.d (.sl (irows (headG t met).2))]) (hdO (c++(headG t met).1))
theorem is_snoc_len (c:List Is) (x:Is):(c++[x]).length=Nat.succ c.length:=by simp

set_option maxHeartbeats 4000000 in
set_option maxRecDepth 100000 in
theorem refHead_ok (Y:YP) (t:Tm):HeadR Y t:=by
 induction t using Tm.ind with
 | _ t ih =>
 intro met c hc hm0
 have hs:=Tm.size_eq t
 have hl:=Tm.len_le_sizeL t.l
 refine SCtr.of_R (pf:=pfBE) tyOk mixed Tryz.func45 rfl (by kernel_rfl) (by kernel_rfl) (by simp [Tryz.ntmps45]) (by simp [hdO]) fun w S φ hg=>?_
 have hφ:φ.length=1:=hg.hs0.len
 rw [headG_eq]
 refine R_run hg.ok 1000 rfl rfl ?_
 by_cases h1:t.k=1
 ·rw [if_pos h1]
  refine R_if rfl rfl (fun _=>?_) (fun h=>absurd h (by simp [h1])) <;> refine R_run hg.ok 1000 rfl rfl ?_
  refine R_call hg.ok (at_ok met t.n (by omega)) rfl rfl rfl rfl rfl rfl ?_
  refine R_run hg.ok 1000 rfl rfl ?_
  have hat:(atI met t.n 0<0)↔met.contains t.n=false:=atI_ctn met t.n 0 (Int.le_refl _)
  cases hm:met.contains t.n with
  | true =>
   refine R_if rfl rfl (fun h=>absurd h (by simp; have:=mt hat.1 (by rw [hm]; simp); omega)) (fun _=>?_) <;> refine R_run hg.ok 1000 rfl rfl ?_
   refine R_appendO hg.ok (Is.rows (c++[Is.mk 2 t.n 0 e0])) rfl rfl rfl rfl rfl rfl rfl rfl rfl (by simp) (by simp [one1]) (Is.rows_snoc (c) (Is.mk 2 t.n 0 e0)) (by rw [Is.rows_len]; simp; omega) (by rw [Is.rows_len]; simp; omega) ?_
   rw [← is_snoc_len (c) (Is.mk 2 t.n 0 e0)]
   refine R_run hg.ok 1000 rfl rfl ?_
   have ha:addV met t.n=met:=by unfold addV; rw [if_pos hm]
   rw [ha]
   exact R_retS hg 1 5 (by show (1:Nat)≤1; omega) rfl rfl rfl
  | false =>
   refine R_if rfl rfl (fun _=>?_) (fun h=>absurd h (by simp; have:=hat.2 hm; omega)) <;> refine R_run hg.ok 1000 rfl rfl ?_
   have ha:addV met t.n=met++[t.n]:=by unfold addV; rw [if_neg (by rw [hm]; simp)]
   rw [ha]
   refine R_appendF hg.ok (rows:=[]) rfl rfl (.inl rfl) rfl (.inl rfl) rfl rfl rfl (by simp) (by simp [irows]; intros; subst_vars; rfl) (by simp [irows_length]; omega) (by simp [irows_length]; omega) ?_
   refine R_run hg.ok 1000 rfl rfl ?_
   refine R_appendO hg.ok (irows (met++[t.n])) rfl rfl rfl rfl rfl rfl rfl rfl rfl (by simp) (by simp [one1]) (by simp [irows,irow]) (by simp [irows_length]; omega) (by simp [irows_length]; omega) ?_
   refine R_run hg.ok 1000 rfl rfl ?_
   refine R_appendO hg.ok (Is.rows (c++[Is.mk 1 t.n 0 e0])) rfl rfl rfl rfl rfl rfl rfl rfl rfl (by simp) (by simp [one1]) (Is.rows_snoc (c) (Is.mk 1 t.n 0 e0)) (by rw [Is.rows_len]; simp; omega) (by rw [Is.rows_len]; simp; omega) ?_
   rw [← is_snoc_len (c) (Is.mk 1 t.n 0 e0)]
   refine R_run hg.ok 1000 rfl rfl ?_
   exact R_retS hg 1 5 (by show (1:Nat)≤1; omega) rfl rfl rfl
 rw [if_neg h1]
 refine R_if rfl rfl (fun h=>absurd h (by simp [h1])) (fun _=>?_) <;> refine R_run hg.ok 1000 rfl rfl ?_
 by_cases h2:t.k=2
 ·rw [if_pos h2]
  refine R_if rfl rfl (fun _=>?_) (fun h=>absurd h (by simp [h2])) <;> refine R_run hg.ok 1000 rfl rfl ?_
  refine R_appendO hg.ok (Is.rows (c++[Is.mk 3 0 t.n e0])) rfl rfl rfl rfl rfl rfl rfl rfl rfl (by simp) (by simp [one1]) (Is.rows_snoc (c) (Is.mk 3 0 t.n e0)) (by rw [Is.rows_len]; simp; omega) (by rw [Is.rows_len]; simp; omega) ?_
  rw [← is_snoc_len (c) (Is.mk 3 0 t.n e0)]
  refine R_run hg.ok 1000 rfl rfl ?_
  exact R_retS hg 1 5 (by show (1:Nat)≤1; omega) rfl rfl rfl
 rw [if_neg h2]
 refine R_if rfl rfl (fun h=>absurd h (by simp [h2])) (fun _=>?_) <;> refine R_run hg.ok 1000 rfl rfl ?_
 rw [Tm.rows_length]
 refine R_appendO hg.ok (Is.rows (c++[Is.mk 4 0 t.l.length t.s])) rfl rfl rfl rfl rfl rfl rfl rfl rfl (by simp) (by simp [one1]) (Is.rows_snoc (c) (Is.mk 4 0 t.l.length t.s)) (by rw [Is.rows_len]; simp; omega) (by rw [Is.rows_len]; simp; omega) ?_
 rw [← is_snoc_len (c) (Is.mk 4 0 t.l.length t.s)]
 refine R_run hg.ok 1000 rfl rfl ?_
 rw [show c++(⟨4,0,t.l.length,t.s⟩::(headGL t.l met).1)=c++[Is.mk 4 0 t.l.length t.s]++(headGL t.l met).1 by simp]
 have hcl:=is_snoc_len c (Is.mk 4 0 t.l.length t.s)
 generalize c++[Is.mk 4 0 t.l.length t.s]=c1 at *
 refine R_loop (fun k:Nat=>([(0,.ow 0 (c1++(headGL (t.l.take k) met).1).length),(1,.d (.sl (irows (headGL (t.l.take k) met).2))),(5,.lo 1 0),(9,iV k)],hdO (c1++(headGL (t.l.take k) met).1)++[boxR t])) (fun k=>k≤t.l.length) (fun k=>t.l.length - k) 0 (Nat.zero_le _) ⟨by simp only [List.take_zero,headGL,List.append_nil]; exact .refl _,.refl _,.refl _,.refl _,trivial⟩ (by simp only [List.take_zero,headGL,List.append_nil]; rfl) ?_
 rintro k hk
 refine R_run hg.ok 1000 rfl rfl ?_
 refine R_if rfl rfl (fun h=>?_) (fun h=>?_) <;> refine R_run hg.ok 1000 rfl rfl ?_
 ·have hk1:k<t.l.length:=lt_dec h (by rw [Tm.rows_length])
  have e1:t.l[k]? = some t.l[k]:=List.getElem?_eq_getElem hk1
  have hm:=List.getElem_mem hk1
  have hsz:=tm_sizeL_at e1
  have hsl:=headGL_len (t.l.take k) met
  have hx:=ih _ hm (headGL (t.l.take k) met).2 (c1++(headGL (t.l.take k) met).1) (by rw [List.length_append]; omega) (by omega)
  rw [List.append_assoc,← headGL_t1 e1 met,← headGL_t2 e1 met] at hx
  generalize t.l[k]=x at e1 hx
  refine R_index hg.ok rfl rfl rfl rfl rfl rfl (Int.natCast_nonneg _) (Tm.rows_get e1) rfl ?_
  refine R_run hg.ok 1000 rfl rfl ?_
  refine R_callSO hg.ok hg.gup hg.wide hg.Y [0] (hdO (c1++(headGL (t.l.take (k+1)) met).1)++[boxR t]) hx (fun _=>rfl) rfl rfl rfl rfl rfl rfl rfl rfl ?_
  refine R_run hg.ok 1000 rfl rfl ?_
  exact R_next (k+1) hk1 (by omega) ⟨.refl _,.refl _,.refl _,Ent.wrap (by omega) (by omega) (by omega),trivial⟩ rfl
 ·have hk1:t.l.length≤k:=ge_dec h (by rw [Tm.rows_length])
  rw [List.take_of_length_le hk1]
  exact R_retS hg 1 5 (by show (1:Nat)≤1; omega) rfl rfl rfl
end Go.Proofs.YtcgkgofmldhokaaGreat

namespace Go.Proofs.YtcgkgofmldhokaaGreat
open Go PSL Go.Proofs
theorem putGL_t2 {l:List Tm} {i:Nat} {x:Tm} (h:l[i]? = some x):Is.rows (putGL (l.take i))++Is.rows (putG x)=Is.rows (putGL (l.take (i+1))):=by rw [putGL_take h,Is.rows_app]

set_option maxRecDepth 100000 in
theorem refPut_ok (t:Tm):t.size≤100000000→PCtr Tryz.prog 80 [t.av] (.d (.sl (Is.rows (putG t)))):=by
 induction t using Tm.ind with
 | _ t ih =>
 intro hc
 have hs:=Tm.size_eq t
 have hl:=Tm.len_le_sizeL t.l
 have hpl:=putGL_len t.l
 refine PCtr.of_R (pf:=fun _=>.eff) tyOk mixed Tryz.func80 rfl (by kernel_rfl) (by kernel_rfl) (by simp [Tryz.ntmps80]) fun w S hg=>?_
 refine R_run hg.ok 1000 rfl rfl ?_
 rw [putG_eq]
 unfold instG
 refine R_own 3 4 rfl rfl ?_
 refine R_loop (fun k:Nat=>([(1,.lo 0 0),(3,.ow 1 k),(4,iV k)],[boxR t,.arr 4 k (Is.rows (putGL (t.l.take k)))])) (fun k=>k≤t.l.length) (fun k=>t.l.length - k) 0 (Nat.zero_le _) ⟨.refl _,.refl _,.refl _,trivial⟩ rfl ?_
 rintro k hk
 refine R_run hg.ok 1000 rfl rfl ?_
 refine R_if rfl rfl (fun h=>?_) (fun h=>?_) <;> refine R_run hg.ok 1000 rfl rfl ?_
 ·have hk1:k<t.l.length:=lt_dec h (by rw [Tm.rows_length])
  have e1:t.l[k]? = some t.l[k]:=List.getElem?_eq_getElem hk1
  have hm:=List.getElem_mem hk1
  have hsz:=tm_sizeL_at e1
  have h2:=putGL_len (t.l.take k)
  have h3:=putG_len t.l[k]
  have hx:=ih _ hm (by omega)
  generalize t.l[k]=x at *
  refine R_index hg.ok rfl rfl rfl rfl rfl rfl (Int.natCast_nonneg _) (Tm.rows_get e1) rfl ?_
  refine R_run hg.ok 1000 rfl rfl ?_
  refine R_call hg.ok (hx) rfl rfl rfl rfl rfl rfl ?_
  refine R_run hg.ok 1000 rfl rfl ?_
  refine R_appendO hg.ok (Is.rows (putGL (t.l.take (k+1)))) rfl rfl rfl rfl rfl rfl rfl rfl rfl (Is.rows_4 _) (Is.rows_1 _) (putGL_t2 e1) (by rw [Is.rows_len,Is.rows_len]; simp; omega) (by rw [Is.rows_len,Is.rows_len]; omega) ?_
  refine R_run hg.ok 1000 rfl rfl ?_
  exact R_next (k+1) hk1 (by omega) ⟨.refl _,.refl _,Ent.wrap (by omega) (by omega) (by omega),trivial⟩ rfl
 ·have hk1:t.l.length≤k:=ge_dec h (by rw [Tm.rows_length])
  have hke:k=t.l.length:=by omega
  subst hke
  rw [List.take_length]
  by_cases h1:t.k=1
  ·rw [if_pos h1]
   refine R_if rfl rfl (fun _=>?_) (fun h=>absurd h (by simp [h1])) <;> refine R_run hg.ok 1000 rfl rfl ?_
   refine R_appendO hg.ok (Is.rows (putGL t.l++[Is.mk 6 t.n 0 e0])) rfl rfl rfl rfl rfl rfl rfl rfl rfl (by simp) (by simp [one1]) (Is.rows_snoc (putGL t.l) (Is.mk 6 t.n 0 e0)) (by rw [Is.rows_len]; simp; omega) (by rw [Is.rows_len]; simp; omega) ?_
   refine R_run hg.ok 1000 rfl rfl ?_
   refine R_ret hg 5 rfl (sealA_ow rfl) ?_
   rfl
  rw [if_neg h1]
  refine R_if rfl rfl (fun h=>absurd h (by simp [h1])) (fun _=>?_) <;> refine R_run hg.ok 1000 rfl rfl ?_
  by_cases h2:t.k=2
  ·rw [if_pos h2]
   refine R_if rfl rfl (fun _=>?_) (fun h=>absurd h (by simp [h2])) <;> refine R_run hg.ok 1000 rfl rfl ?_
   refine R_appendO hg.ok (Is.rows (putGL t.l++[Is.mk 7 0 t.n e0])) rfl rfl rfl rfl rfl rfl rfl rfl rfl (by simp) (by simp [one1]) (Is.rows_snoc (putGL t.l) (Is.mk 7 0 t.n e0)) (by rw [Is.rows_len]; simp; omega) (by rw [Is.rows_len]; simp; omega) ?_
   refine R_run hg.ok 1000 rfl rfl ?_
   refine R_ret hg 5 rfl (sealA_ow rfl) ?_
   rfl
  rw [if_neg h2]
  refine R_if rfl rfl (fun h=>absurd h (by simp [h2])) (fun _=>?_) <;> refine R_run hg.ok 1000 rfl rfl ?_
  rw [Tm.rows_length]
  refine R_appendO hg.ok (Is.rows (putGL t.l++[Is.mk 8 0 t.l.length t.s])) rfl rfl rfl rfl rfl rfl rfl rfl rfl (by simp) (by simp [one1]) (Is.rows_snoc (putGL t.l) (Is.mk 8 0 t.l.length t.s)) (by rw [Is.rows_len]; simp; omega) (by rw [Is.rows_len]; simp; omega) ?_
  refine R_run hg.ok 1000 rfl rfl ?_
  refine R_ret hg 5 rfl (sealA_ow rfl) ?_
  rfl

set_option maxRecDepth 100000 in
theorem refPuts_ok (Y:YP) (l:List Tm) (hc:Tm.sizeL l≤100000000):SCtr Tryz.prog Y 44 [.d (.sl (Tm.rows l))] [] (.ow 0 l.length) [.arr 4 l.length (Is.rows (putGL l))]:=by
 have hl:=Tm.len_le_sizeL l
 refine SCtr.of_R (pf:=fun _=>.eff) tyOk mixed Tryz.func44 rfl (by kernel_rfl) (by kernel_rfl) (by simp [Tryz.ntmps44]) (by simp [List.length_nil]) fun w S φ hg=>?_
 have hφ:φ.length=0:=hg.hs0.len
 refine R_run hg.ok 1000 rfl rfl ?_
 refine R_own 3 4 rfl rfl ?_
 refine R_loop (fun k:Nat=>([(0,.d (.sl (Tm.rows l))),(3,.ow 0 k),(4,iV k)],[.arr 4 k (Is.rows (putGL (l.take k)))])) (fun k=>k≤l.length) (fun k=>l.length - k) 0 (Nat.zero_le _) ⟨.refl _,.refl _,.refl _,trivial⟩ rfl ?_
 rintro k hk
 refine R_run hg.ok 1000 rfl rfl ?_
 refine R_if rfl rfl (fun h=>?_) (fun h=>?_) <;> refine R_run hg.ok 1000 rfl rfl ?_
 ·have hk1:k<l.length:=lt_dec h (by rw [Tm.rows_length])
  have e1:l[k]? = some l[k]:=List.getElem?_eq_getElem hk1
  have hsz:=tm_sizeL_at e1
  have h2:=putGL_len (l.take k)
  have h3:=putG_len l[k]
  have hx:=refPut_ok l[k] (by omega)
  generalize l[k]=x at *
  refine R_index hg.ok rfl rfl rfl rfl rfl rfl (Int.natCast_nonneg _) (Tm.rows_get e1) rfl ?_
  refine R_run hg.ok 1000 rfl rfl ?_
  refine R_call hg.ok (hx) rfl rfl rfl rfl rfl rfl ?_
  refine R_run hg.ok 1000 rfl rfl ?_
  refine R_appendO hg.ok (Is.rows (putGL (l.take (k+1)))) rfl rfl rfl rfl rfl rfl rfl rfl rfl (Is.rows_4 _) (Is.rows_1 _) (putGL_t2 e1) (by rw [Is.rows_len,Is.rows_len]; simp; omega) (by rw [Is.rows_len,Is.rows_len]; omega) ?_
  refine R_run hg.ok 1000 rfl rfl ?_
  exact R_next (k+1) hk1 (by omega) ⟨.refl _,.refl _,Ent.wrap (by omega) (by omega) (by omega),trivial⟩ rfl
 ·have hk1:l.length≤k:=ge_dec h (by rw [Tm.rows_length])
  have hke:k=l.length:=by omega
  subst hke
  rw [List.take_length]
  exact R_retS hg 1 5 (Nat.zero_le _) rfl rfl rfl

set_option maxRecDepth 100000 in
theorem refTests_ok (l:List Gl):Gl.sizeL l≤100000000→PCtr Tryz.prog 42 [.d (.sl (Gl.rows l))] (iV (testsGL l)):=by
 induction l using Gl.indL with
 | _ l ih =>
 intro hc
 have hll:=Gl.len_size l
 refine PCtr.of_R (pf:=fun _=>.still) tyOk mixed Tryz.func42 rfl (by kernel_rfl) (by kernel_rfl) (by simp [Tryz.ntmps42]) fun w S hg=>?_
 refine R_run hg.ok 1000 rfl rfl ?_
 refine R_loop (fun k:Nat=>([(0,.d (.sl (Gl.rows l))),(3,iV (testsGL (l.take k))),(4,iV k)],[])) (fun k=>k≤l.length) (fun k=>l.length - k) 0 (Nat.zero_le _) ⟨.refl _,.refl _,.refl _,trivial⟩ rfl ?_
 rintro k hk
 refine R_run hg.ok 1000 rfl rfl ?_
 refine R_if rfl rfl (fun h=>?_) (fun h=>?_) <;> refine R_run hg.ok 1000 rfl rfl ?_
 ·have hk1:k<l.length:=lt_dec h (by rw [Gl.rows_length])
  have e1:l[k]? = some l[k]:=List.getElem?_eq_getElem hk1
  have hm:=List.getElem_mem hk1
  have hsz:=gl_sizeL_at e1
  have htb:=testsGL_b (l.take k)
  have ht:=testsGL_take e1
  obtain ⟨sa,sb,sc⟩:=ih _ hm
  have hge:=Gl.size_eq l[k]
  have hgt:=testsG_eq l[k]
  generalize l[k]=g at *
  have ha:=testsGL_b g.a
  have hb:=testsGL_b g.b
  have hcc:=testsGL_b g.c
  rw [hgt] at ht
  refine R_index hg.ok rfl rfl rfl rfl rfl rfl (Int.natCast_nonneg _) (Gl.rows_get e1) rfl ?_
  refine R_run hg.ok 1000 rfl rfl ?_
  refine R_call hg.ok (sa (by omega)) rfl rfl rfl rfl rfl rfl ?_
  refine R_run hg.ok 1000 rfl rfl ?_
  rw [w64 (n:=testsGL (l.take k)+testsGL g.a) (by omega) (by omega)]
  refine R_index hg.ok rfl rfl rfl rfl rfl rfl (Int.natCast_nonneg _) (Gl.rows_get e1) rfl ?_
  refine R_run hg.ok 1000 rfl rfl ?_
  refine R_call hg.ok (sb (by omega)) rfl rfl rfl rfl rfl rfl ?_
  refine R_run hg.ok 1000 rfl rfl ?_
  rw [w64 (n:=testsGL (l.take k)+testsGL g.a+testsGL g.b) (by omega) (by omega)]
  refine R_index hg.ok rfl rfl rfl rfl rfl rfl (Int.natCast_nonneg _) (Gl.rows_get e1) rfl ?_
  refine R_run hg.ok 1000 rfl rfl ?_
  refine R_call hg.ok (sc (by omega)) rfl rfl rfl rfl rfl rfl ?_
  refine R_run hg.ok 1000 rfl rfl ?_
  rw [w64 (n:=testsGL (l.take k)+testsGL g.a+testsGL g.b+testsGL g.c) (by omega) (by omega)]
  refine R_index hg.ok rfl rfl rfl rfl rfl rfl (Int.natCast_nonneg _) (Gl.rows_get e1) rfl ?_
  refine R_run hg.ok 1000 rfl rfl ?_
  by_cases h4:g.k ≥ 4
  ·rw [if_pos h4] at ht
   refine R_if rfl rfl (fun _=>?_) (fun h=>absurd h (by simp; omega)) <;> refine R_run hg.ok 1000 rfl rfl ?_
   exact R_next (k+1) hk1 (by omega) ⟨.refl _,by rw [ht]; exact Ent.wrap (by omega) (by omega) (by omega),Ent.wrap (by omega) (by omega) (by omega),trivial⟩ rfl
  ·rw [if_neg h4] at ht
   refine R_if rfl rfl (fun h=>absurd h (by simp; omega)) (fun _=>?_) <;> refine R_run hg.ok 1000 rfl rfl ?_
   exact R_next (k+1) hk1 (by omega) ⟨.refl _,Ent.int (by rw [ht]; omega),Ent.wrap (by omega) (by omega) (by omega),trivial⟩ rfl
 ·have hk1:l.length≤k:=ge_dec h (by rw [Gl.rows_length])
  rw [List.take_of_length_le hk1]
  refine R_ret hg 5 rfl rfl ?_
  rfl
end Go.Proofs.YtcgkgofmldhokaaGreat

namespace PSL
open Go Go.RowKit
section
variable {g:G} {pf:Nat→Cls} {ops:Array Oper} {Fin:Exit→Act→World→Prop}

theorem R_appendF1 (hg:GOk g) {dst:Option Nat} {T T':Nat} {x y:Operand} {ty:Nat} {pos:String} {after:Array Edge} {gd:Option (Nat × Bool)} {rest:List Oper} {k:List It} {E:Env} {objs:List Ob}
  {q q' by_ by' e e':Nat} {z z':List Value} {τ:Ty} {rows:List (List D)}
  (hgd:guardA ops.toList E gd=some true) (hd:dstOk ⟨g.ty,g.N⟩ dst=true) (hx:ev E x=.fs rows) (hy:nrm (ev E y)=.d (.sl []))
  (hT:g.ty T=some ⟨q,by_,z,.slice e⟩) (hT':g.ty T'=some ⟨q',by',z',.slice e'⟩) (he:g.ty e=some τ)
  (hr:R g pf Fin (.dr ops rest::k) (putO E dst (.fs rows)) objs) :
  R g pf Fin (.dr ops (⟨dst,.call { callee:=.builtin .append,args:=#[x,y],argTypes:=#[T,T'] },ty,pos,after,gd⟩::rest)::k) E objs:=by
 refine R_op (LocOp.turning hg (.refl _) hgd hd (by simp) fun φ a w hρ hs=>?_) hr
 simp only [Op.operands,Call.operands] at hρ
 have hxv:=hρ x (by simp)
 have hyv:=Ent.nrm _ _ _ _ _ (hρ y (by simp))
 rw [hy] at hyv
 rw [hx] at hxv
 have hxv0:=hxv
 simp only [RV] at hyv hxv
 obtain ⟨_,a0,hv⟩:=hxv
 obtain ⟨cells,hN⟩:=Fst.of_rd (P:=g.P) (sz:=τ.size) hyv (by simp)
 have hτ:=hg.ty _ _ he
 obtain ⟨xa,xc,hxs⟩:=hN.sl
 have hcells:cells=[]:=List.length_eq_zero_iff.1 (by simpa using hN.len)
 subst hcells
 have hrun:=run_app_none (tr:=ty) (und_slice hg hT) (und_slice hg hT') hτ (a:=a0) (n:=rows.length) (cap:=rows.length) hxs (hN.run w rfl) (Nat.le_refl _)
 refine ⟨.value (a.eval x),a.eval x,w,φ,?_,.inl rfl,hxv0,.refl hs⟩
 simp only [execOp,resolve,invoke,builtin,Sem.run_bind,Sem.run_pure,Result.andThen_ok,List.map_toArray,List.map_cons,List.map_nil,hv,hrun]
end
end PSL

namespace Go.Proofs.YtcgkgofmldhokaaGreat
open Go PSL Go.Proofs
def pfGl15:Nat→Cls:=fun f=>bif Nat.beq f 44 then .turn 0 else bif Nat.beq f 4000000007 then .loadB else .still
def GlsR (l:List Gl):Prop:=∀ (at_:Nat) (v:Int),at_+4 * Gl.sizeL l≤100000000→0≤v→v+Gl.sizeL l≤100000000→PCtr Tryz.prog 43 [.d (.sl (Gl.rows l)),iV at_,iV v] (.d (.sl (Is.rows (golDL l at_ v))))

set_option maxHeartbeats 4000000 in
set_option maxRecDepth 100000 in
theorem refGoal_ok (g:Gl) (sa:GlsR g.a) (sb:GlsR g.b) (sc:GlsR g.c) (at_:Nat) (v:Int) (h1:at_+4 * g.size≤100000000) (h2:0≤v) (h3:v+g.size≤100000000):PCtr Tryz.prog 79 [g.av,iV at_,iV v] (.d (.sl (Is.rows (golD g at_ v)))):=by
 have hge:=Gl.size_eq g
 have htp:=Gl.tmPos g.t
 have hts:=Tm.size_eq g.t
 have hpl:=putGL_len g.t.l
 have htl:=Tm.len_le_sizeL g.t.l
 have hta:=testsGL_b g.a
 have htb:=testsGL_b g.b
 refine PCtr.of_R (pf:=pfGl15) tyOk mixed Tryz.func79 rfl (by kernel_rfl) (by kernel_rfl) (by simp [Tryz.ntmps79]) fun w S hg=>?_
 rw [golD_eq]
 refine R_run hg.ok 1000 rfl rfl ?_
 by_cases k12:g.k=1∨g.k=2
 ·rw [if_pos k12]
  unfold asksG
  rcases k12 with k1 | k2
  ·refine R_if rfl rfl (fun _=>?_) (fun h=>absurd h (by simp [k1])) <;> refine R_run hg.ok 1000 rfl rfl ?_
   refine R_callNew hg.ok hg.gup ⟨rfl,rfl⟩ (fun _ _ _ _ h=>by cases h) [gbx g,.arr 4 g.t.l.length (Is.rows (putGL g.t.l))] (refPuts_ok ⟨[],fun _=>true⟩ g.t.l (by omega)) (fun _=>rfl) rfl rfl rfl rfl rfl rfl ?_
   refine R_run hg.ok 1000 rfl rfl ?_
   rw [w64 (n:=8+g.k) (by omega) (by omega),Tm.rows_length]
   refine R_appendO hg.ok (Is.rows (putGL g.t.l++[Is.mk (8+g.k) 0 g.t.l.length g.t.s])) rfl rfl rfl rfl rfl rfl rfl rfl rfl (by simp) (by simp [one1]) (Is.rows_snoc _ (Is.mk (8+g.k) 0 g.t.l.length g.t.s)) (by rw [Is.rows_len]; simp; omega) (by rw [Is.rows_len]; simp; omega) ?_
   refine R_run hg.ok 1000 rfl rfl ?_
   refine R_ret hg 5 rfl (sealA_ow rfl) ?_
   rfl
  ·refine R_if rfl rfl (fun h=>absurd h (by simp [k2])) (fun _=>?_) <;> refine R_run hg.ok 1000 rfl rfl ?_
   refine R_if rfl rfl (fun _=>?_) (fun h=>absurd h (by simp [k2])) <;> refine R_run hg.ok 1000 rfl rfl ?_
   refine R_callNew hg.ok hg.gup ⟨rfl,rfl⟩ (fun _ _ _ _ h=>by cases h) [gbx g,.arr 4 g.t.l.length (Is.rows (putGL g.t.l))] (refPuts_ok ⟨[],fun _=>true⟩ g.t.l (by omega)) (fun _=>rfl) rfl rfl rfl rfl rfl rfl ?_
   refine R_run hg.ok 1000 rfl rfl ?_
   rw [w64 (n:=8+g.k) (by omega) (by omega),Tm.rows_length]
   refine R_appendO hg.ok (Is.rows (putGL g.t.l++[Is.mk (8+g.k) 0 g.t.l.length g.t.s])) rfl rfl rfl rfl rfl rfl rfl rfl rfl (by simp) (by simp [one1]) (Is.rows_snoc _ (Is.mk (8+g.k) 0 g.t.l.length g.t.s)) (by rw [Is.rows_len]; simp; omega) (by rw [Is.rows_len]; simp; omega) ?_
   refine R_run hg.ok 1000 rfl rfl ?_
   refine R_ret hg 5 rfl (sealA_ow rfl) ?_
   rfl
 rw [if_neg k12]
 have k1:¬ g.k=1:=fun h=>k12 (.inl h)
 have k2:¬ g.k=2:=fun h=>k12 (.inr h)
 refine R_if rfl rfl (fun h=>absurd h (by simp [k1])) (fun _=>?_) <;> refine R_run hg.ok 1000 rfl rfl ?_
 refine R_if rfl rfl (fun h=>absurd h (by simp [k2])) (fun _=>?_) <;> refine R_run hg.ok 1000 rfl rfl ?_
 by_cases k3:g.k=3
 ·rw [if_pos k3]
  refine R_if rfl rfl (fun _=>?_) (fun h=>absurd h (by simp [k3])) <;> refine R_run hg.ok 1000 rfl rfl ?_
  refine R_ret hg 5 rfl rfl ?_
  rfl
 rw [if_neg k3]
 refine R_if rfl rfl (fun h=>absurd h (by simp [k3])) (fun _=>?_) <;> refine R_run hg.ok 1000 rfl rfl ?_
 have hA:=golDL_len g.a (at_+2) (v+1)
 rw [w64 (n:=(at_:Int)+2) (by omega) (by omega),w64 (n:=v+1) (by omega) (by omega),show (at_:Int)+2=((at_+2:Nat):Int) by omega]
 refine R_call hg.ok (sa (at_+2) (v+1) (by omega) (by omega) (by omega)) rfl rfl rfl rfl rfl rfl ?_
 refine R_run hg.ok 1000 rfl rfl ?_
 generalize golDL g.a (at_+2) (v+1)=A at *
 by_cases k5:g.k=5
 ·rw [if_pos k5]
  refine R_if rfl rfl (fun _=>?_) (fun h=>absurd h (by simp [k5])) <;> refine R_run hg.ok 1000 rfl rfl ?_
  rw [w64 (n:=(at_:Int)+2) (by omega) (by omega),w64 (n:=(at_:Int)+2+((Is.rows A).length:Int)) (by rw [Is.rows_len]; omega) (by rw [Is.rows_len]; omega),w64 (n:=(at_:Int)+2+((Is.rows A).length:Int)+2) (by rw [Is.rows_len]; omega) (by rw [Is.rows_len]; omega),show (at_:Int)+2+((Is.rows A).length:Int)+2=((at_+2+A.length+2:Nat):Int) by rw [Is.rows_len]; omega]
  unfold notCode
  by_cases hA0:A=[]
  ·subst hA0
   refine R_appendF1 hg.ok rfl rfl rfl rfl rfl rfl rfl ?_
   refine R_run hg.ok 1000 rfl rfl ?_
   refine R_appendF hg.ok rfl rfl (.inl rfl) rfl (.inr (by simp)) rfl rfl rfl (by simp) (by simp) (by simp) (by simp) ?_
   refine R_run hg.ok 1000 rfl rfl ?_
   refine R_ret hg 5 rfl (sealA_ow rfl) ?_
   rfl
  ·refine R_appendF hg.ok rfl rfl (.inl rfl) rfl (.inr (by cases A; exact absurd rfl hA0; simp [Is.rows])) rfl rfl rfl (by simp) (Is.rows_4 _) (by rw [Is.rows_len]; simp; omega) (by rw [Is.rows_len]; simp; omega) ?_
   refine R_run hg.ok 1000 rfl rfl ?_
   refine R_appendO hg.ok (Is.rows ([Is.mk 13 v 0 e0,Is.mk 14 0 ((at_+2+A.length+2:Nat):Int) e0]++A++[Is.mk 15 v 0 e0,Is.mk 17 0 0 e0])) rfl rfl rfl rfl rfl rfl rfl rfl rfl (by simp) (by simp [one1]) (by simp [Is.rows,Is.row]; rfl) (by simp [Is.rows_len]; omega) (by simp [Is.rows_len]; omega) ?_
   refine R_run hg.ok 1000 rfl rfl ?_
   refine R_ret hg 5 rfl (sealA_ow rfl) ?_
   rfl
 rw [if_neg k5]
 refine R_if rfl rfl (fun h=>absurd h (by simp [k5])) (fun _=>?_) <;> refine R_run hg.ok 1000 rfl rfl ?_
 have hB:=golDL_len g.b (at_+2+A.length+1) (v+1+testsGL g.a)
 have cB:=sb (at_+2+A.length+1) (v+1+testsGL g.a) (by omega) (by omega) (by omega)
 generalize golDL g.b (at_+2+A.length+1) (v+1+testsGL g.a)=B at *
 have hC:=golDL_len g.c (at_+2+A.length+1+B.length+1) (v+1+testsGL g.a+testsGL g.b)
 have cC:=sc (at_+2+A.length+1+B.length+1) (v+1+testsGL g.a+testsGL g.b) (by omega) (by omega) (by omega)
 generalize golDL g.c (at_+2+A.length+1+B.length+1) (v+1+testsGL g.a+testsGL g.b)=C at *
 rw [Is.rows_len]
 rw [w64 (n:=(at_:Int)+2) (by omega) (by omega),w64 (n:=(at_:Int)+2+(A.length:Int)) (by omega) (by omega),w64 (n:=(at_:Int)+2+(A.length:Int)+1) (by omega) (by omega),w64 (n:=v+1) (by omega) (by omega),show (at_:Int)+2+(A.length:Int)+1=((at_+2+A.length+1:Nat):Int) by omega]
 refine R_call hg.ok (refTests_ok g.a (by omega)) rfl rfl rfl rfl rfl rfl ?_
 refine R_run hg.ok 1000 rfl rfl ?_
 rw [w64 (n:=v+1+testsGL g.a) (by omega) (by omega)]
 refine R_call hg.ok (cB) rfl rfl rfl rfl rfl rfl ?_
 refine R_run hg.ok 1000 rfl rfl ?_
 rw [Is.rows_len,Is.rows_len]
 rw [w64 (n:=(at_:Int)+2) (by omega) (by omega),w64 (n:=(at_:Int)+2+(A.length:Int)) (by omega) (by omega),w64 (n:=(at_:Int)+2+(A.length:Int)+1) (by omega) (by omega),w64 (n:=(at_:Int)+2+(A.length:Int)+1+(B.length:Int)) (by omega) (by omega),w64 (n:=(at_:Int)+2+(A.length:Int)+1+(B.length:Int)+1) (by omega) (by omega),show (at_:Int)+2+(A.length:Int)+1+(B.length:Int)+1=((at_+2+A.length+1+B.length+1:Nat):Int) by omega]
 refine R_call hg.ok (refTests_ok g.a (by omega)) rfl rfl rfl rfl rfl rfl ?_
 refine R_run hg.ok 1000 rfl rfl ?_
 rw [w64 (n:=v+1) (by omega) (by omega),w64 (n:=v+1+testsGL g.a) (by omega) (by omega)]
 refine R_call hg.ok (refTests_ok g.b (by omega)) rfl rfl rfl rfl rfl rfl ?_
 refine R_run hg.ok 1000 rfl rfl ?_
 rw [w64 (n:=v+1+testsGL g.a+testsGL g.b) (by omega) (by omega)]
 refine R_call hg.ok (cC) rfl rfl rfl rfl rfl rfl ?_
 refine R_run hg.ok 1000 rfl rfl ?_
 unfold ifCode
 by_cases hA0:A=[]
 ·subst hA0
  refine R_appendF1 hg.ok rfl rfl rfl rfl rfl rfl rfl ?_
  refine R_run hg.ok 1000 rfl rfl ?_
  refine R_appendF hg.ok rfl rfl (.inl rfl) rfl (.inr (by simp)) rfl rfl rfl (by simp) (by simp) (by simp) (by simp) ?_
  refine R_run hg.ok 1000 rfl rfl ?_
  refine R_appendO hg.ok (Is.rows (([Is.mk 13 v 0 e0,Is.mk 14 0 ((at_+2+([]:List Is).length+1+B.length+1:Nat):Int) e0]++[]++[Is.mk 15 v 0 e0])++B)) rfl rfl rfl rfl rfl rfl rfl rfl rfl (Is.rows_4 _) (Is.rows_1 _) (by simp [Is.rows,Is.row]; rfl) (by simp [Is.rows_len]; omega) (by simp [Is.rows_len]; omega) ?_
  refine R_run hg.ok 1000 rfl rfl ?_
  rw [Is.rows_len,w64 (n:=((at_+2+([]:List Is).length+1+B.length+1:Nat):Int)+(C.length:Int)) (by omega) (by omega),show ((at_+2+([]:List Is).length+1+B.length+1:Nat):Int)+(C.length:Int)=((at_+2+([]:List Is).length+1+B.length+1+C.length:Nat):Int) by omega]
  refine R_appendO hg.ok (Is.rows (([Is.mk 13 v 0 e0,Is.mk 14 0 ((at_+2+([]:List Is).length+1+B.length+1:Nat):Int) e0]++[]++[Is.mk 15 v 0 e0])++B++[Is.mk 16 0 ((at_+2+([]:List Is).length+1+B.length+1+C.length:Nat):Int) e0])) rfl rfl rfl rfl rfl rfl rfl rfl rfl (by simp) (by simp [one1]) (Is.rows_snoc _ (Is.mk 16 0 ((at_+2+([]:List Is).length+1+B.length+1+C.length:Nat):Int) e0)) (by simp [Is.rows_len]; omega) (by simp [Is.rows_len]; omega) ?_
  refine R_run hg.ok 1000 rfl rfl ?_
  refine R_appendO hg.ok (Is.rows (([Is.mk 13 v 0 e0,Is.mk 14 0 ((at_+2+([]:List Is).length+1+B.length+1:Nat):Int) e0]++[]++[Is.mk 15 v 0 e0])++B++[Is.mk 16 0 ((at_+2+([]:List Is).length+1+B.length+1+C.length:Nat):Int) e0]++C)) rfl rfl rfl rfl rfl rfl rfl rfl rfl (Is.rows_4 _) (Is.rows_1 _) (Is.rows_app _ _).symm (by simp [Is.rows_len]; omega) (by simp [Is.rows_len]; omega) ?_
  refine R_run hg.ok 1000 rfl rfl ?_
  refine R_ret hg 5 rfl (sealA_ow rfl) ?_
  rfl
 ·refine R_appendF hg.ok rfl rfl (.inl rfl) rfl (.inr (by cases A; exact absurd rfl hA0; simp [Is.rows])) rfl rfl rfl (by simp) (Is.rows_4 _) (by rw [Is.rows_len]; simp; omega) (by rw [Is.rows_len]; simp; omega) ?_
  refine R_run hg.ok 1000 rfl rfl ?_
  refine R_appendO hg.ok (Is.rows ([Is.mk 13 v 0 e0,Is.mk 14 0 ((at_+2+A.length+1+B.length+1:Nat):Int) e0]++A++[Is.mk 15 v 0 e0])) rfl rfl rfl rfl rfl rfl rfl rfl rfl (by simp) (by simp [one1]) (by simp [Is.rows,Is.row]; rfl) (by simp [Is.rows_len]; omega) (by simp [Is.rows_len]; omega) ?_
  refine R_run hg.ok 1000 rfl rfl ?_
  refine R_appendO hg.ok (Is.rows (([Is.mk 13 v 0 e0,Is.mk 14 0 ((at_+2+A.length+1+B.length+1:Nat):Int) e0]++A++[Is.mk 15 v 0 e0])++B)) rfl rfl rfl rfl rfl rfl rfl rfl rfl (Is.rows_4 _) (Is.rows_1 _) (by simp [Is.rows,Is.row]) (by simp [Is.rows_len]; omega) (by simp [Is.rows_len]; omega) ?_
  refine R_run hg.ok 1000 rfl rfl ?_
  rw [Is.rows_len,w64 (n:=((at_+2+A.length+1+B.length+1:Nat):Int)+(C.length:Int)) (by omega) (by omega),show ((at_+2+A.length+1+B.length+1:Nat):Int)+(C.length:Int)=((at_+2+A.length+1+B.length+1+C.length:Nat):Int) by omega]
  refine R_appendO hg.ok (Is.rows (([Is.mk 13 v 0 e0,Is.mk 14 0 ((at_+2+A.length+1+B.length+1:Nat):Int) e0]++A++[Is.mk 15 v 0 e0])++B++[Is.mk 16 0 ((at_+2+A.length+1+B.length+1+C.length:Nat):Int) e0])) rfl rfl rfl rfl rfl rfl rfl rfl rfl (by simp) (by simp [one1]) (Is.rows_snoc _ (Is.mk 16 0 ((at_+2+A.length+1+B.length+1+C.length:Nat):Int) e0)) (by simp [Is.rows_len]; omega) (by simp [Is.rows_len]; omega) ?_
  refine R_run hg.ok 1000 rfl rfl ?_
  refine R_appendO hg.ok (Is.rows (([Is.mk 13 v 0 e0,Is.mk 14 0 ((at_+2+A.length+1+B.length+1:Nat):Int) e0]++A++[Is.mk 15 v 0 e0])++B++[Is.mk 16 0 ((at_+2+A.length+1+B.length+1+C.length:Nat):Int) e0]++C)) rfl rfl rfl rfl rfl rfl rfl rfl rfl (Is.rows_4 _) (Is.rows_1 _) (Is.rows_app _ _).symm (by simp [Is.rows_len]; omega) (by simp [Is.rows_len]; omega) ?_
  refine R_run hg.ok 1000 rfl rfl ?_
  refine R_ret hg 5 rfl (sealA_ow rfl) ?_
  rfl
end Go.Proofs.YtcgkgofmldhokaaGreat

namespace Go.Proofs.YtcgkgofmldhokaaGreat
open Go PSL Go.Proofs

theorem gl_8 (l:List Gl):∀ r∈Gl.rows l,r.length=8:=by
 rw [Gl.rows_eq]
 intro r hr
 obtain ⟨g,_,rfl⟩:=List.mem_map.1 hr
 rfl

set_option maxHeartbeats 4000000 in
set_option maxRecDepth 100000 in
theorem refGoals_ok (l:List Gl):GlsR l:=by
 induction l using Gl.indL with
 | _ l ih =>
 intro at_ v h1 h2 h3
 have hll:=Gl.len_size l
 refine PCtr.of_R (pf:=fun _=>.eff) tyOk mixed Tryz.func43 rfl (by kernel_rfl) (by kernel_rfl) (by simp [Tryz.ntmps43]) fun w S hg=>?_
 refine R_run hg.ok 1000 rfl rfl ?_
 refine R_own 7 4 rfl rfl ?_
 refine R_loop (fun k:Nat=>([(0,.d (.sl (Gl.rows l))),(1,iV at_),(2,iV (v+testsGL (l.take k))),(7,.ow 0 k),(8,iV k)],[.arr 4 k (Is.rows (golDL (l.take k) at_ v))])) (fun k=>k≤l.length) (fun k=>l.length - k) 0 (Nat.zero_le _) ⟨.refl _,.refl _,Ent.int (by simp [testsGL]),.refl _,.refl _,trivial⟩ rfl ?_
 rintro k hk
 refine R_run hg.ok 1000 rfl rfl ?_
 refine R_if rfl rfl (fun h=>?_) (fun h=>?_) <;> refine R_run hg.ok 1000 rfl rfl ?_
 ·have hk1:k<l.length:=lt_dec h (by rw [Gl.rows_length])
  have e1:l[k]? = some l[k]:=List.getElem?_eq_getElem hk1
  have hm:=List.getElem_mem hk1
  have hsz:=gl_sizeL_at e1
  have htb:=testsGL_b (l.take k)
  have ht:=testsGL_take e1
  have hgl:=golDL_len (l.take k) at_ v
  have hgk:=golDL_take e1 at_ v
  obtain ⟨sa,sb,sc⟩:=ih _ hm
  have hgb:=testsG_b l[k]
  have hg1:=golD_len l[k] (at_+(golDL (l.take k) at_ v).length) (v+testsGL (l.take k))
  have cg:=refGoal_ok l[k] sa sb sc (at_+(golDL (l.take k) at_ v).length) (v+testsGL (l.take k)) (by omega) (by omega) (by omega)
  have ct:=refTests_ok [l[k]] (by simp only [Gl.sizeL]; omega)
  rw [show testsGL [l[k]]=testsG l[k] by simp [testsGL]] at ct
  generalize l[k]=g at *
  refine R_index hg.ok rfl rfl rfl rfl rfl rfl (Int.natCast_nonneg _) (Gl.rows_get e1) rfl ?_
  refine R_run hg.ok 1000 rfl rfl ?_
  refine R_lenO hg.ok rfl rfl rfl rfl rfl (n:=((golDL (l.take k) at_ v).length:Int)) (by rw [Is.rows_len]) ?_
  refine R_run hg.ok 1000 rfl rfl ?_
  rw [w64 (n:=(at_:Int)+((golDL (l.take k) at_ v).length:Int)) (by omega) (by omega),show (at_:Int)+((golDL (l.take k) at_ v).length:Int)=((at_+(golDL (l.take k) at_ v).length:Nat):Int) by omega]
  refine R_call hg.ok (cg) rfl rfl rfl rfl rfl rfl ?_
  refine R_run hg.ok 1000 rfl rfl ?_
  refine R_appendO hg.ok (Is.rows (golDL (l.take (k+1)) at_ v)) rfl rfl rfl rfl rfl rfl rfl rfl rfl (Is.rows_4 _) (Is.rows_1 _) (by rw [← Is.rows_app,hgk]) (by simp [Is.rows_len]; omega) (by simp [Is.rows_len]; omega) ?_
  refine R_run hg.ok 1000 rfl rfl ?_
  rw [w64 (n:=(k:Int)+1) (by omega) (by omega)]
  refine R_sliceO hg.ok (Gl.rows [g]) rfl rfl rfl rfl rfl rfl rfl (gl_8 l) (by omega) (by omega) (by rw [Gl.rows_length]; omega) ?_ ?_
  ·have e3:((k:Int)+1).toNat - (k:Int).toNat=1:=by omega
   rw [e3,Int.toNat_natCast]
   have e2:=Gl.rows_get e1
   obtain ⟨h5,h6⟩:=List.getElem?_eq_some_iff.1 e2
   rw [List.drop_eq_getElem_cons h5,h6,Gl.rows_eq [g]]; rfl
  refine R_run hg.ok 1000 rfl rfl ?_
  refine R_call hg.ok (ct) rfl rfl rfl rfl rfl rfl ?_
  refine R_run hg.ok 1000 rfl rfl ?_
  exact R_next (k+1) hk1 (by omega) ⟨.refl _,.refl _,by rw [ht]; exact Ent.wrap (by omega) (by omega) (by omega),.refl _,Ent.wrap (by omega) (by omega) (by omega),trivial⟩ rfl
 ·have hk1:l.length≤k:=ge_dec h (by rw [Gl.rows_length])
  rw [List.take_of_length_le hk1]
  refine R_ret hg 5 rfl (sealA_ow rfl) ?_
  rfl

set_option maxHeartbeats 4000000 in
set_option maxRecDepth 100000 in
theorem refClause15_ok (x:Cs) (at_:Nat) (h1:at_≤50000000) (h2:x.head.size≤1000000) (h3:Gl.sizeL x.body≤1000000) (h4:0≤x.vars) (h5:x.vars≤1000):PCtr Tryz.prog 14 [x.av,iV at_] (.d (.sl (Is.rows (clsC x at_)))):=by
 have hs:=Tm.size_eq x.head
 have hl:=Tm.len_le_sizeL x.head.l
 have hh:=headGL_len x.head.l []
 unfold clsC clsH
 refine PCtr.of_R (pf:=pfBE) tyOk mixed Tryz.func14 rfl (by kernel_rfl) (by kernel_rfl) (by simp [Tryz.ntmps14]) fun w S hg=>?_
 refine R_run hg.ok 1000 rfl rfl ?_
 refine R_own 5 4 rfl rfl ?_
 refine R_loop (fun k:Nat=>([(1,iV at_),(2,.lo 0 0),(5,.ow 1 (headGL (x.head.l.take k) []).1.length),(6,.d (.sl (irows (headGL (x.head.l.take k) []).2))),(7,iV k)],csBox x::hdO (headGL (x.head.l.take k) []).1)) (fun k=>k≤x.head.l.length) (fun k=>x.head.l.length - k) 0 (Nat.zero_le _) ⟨.refl _,.refl _,.refl _,.nil,.refl _,trivial⟩ rfl ?_
 rintro k hk
 refine R_run hg.ok 1000 rfl rfl ?_
 refine R_if rfl rfl (fun h=>?_) (fun h=>?_) <;> refine R_run hg.ok 1000 rfl rfl ?_
 ·have hk1:k<x.head.l.length:=lt_dec h (by rw [Tm.rows_length])
  have e1:x.head.l[k]? = some x.head.l[k]:=List.getElem?_eq_getElem hk1
  have hsz:=tm_sizeL_at e1
  have hsl:=headGL_len (x.head.l.take k) []
  have hx:=refHead_ok ⟨[],fun _=>true⟩ x.head.l[k] (headGL (x.head.l.take k) []).2 (headGL (x.head.l.take k) []).1 (by omega) (by simp at hsl; omega)
  rw [← headGL_t1 e1 [],← headGL_t2 e1 []] at hx
  generalize x.head.l[k]=t at *
  refine R_index hg.ok rfl rfl rfl rfl rfl rfl (Int.natCast_nonneg _) (Tm.rows_get e1) rfl ?_
  refine R_run hg.ok 1000 rfl rfl ?_
  refine R_callSO hg.ok hg.gup ⟨rfl,rfl⟩ (fun _ _ _ _ h=>by cases h) [1] (csBox x::hdO (headGL (x.head.l.take (k+1)) []).1) hx (fun _=>rfl) rfl rfl rfl rfl rfl rfl rfl rfl ?_
  refine R_run hg.ok 1000 rfl rfl ?_
  exact R_next (k+1) hk1 (by omega) ⟨.refl _,.refl _,.refl _,.refl _,Ent.wrap (by omega) (by omega) (by omega),trivial⟩ rfl
 ·have hk1:x.head.l.length≤k:=ge_dec h (by rw [Tm.rows_length])
  rw [List.take_of_length_le hk1]
  generalize headGL x.head.l []=H at *
  obtain ⟨H,M⟩:=H
  simp only at hh ⊢
  have hfl:=freshG_len M x.vars.toNat
  refine R_loop (fun v:Nat × Nat=>([(1,iV at_),(2,.lo 0 0),(5,.ow 1 v.2),(6,.d (.sl (irows M))),(8,iV v.1)],[csBox x,.arr 4 v.2 (Is.rows (H++freshG M v.1))])) (fun v=>(v.1:Int)≤x.vars) (fun v=>x.vars.toNat - v.1) (0,H.length) h4 ⟨.refl _,.refl _,.refl _,.refl _,.refl _,trivial⟩ (by simp [freshG]; rfl) ?_
  rintro ⟨v,s⟩ hv
  simp only at hv
  have hfv:=freshG_len M v
  refine R_run hg.ok 1000 rfl rfl ?_
  refine R_if rfl rfl (fun h=>?_) (fun h=>?_) <;> refine R_run hg.ok 1000 rfl rfl ?_
  ·have hv1:(v:Int)<x.vars:=of_decide_eq_true h
   refine R_call hg.ok (at_ok M v (by simp at hh; omega)) rfl rfl rfl rfl rfl rfl ?_
   refine R_run hg.ok 1000 rfl rfl ?_
   have hat:(atI M v 0<0)↔M.contains (v:Int)=false:=atI_ctn M v 0 (Int.le_refl _)
   cases hm:M.contains (v:Int) with
   | true =>
    refine R_if rfl rfl (fun h=>absurd h (by simp; have:=mt hat.1 (by rw [hm]; simp); omega)) (fun _=>?_) <;> refine R_run hg.ok 1000 rfl rfl ?_
    exact R_next (v+1,s) (by show ((v+1:Nat):Int)≤x.vars; omega) (by simp only; omega) ⟨.refl _,.refl _,.refl _,.refl _,Ent.wrap (by simp only; omega) (by simp only; omega) (by simp only; omega),trivial⟩ (by simp only [freshG_succ,hm,if_true]; rfl)
   | false =>
    refine R_if rfl rfl (fun _=>?_) (fun h=>absurd h (by simp; have:=hat.2 hm; omega)) <;> refine R_run hg.ok 1000 rfl rfl ?_
    refine R_appendO hg.ok (Is.rows (H++freshG M (v+1))) rfl rfl rfl rfl rfl rfl rfl rfl rfl (by simp) (by simp [one1]) (by rw [freshG_succ,hm]; simp [Is.rows,Is.row]; rfl) (by simp [Is.rows_len]; omega) (by simp [Is.rows_len]; omega) ?_
    refine R_run hg.ok 1000 rfl rfl ?_
    exact R_next (v+1,Nat.succ s) (by show ((v+1:Nat):Int)≤x.vars; omega) (by simp only; omega) ⟨.refl _,.refl _,.refl _,.refl _,Ent.wrap (by simp only; omega) (by simp only; omega) (by simp only; omega),trivial⟩ rfl
  ·have hv1:¬ (v:Int)<x.vars:=of_decide_eq_false h
   have hve:v=x.vars.toNat:=by omega
   subst hve
   have hcl:(H++freshG M x.vars.toNat).length≤1001000:=by rw [List.length_append]; omega
   generalize H++freshG M x.vars.toNat=C at *
   have hgl:=golDL_len x.body (at_+C.length) x.vars
   refine R_lenO hg.ok rfl rfl rfl rfl rfl (n:=(C.length:Int)) (by rw [Is.rows_len]) ?_
   refine R_run hg.ok 1000 rfl rfl ?_
   rw [w64 (n:=(at_:Int)+(C.length:Int)) (by omega) (by omega),show (at_:Int)+(C.length:Int)=((at_+C.length:Nat):Int) by omega]
   refine R_call hg.ok (refGoals_ok x.body (at_+C.length) x.vars (by omega) (by omega) (by omega)) rfl rfl rfl rfl rfl rfl ?_
   refine R_run hg.ok 1000 rfl rfl ?_
   refine R_appendO hg.ok (Is.rows (C++golDL x.body (at_+C.length) x.vars)) rfl rfl rfl rfl rfl rfl rfl rfl rfl (Is.rows_4 _) (Is.rows_1 _) (Is.rows_app _ _).symm (by simp [Is.rows_len]; omega) (by simp [Is.rows_len]; omega) ?_
   refine R_run hg.ok 1000 rfl rfl ?_
   refine R_appendO hg.ok (Is.rows (C++golDL x.body (at_+C.length) x.vars++[Is.mk 12 0 0 e0])) rfl rfl rfl rfl rfl rfl rfl rfl rfl (by simp) (by simp [one1]) (Is.rows_snoc _ (Is.mk 12 0 0 e0)) (by simp [Is.rows_len]; omega) (by simp [Is.rows_len]; omega) ?_
   refine R_run hg.ok 1000 rfl rfl ?_
   refine R_ret hg 5 rfl (sealA_ow rfl) ?_
   rfl
end Go.Proofs.YtcgkgofmldhokaaGreat

namespace Go.Proofs.YtcgkgofmldhokaaGreat
open Go PSL Go.Proofs
def pfCmp15:Nat→Cls:=fun f=>bif Nat.beq f 4000000007 then .loadB else bif Nat.beq f 37 then .still else .eff

theorem cdO_ren2 (f:Nat→Nat) (met:List Int) (slot at_:Int) (c:List Is) (e:List En):(cdO met slot at_ c e).map (renOb f)=[.box [.lo (f 1) 0,.mp (f 2),iV slot],.box [.ow (f 3) c.length,.ow (f 4) e.length,iV at_,iV 0],.map (imap (setB met)),.arr 4 c.length (Is.rows c),.arr 7 e.length (En.rows e)]:=by
 simp only [cdO,List.map_cons,List.map_nil,renOb_setB]
 simp [renOb,renA,renL,iV]

def cm6 (l:List Cs) (q:Cs) (at_:Int) (c:List Is) (e:List En):List Ob:=[.box [.d (.sl (Cs.rows l))],csBox q,.box [.d (.v (.slice none 0 0)),.d (.v (.slice none 0 0)),iV 0,iV 0],.box [.ow 4 c.length,.ow 5 e.length,iV at_,iV 0],.arr 4 c.length (Is.rows c),.arr 7 e.length (En.rows e)]
theorem is_len_app (a b:List Is):(a++b).length=a.length+b.length:=List.length_append
def cdZ:Cd:=⟨[],[],0,0⟩

set_option maxHeartbeats 4000000 in
set_option maxRecDepth 100000 in
theorem compile_bad (l:List Cs) (q:Cs) (hf:PCtr Tryz.prog 31 [q.av,prV l] (bV false)):PCtr Tryz.prog 10 [prV l,q.av] (.tup [cdZ.av,iV 1]):=by
 refine PCtr.of_R (pf:=pfCmp15) tyOk mixed Tryz.func10 rfl (by kernel_rfl) (by kernel_rfl) (by simp [Tryz.ntmps10]) fun w S hg=>?_
 refine R_run hg.ok 1000 rfl rfl ?_
 refine R_call hg.ok (hf) rfl rfl rfl rfl rfl rfl ?_
 refine R_run hg.ok 1000 rfl rfl ?_
 refine R_if rfl rfl (fun _=>?_) (fun h=>absurd h (by simp)) <;> refine R_run hg.ok 1000 rfl rfl ?_
 refine R_ret hg 5 rfl rfl ?_
 rfl

structure CmpOk (l:List Cs) (q:Cs):Prop where
 len:l.length≤210
 size:Cs.sizeL l≤3000
 qsize:Cs.size q≤3000
 five:∀ c∈l,fiveL c.body
 vars:∀ c∈l,0≤c.vars∧c.vars≤1000
 qfive:fiveL q.body
 qvars:0≤q.vars∧q.vars≤1000

set_option maxHeartbeats 4000000 in
set_option maxRecDepth 100000 in
theorem compile_ok (l:List Cs) (q:Cs) (hk:CmpOk l q) (hf:PCtr Tryz.prog 31 [q.av,prV l] (bV true)):PCtr Tryz.prog 10 [prV l,q.av] (.tup [(compG l q).av,iV 0]):=by
 have hll:=hk.len
 have hls:=hk.size
 refine PCtr.of_R (pf:=pfCmp15) tyOk mixed Tryz.func10 rfl (by kernel_rfl) (by kernel_rfl) (by simp [Tryz.ntmps10]) fun w S hg=>?_
 refine R_run hg.ok 1000 rfl rfl ?_
 refine R_call hg.ok (hf) rfl rfl rfl rfl rfl rfl ?_
 refine R_run hg.ok 1000 rfl rfl ?_
 refine R_if rfl rfl (fun h=>absurd h (by simp)) (fun _=>?_) <;> refine R_run hg.ok 1000 rfl rfl ?_
 refine R_ownB 3 0 4 rfl rfl rfl ?_
 refine R_ownB 3 1 7 rfl rfl rfl ?_
 refine R_loop (fun k:Nat=>([(3,.lo 1 0),(4,.lo 2 0),(6,.lo 3 0),(18,.d (.sl (Cs.rows l))),(19,iV l.length),(20,iV k)],cm6 l q 0 (codeL (l.take k) []) (entL (l.take k) 0))) (fun k=>k≤l.length) (fun k=>l.length - k) 0 (Nat.zero_le _) ⟨.refl _,.refl _,.refl _,.refl _,by rw [Cs.rows_len]; exact .refl _,.refl _,trivial⟩ rfl ?_
 rintro k hkl
 refine R_run hg.ok 1000 rfl rfl ?_
 refine R_if rfl rfl (fun h=>?_) (fun h=>?_) <;> refine R_run hg.ok 1000 rfl rfl ?_
 ·have hk1:k<l.length:=lt_dec h rfl
  have e1:l[k]? = some l[k]:=List.getElem?_eq_getElem hk1
  have hm:=List.getElem_mem hk1
  have hx5:=hk.five _ hm
  have hxv:=hk.vars _ hm
  have hxs:=cs_size_mem hm
  have hcl:=codeL_len (l.take k) [] fun c hc=>(hk.vars c (List.mem_of_mem_take hc)).2
  have htl:=cs_sizeL_take l k
  have hlt:(l.take k).length≤210:=by rw [List.length_take]; omega
  have hel:=entL_len (l.take k) 0
  have hct:=codeL_take e1 []
  have het:=entL_take e1
  generalize l[k]=x at *
  generalize codeL (l.take k) []=c at *
  generalize entL (l.take k) 0=e at *
  have hvv:x.vars=(x.vars.toNat:Int):=by omega
  have hxh:=Tm.size_eq x.head
  unfold Cs.size at hxs
  simp only [List.length_nil] at hcl
  have hH:=headGL_len x.head.l []
  have hF:=freshG_len (headGL x.head.l []).2 x.vars.toNat
  have hcH:(clsH x).length≤4001:=by unfold clsH; rw [List.length_append]; omega
  have hG:=golDL_len x.body (c++clsH x).length x.vars
  have htb:=testsGL_b x.body
  refine R_index hg.ok rfl rfl rfl rfl rfl rfl (Int.natCast_nonneg _) (Cs.rows_get e1) rfl ?_
  refine R_run hg.ok 1000 rfl rfl ?_
  refine R_makeMap hg.ok rfl rfl ?_
  refine R_run hg.ok 1000 rfl rfl ?_
  refine R_lenO hg.ok rfl rfl rfl rfl rfl (n:=(c.length:Int)) (by rw [Is.rows_len]) ?_
  refine R_run hg.ok 1000 rfl rfl ?_
  have p1:=cdAllH_ok ⟨[],fun _=>true⟩ x.head.l (fun t _=>cdHead_ok _ t) [] x.vars 0 c e (by omega)
  refine R_callSO hg.ok hg.gup ⟨rfl,rfl⟩ (fun _ _ _ _ h=>by cases h) [8,3,7,4,5] (cm6 l q 0 (c++(headGL x.head.l []).1) e++[csBox x,.map (imap (setB (headGL x.head.l []).2)),.box [.lo 3 0,.mp 7,iV x.vars]]) (p1) (fun _=>rfl) rfl rfl rfl rfl rfl (by rw [cdO_ren2]; rfl) rfl (by rw [cdO_ren2]; rfl) ?_
  refine R_run hg.ok 1000 rfl rfl ?_
  have p2:=cdFresh_ok ⟨[],fun _=>true⟩ x.vars.toNat (by omega) (headGL x.head.l []).2 x.vars 0 (c++(headGL x.head.l []).1) e (by rw [List.length_append]; omega)
  rw [← hvv,List.append_assoc,show (headGL x.head.l []).1++freshG (headGL x.head.l []).2 x.vars.toNat=clsH x from rfl] at p2
  generalize (headGL x.head.l []).2=M at *
  refine R_callSO hg.ok hg.gup ⟨rfl,rfl⟩ (fun _ _ _ _ h=>by cases h) [8,3,7,4,5] (cm6 l q 0 (c++clsH x) e++[csBox x,.map (imap (setB M)),.box [.lo 3 0,.mp 7,iV x.vars]]) (p2) (fun _=>rfl) rfl rfl rfl rfl rfl (by rw [cdO_ren2]; rfl) rfl (by rw [cdO_ren2]; rfl) ?_
  refine R_run hg.ok 1000 rfl rfl ?_
  have p3:=cdGoals_ok ⟨[],fun _=>true⟩ x.body M x.vars 0 (c++clsH x) e hx5 (by rw [List.length_append]; omega) hxv.1 (by omega)
  refine R_callSO hg.ok hg.gup ⟨rfl,rfl⟩ (fun _ _ _ _ h=>by cases h) [8,3,7,4,5] (cm6 l q 0 (c++clsH x++golDL x.body (c++clsH x).length x.vars) e++[csBox x,.map (imap (setB M)),.box [.lo 3 0,.mp 7,iV (x.vars+testsGL x.body)]]) (p3) (fun _=>rfl) rfl rfl rfl rfl rfl (by rw [cdO_ren2]; rfl) rfl (by rw [cdO_ren2]; rfl) ?_
  refine R_run hg.ok 1000 rfl rfl ?_
  have p4:=cdAdd_ok ⟨[],fun _=>true⟩ M (x.vars+testsGL x.body) 0 (c++clsH x++golDL x.body (c++clsH x).length x.vars) e (Is.mk 12 0 0 e0) (by have h7:=is_len_app (c++clsH x) (golDL x.body (c++clsH x).length x.vars); have h8:=is_len_app (c) (clsH x); omega)
  have hcc:c++clsH x++golDL x.body (c++clsH x).length x.vars++[Is.mk 12 0 0 e0]=c++clsC x c.length:=by
   unfold clsC; rw [List.length_append]; simp only [List.append_assoc]
  rw [hcc,← hct] at p4
  refine R_callSO hg.ok hg.gup ⟨rfl,rfl⟩ (fun _ _ _ _ h=>by cases h) [8,3,7,4,5] (cm6 l q 0 (codeL (l.take (k+1)) []) e++[csBox x,.map (imap (setB M)),.box [.lo 3 0,.mp 7,iV (x.vars+testsGL x.body)]]) (p4) (fun _=>rfl) rfl rfl rfl rfl rfl (by rw [cdO_ren2]; rfl) rfl (by rw [cdO_ren2]; rfl) ?_
  refine R_run hg.ok 1000 rfl rfl ?_
  refine R_call hg.ok (key_ok x.head) rfl rfl rfl rfl rfl rfl ?_
  refine R_run hg.ok 1000 rfl rfl ?_
  rw [Tm.rows_length]
  have hel2:(e++[entG x c.length]).length=Nat.succ e.length:=by simp
  refine R_appendO hg.ok (En.rows (e++[entG x c.length])) rfl rfl rfl rfl rfl rfl rfl rfl rfl (by simp [kyA]) (by simp [one1,kyA]) (En.rows_snoc e (entG x c.length)) (by rw [En.rows_len]; simp; omega) (by rw [En.rows_len]; simp; omega) ?_
  rw [← hel2,← het]
  refine R_run hg.ok 1000 rfl rfl ?_
  refine R_dropO 6 (cm6 l q 0 (codeL (l.take (k+1)) []) (entL (l.take (k+1)) 0)) (Nat.zero_le _) rfl rfl ?_
  exact R_next (k+1) hk1 (by omega) ⟨.refl _,.refl _,.refl _,.refl _,.refl _,Ent.wrap (by omega) (by omega) (by omega),trivial⟩ rfl
 ·have hk1:l.length≤k:=ge_dec h rfl
  rw [List.take_of_length_le hk1]
  have hcl:=codeL_len l [] fun c hc=>(hk.vars c hc).2
  simp only [List.length_nil] at hcl
  have hcg:(compG l q)=⟨codeL l []++qryE q (codeL l []).length,entL l 0,(codeL l []).length,q.vars+testsGL q.body⟩:=rfl
  rw [hcg]
  clear hcg
  generalize codeL l []=c at *
  generalize entL l 0=e at *
  have hqs:=hk.qsize
  have hqv:=hk.qvars
  unfold Cs.size at hqs
  have hvv:q.vars=(q.vars.toNat:Int):=by omega
  have hF:=freshG_len [] q.vars.toNat
  have hG:=golDL_len q.body (c++qryH q).length q.vars
  have htb:=testsGL_b q.body
  have hxh:=Tm.size_eq q.head
  have hpl:=putGL_len q.head.l
  refine R_lenO hg.ok rfl rfl rfl rfl rfl (n:=(c.length:Int)) (by rw [Is.rows_len]) ?_
  refine R_run hg.ok 1000 rfl rfl ?_
  refine R_makeMap hg.ok rfl rfl ?_
  refine R_run hg.ok 1000 rfl rfl ?_
  have p2:=cdFresh_ok ⟨[],fun _=>true⟩ q.vars.toNat (by omega) [] q.vars c.length c e (by omega)
  rw [← hvv,show freshG [] q.vars.toNat=qryH q from rfl] at p2
  have hQ:(qryH q).length≤1000:=by unfold qryH; omega
  refine R_callSO hg.ok hg.gup ⟨rfl,rfl⟩ (fun _ _ _ _ h=>by cases h) [7,3,6,4,5] (cm6 l q c.length (c++qryH q) e++[.map (imap (setB [])),.box [.lo 3 0,.mp 6,iV q.vars]]) (p2) (fun _=>rfl) rfl rfl rfl rfl rfl (by rw [cdO_ren2]; rfl) rfl (by rw [cdO_ren2]; rfl) ?_
  refine R_run hg.ok 1000 rfl rfl ?_
  have h8:=is_len_app (c) (qryH q)
  have p3:=cdGoals_ok ⟨[],fun _=>true⟩ q.body [] q.vars c.length (c++qryH q) e hk.qfive (by omega) hqv.1 (by omega)
  refine R_callSO hg.ok hg.gup ⟨rfl,rfl⟩ (fun _ _ _ _ h=>by cases h) [7,3,6,4,5] (cm6 l q c.length (c++qryH q++golDL q.body (c++qryH q).length q.vars) e++[.map (imap (setB [])),.box [.lo 3 0,.mp 6,iV (q.vars+testsGL q.body)]]) (p3) (fun _=>rfl) rfl rfl rfl rfl rfl (by rw [cdO_ren2]; rfl) rfl (by rw [cdO_ren2]; rfl) ?_
  refine R_run hg.ok 1000 rfl rfl ?_
  have h7:=is_len_app (c++qryH q) (golDL q.body (c++qryH q).length q.vars)
  have p4:=cdAllP_ok ⟨[],fun _=>true⟩ q.head.l (fun t _=>cdPut_ok _ t) [] (q.vars+testsGL q.body) c.length (c++qryH q++golDL q.body (c++qryH q).length q.vars) e (by omega)
  refine R_callSO hg.ok hg.gup ⟨rfl,rfl⟩ (fun _ _ _ _ h=>by cases h) [7,3,6,4,5] (cm6 l q c.length (c++qryH q++golDL q.body (c++qryH q).length q.vars++putGL q.head.l) e++[.map (imap (setB [])),.box [.lo 3 0,.mp 6,iV (q.vars+testsGL q.body)]]) (p4) (fun _=>rfl) rfl rfl rfl rfl rfl (by rw [cdO_ren2]; rfl) rfl (by rw [cdO_ren2]; rfl) ?_
  refine R_run hg.ok 1000 rfl rfl ?_
  rw [Tm.rows_length]
  have h9:=is_len_app (c++qryH q++golDL q.body (c++qryH q).length q.vars) (putGL q.head.l)
  have p5:=cdAdd_ok ⟨[],fun _=>true⟩ [] (q.vars+testsGL q.body) c.length (c++qryH q++golDL q.body (c++qryH q).length q.vars++putGL q.head.l) e (Is.mk 18 0 q.head.l.length e0) (by omega)
  have hcc:c++qryH q++golDL q.body (c++qryH q).length q.vars++putGL q.head.l++[Is.mk 18 0 q.head.l.length e0]=c++qryE q c.length:=by
   unfold qryE; rw [List.length_append]; simp only [List.append_assoc]
  rw [hcc] at p5
  refine R_callSO hg.ok hg.gup ⟨rfl,rfl⟩ (fun _ _ _ _ h=>by cases h) [7,3,6,4,5] (cm6 l q c.length (c++qryE q c.length) e++[.map (imap (setB [])),.box [.lo 3 0,.mp 6,iV (q.vars+testsGL q.body)]]) (p5) (fun _=>rfl) rfl rfl rfl rfl rfl (by rw [cdO_ren2]; rfl) rfl (by rw [cdO_ren2]; rfl) ?_
  refine R_run hg.ok 1000 rfl rfl ?_
  refine R_ret hg 5 rfl (sealA_tup (mapO_cons (sealA_agg (mapO_cons (sealA_ow rfl) (mapO_cons (sealA_ow rfl) rfl))) rfl)) ?_
  rfl
end Go.Proofs.YtcgkgofmldhokaaGreat

namespace PSL
open Go Go.RowKit
section
variable {g:G} {pf:Nat→Cls} {ops:Array Oper} {Fin:Exit→Act→World→Prop}

theorem R_lenD (hg:GOk g) {dst:Option Nat} {T:Nat} {x:Operand} {ty:Nat} {pos:String} {after:Array Edge} {gd:Option (Nat × Bool)} {rest:List Oper} {k:List It} {E:Env} {objs:List Ob}
  {q by_ e sz:Nat} {z:List Value} {rows:List (List D)} {n:Int}
  (hgd:guardA ops.toList E gd=some true) (hd:dstOk ⟨g.ty,g.N⟩ dst=true) (hx:nrm (ev E x)=.d (.sl rows)) (hT:g.ty T=some ⟨q,by_,z,.slice e⟩) (hlr:∀ r∈rows,r.length=sz) (hn:(rows.length:Int)=n)
  (hr:R g pf Fin (.dr ops rest::k) (putO E dst (iV n)) objs):R g pf Fin (.dr ops (⟨dst,.call { callee:=.builtin .len,args:=#[x],argTypes:=#[T] },ty,pos,after,gd⟩::rest)::k) E objs:=by
 subst hn
 refine R_op (LocOp.up (LocOp.quiet hg hgd hd (by simp) fun φ objs a w hρ hs=>?_)) hr
 simp only [Op.operands,Call.operands] at hρ
 have hxv:=Ent.nrm _ _ _ _ _ (hρ x (by simp))
 rw [hx] at hxv
 simp only [RV] at hxv
 obtain ⟨cells,hN⟩:=Fst.of_rd (P:=g.P) hxv hlr
 obtain ⟨p,c,hs2⟩:=hN.sl
 refine out_val hs (vv:=.int .i64 rows.length) ?_ (by simp only [RV,iV]; exact .v _)
 have hu:=und_slice hg hT
 simp only [execOp,resolve,Sem.run_bind,Sem.run_pure,Result.andThen_ok,invoke,builtin,List.map_toArray,List.map_cons,List.map_nil,hs2]
 simp [run_lenArr hu (.inr ⟨⟨_,rfl⟩,_,_,_,rfl,rfl⟩)]
end
end PSL

namespace Go.Proofs.YtcgkgofmldhokaaGreat
open Go PSL Go.Proofs
def pfRc15:Nat→Cls:=fun f=>bif Nat.beq f 44 then .turn 0 else bif Nat.beq f 4000000007 then .loadB else bif Nat.beq f 4000300149 then .look 4 else .still

theorem tm_4 (l:List Tm):∀ r∈Tm.rows l,r.length=4:=by
 rw [Tm.rows_eq]
 intro r hr
 obtain ⟨g,_,rfl⟩:=List.mem_map.1 hr
 rfl

def rm6 (l:List Cs) (q:Cs) (at_ slots:Int) (s z:Nat) (c:List Is) (e:List En):List Ob:=[.box [.d (.sl (Cs.rows l))],csBox q,.box [.d (.v (.slice none 0 0)),.d (.v (.slice none 0 0)),iV 0,iV 0],.box [.ow 4 s,.ow 5 z,iV at_,iV slots],.arr 4 s (Is.rows c),.arr 7 z (En.rows e)]

set_option maxHeartbeats 4000000 in
set_option maxRecDepth 100000 in
theorem refCompile_ok (l:List Cs) (q:Cs) (hk:CmpOk l q):PCtr Tryz.prog 12 [prV l,q.av] (compG l q).av:=by
 have hll:=hk.len
 have hls:=hk.size
 refine PCtr.of_R (pf:=pfRc15) tyOk mixed Tryz.func12 rfl (by kernel_rfl) (by kernel_rfl) (by simp [Tryz.ntmps12]) fun w S hg=>?_
 refine R_run hg.ok 1000 rfl rfl ?_
 refine R_ownB 3 0 4 rfl rfl rfl ?_
 refine R_ownB 3 1 7 rfl rfl rfl ?_
 refine R_loop (fun k:Nat=>([(2,.lo 0 0),(3,.lo 1 0),(4,.lo 2 0),(5,.lo 3 0),(6,iV k)],rm6 l q 0 0 k k (codeL (l.take k) []) (entL (l.take k) 0))) (fun k=>k≤l.length) (fun k=>l.length - k) 0 (Nat.zero_le _) ⟨.refl _,.refl _,.refl _,.refl _,.refl _,trivial⟩ rfl ?_
 rintro k hkl
 refine R_run hg.ok 1000 rfl rfl ?_
 refine R_if rfl rfl (fun h=>?_) (fun h=>?_) <;> refine R_run hg.ok 1000 rfl rfl ?_
 ·have hk1:k<l.length:=lt_dec h (by rw [Cs.rows_len])
  have e1:l[k]? = some l[k]:=List.getElem?_eq_getElem hk1
  have hm:=List.getElem_mem hk1
  have hxv:=hk.vars _ hm
  have hxs:=cs_size_mem hm
  have hcl:=codeL_len (l.take k) [] fun c hc=>(hk.vars c (List.mem_of_mem_take hc)).2
  have htl:=cs_sizeL_take l k
  have hlt:(l.take k).length≤210:=by rw [List.length_take]; omega
  have hel:=entL_len (l.take k) 0
  have hct:=codeL_take e1 []
  have het:=entL_take e1
  have hcn:=clsC_len l[k] (codeL (l.take k) []).length
  generalize l[k]=x at *
  generalize codeL (l.take k) []=c at *
  generalize entL (l.take k) 0=e at *
  have hxh:=Tm.size_eq x.head
  unfold Cs.size at hxs
  simp only [List.length_nil] at hcl
  have htb:=testsGL_b x.body
  refine R_index hg.ok rfl rfl rfl rfl rfl rfl (Int.natCast_nonneg _) (Cs.rows_get e1) rfl ?_
  refine R_run hg.ok 1000 rfl rfl ?_
  refine R_lenO hg.ok rfl rfl rfl rfl rfl (n:=(c.length:Int)) (by rw [Is.rows_len]) ?_
  refine R_run hg.ok 1000 rfl rfl ?_
  refine R_call hg.ok (refTests_ok x.body (by omega)) rfl rfl rfl rfl rfl rfl ?_
  refine R_run hg.ok 1000 rfl rfl ?_
  rw [w64 (n:=x.vars+testsGL x.body) (by omega) (by omega),Tm.rows_length]
  -- ROUND
  have hll2:x.head.l=[]∨∃ t r,x.head.l=t::r:=by cases x.head.l with
   | nil=>exact .inl rfl
   | cons t r=>exact .inr ⟨t,r,rfl⟩
  rcases hll2 with hl | ⟨t,r,hl⟩
  ·refine R_if rfl rfl (fun h=>absurd h (by simp [hl])) (fun _=>?_) <;> refine R_run hg.ok 1000 rfl rfl ?_
   refine R_if rfl rfl (fun h=>absurd h (by simp [hl])) (fun _=>?_) <;> refine R_run hg.ok 1000 rfl rfl ?_
   have hent:entG x c.length=⟨x.head.s,x.head.l.length,c.length,x.vars+testsGL x.body,key0⟩:=by unfold entG; rw [hl]; rfl
   have hec:(e++[entG x c.length]).length=k+1:=by simp [hel]; omega
   refine R_appendO hg.ok (En.rows (e++[entG x c.length])) rfl rfl rfl rfl rfl rfl rfl rfl rfl (by simp) (by simp [one1]) (by rw [← En.rows_snoc,hent]; rfl) (by rw [En.rows_len]; simp; omega) (by rw [En.rows_len]; simp; omega) ?_
   refine R_run hg.ok 1000 rfl rfl ?_
   refine R_lenO hg.ok rfl rfl rfl rfl rfl (n:=(c.length:Int)) (by rw [Is.rows_len]) ?_
   refine R_run hg.ok 1000 rfl rfl ?_
   refine R_call hg.ok (refClause15_ok x c.length (by omega) (by omega) (by omega) hxv.1 hxv.2) rfl rfl rfl rfl rfl rfl ?_
   refine R_run hg.ok 1000 rfl rfl ?_
   refine R_appendO hg.ok (Is.rows (codeL (l.take (k+1)) [])) rfl rfl rfl rfl rfl rfl rfl rfl rfl (Is.rows_4 _) (Is.rows_1 _) (by rw [hct,Is.rows_app]) (by simp [Is.rows_len]; omega) (by simp [Is.rows_len]; omega) ?_
   refine R_run hg.ok 1000 rfl rfl ?_
   rw [← het]
   refine R_dropO 6 (rm6 l q 0 0 (Nat.succ k) (Nat.succ k) (codeL (l.take (k+1)) []) (entL (l.take (k+1)) 0)) (Nat.zero_le _) rfl rfl ?_
   exact R_next (k+1) hk1 (by omega) ⟨.refl _,.refl _,.refl _,.refl _,Ent.wrap (by omega) (by omega) (by omega),trivial⟩ rfl
  refine R_if rfl rfl (fun _=>?_) (fun h=>absurd h (by simp [hl] <;> omega)) <;> refine R_run hg.ok 1000 rfl rfl ?_
  refine R_index hg.ok rfl rfl rfl rfl rfl rfl (Int.natCast_nonneg _) ((Tm.rows_get (i:=0) (x:=t) (by rw [hl]; rfl))) rfl ?_
  refine R_run hg.ok 1000 rfl rfl ?_
  by_cases k2:t.k=2
  ·refine R_if rfl rfl (fun _=>?_) (fun h=>absurd h (by simp [k2])) <;> refine R_run hg.ok 1000 rfl rfl ?_
   refine R_index hg.ok rfl rfl rfl rfl rfl rfl (Int.natCast_nonneg _) ((Tm.rows_get (i:=0) (x:=t) (by rw [hl]; rfl))) rfl ?_
   refine R_run hg.ok 1000 rfl rfl ?_
   refine R_if rfl rfl (fun _=>?_) (fun h=>absurd h (by simp [hl] <;> omega)) <;> refine R_run hg.ok 1000 rfl rfl ?_
   refine R_index hg.ok rfl rfl rfl rfl rfl rfl (Int.natCast_nonneg _) ((Tm.rows_get (i:=0) (x:=t) (by rw [hl]; rfl))) rfl ?_
   refine R_run hg.ok 1000 rfl rfl ?_
   refine R_if rfl rfl (fun h=>absurd h (by simp [k2])) (fun _=>?_) <;> refine R_run hg.ok 1000 rfl rfl ?_
   have hent:entG x c.length=⟨x.head.s,x.head.l.length,c.length,x.vars+testsGL x.body,⟨2,t.n,e0⟩⟩:=by unfold entG; rw [hl]; unfold keyG keyT; simp only [if_pos k2]
   have hec:(e++[entG x c.length]).length=k+1:=by simp [hel]; omega
   refine R_appendO hg.ok (En.rows (e++[entG x c.length])) rfl rfl rfl rfl rfl rfl rfl rfl rfl (by simp) (by simp [one1]) (by rw [← En.rows_snoc,hent]; rfl) (by rw [En.rows_len]; simp; omega) (by rw [En.rows_len]; simp; omega) ?_
   refine R_run hg.ok 1000 rfl rfl ?_
   refine R_lenO hg.ok rfl rfl rfl rfl rfl (n:=(c.length:Int)) (by rw [Is.rows_len]) ?_
   refine R_run hg.ok 1000 rfl rfl ?_
   refine R_call hg.ok (refClause15_ok x c.length (by omega) (by omega) (by omega) hxv.1 hxv.2) rfl rfl rfl rfl rfl rfl ?_
   refine R_run hg.ok 1000 rfl rfl ?_
   refine R_appendO hg.ok (Is.rows (codeL (l.take (k+1)) [])) rfl rfl rfl rfl rfl rfl rfl rfl rfl (Is.rows_4 _) (Is.rows_1 _) (by rw [hct,Is.rows_app]) (by simp [Is.rows_len]; omega) (by simp [Is.rows_len]; omega) ?_
   refine R_run hg.ok 1000 rfl rfl ?_
   rw [← het]
   refine R_dropO 6 (rm6 l q 0 0 (Nat.succ k) (Nat.succ k) (codeL (l.take (k+1)) []) (entL (l.take (k+1)) 0)) (Nat.zero_le _) rfl rfl ?_
   exact R_next (k+1) hk1 (by omega) ⟨.refl _,.refl _,.refl _,.refl _,Ent.wrap (by omega) (by omega) (by omega),trivial⟩ rfl
  refine R_if rfl rfl (fun h=>absurd h (by simp [k2])) (fun _=>?_) <;> refine R_run hg.ok 1000 rfl rfl ?_
  refine R_if rfl rfl (fun _=>?_) (fun h=>absurd h (by simp [hl] <;> omega)) <;> refine R_run hg.ok 1000 rfl rfl ?_
  refine R_index hg.ok rfl rfl rfl rfl rfl rfl (Int.natCast_nonneg _) ((Tm.rows_get (i:=0) (x:=t) (by rw [hl]; rfl))) rfl ?_
  refine R_run hg.ok 1000 rfl rfl ?_
  by_cases k3:t.k=3
  ·refine R_if rfl rfl (fun _=>?_) (fun h=>absurd h (by simp [k3])) <;> refine R_run hg.ok 1000 rfl rfl ?_
   refine R_index hg.ok rfl rfl rfl rfl rfl rfl (Int.natCast_nonneg _) ((Tm.rows_get (i:=0) (x:=t) (by rw [hl]; rfl))) rfl ?_
   refine R_run hg.ok 1000 rfl rfl ?_
   rw [Tm.rows_length]
   refine R_index hg.ok rfl rfl rfl rfl rfl rfl (Int.natCast_nonneg _) ((Tm.rows_get (i:=0) (x:=t) (by rw [hl]; rfl))) rfl ?_
   refine R_run hg.ok 1000 rfl rfl ?_
   have hent:entG x c.length=⟨x.head.s,x.head.l.length,c.length,x.vars+testsGL x.body,⟨3,t.l.length,t.s⟩⟩:=by unfold entG; rw [hl]; unfold keyG keyT; simp only [if_neg k2,if_pos k3]
   have hec:(e++[entG x c.length]).length=k+1:=by simp [hel]; omega
   refine R_appendO hg.ok (En.rows (e++[entG x c.length])) rfl rfl rfl rfl rfl rfl rfl rfl rfl (by simp) (by simp [one1]) (by rw [← En.rows_snoc,hent]; rfl) (by rw [En.rows_len]; simp; omega) (by rw [En.rows_len]; simp; omega) ?_
   refine R_run hg.ok 1000 rfl rfl ?_
   refine R_lenO hg.ok rfl rfl rfl rfl rfl (n:=(c.length:Int)) (by rw [Is.rows_len]) ?_
   refine R_run hg.ok 1000 rfl rfl ?_
   refine R_call hg.ok (refClause15_ok x c.length (by omega) (by omega) (by omega) hxv.1 hxv.2) rfl rfl rfl rfl rfl rfl ?_
   refine R_run hg.ok 1000 rfl rfl ?_
   refine R_appendO hg.ok (Is.rows (codeL (l.take (k+1)) [])) rfl rfl rfl rfl rfl rfl rfl rfl rfl (Is.rows_4 _) (Is.rows_1 _) (by rw [hct,Is.rows_app]) (by simp [Is.rows_len]; omega) (by simp [Is.rows_len]; omega) ?_
   refine R_run hg.ok 1000 rfl rfl ?_
   rw [← het]
   refine R_dropO 6 (rm6 l q 0 0 (Nat.succ k) (Nat.succ k) (codeL (l.take (k+1)) []) (entL (l.take (k+1)) 0)) (Nat.zero_le _) rfl rfl ?_
   exact R_next (k+1) hk1 (by omega) ⟨.refl _,.refl _,.refl _,.refl _,Ent.wrap (by omega) (by omega) (by omega),trivial⟩ rfl
  refine R_if rfl rfl (fun h=>absurd h (by simp [k3])) (fun _=>?_) <;> refine R_run hg.ok 1000 rfl rfl ?_
  have hent:entG x c.length=⟨x.head.s,x.head.l.length,c.length,x.vars+testsGL x.body,key0⟩:=by unfold entG; rw [hl]; unfold keyG keyT; simp only [if_neg k2,if_neg k3]
  have hec:(e++[entG x c.length]).length=k+1:=by simp [hel]; omega
  refine R_appendO hg.ok (En.rows (e++[entG x c.length])) rfl rfl rfl rfl rfl rfl rfl rfl rfl (by simp) (by simp [one1]) (by rw [← En.rows_snoc,hent]; rfl) (by rw [En.rows_len]; simp; omega) (by rw [En.rows_len]; simp; omega) ?_
  refine R_run hg.ok 1000 rfl rfl ?_
  refine R_lenO hg.ok rfl rfl rfl rfl rfl (n:=(c.length:Int)) (by rw [Is.rows_len]) ?_
  refine R_run hg.ok 1000 rfl rfl ?_
  refine R_call hg.ok (refClause15_ok x c.length (by omega) (by omega) (by omega) hxv.1 hxv.2) rfl rfl rfl rfl rfl rfl ?_
  refine R_run hg.ok 1000 rfl rfl ?_
  refine R_appendO hg.ok (Is.rows (codeL (l.take (k+1)) [])) rfl rfl rfl rfl rfl rfl rfl rfl rfl (Is.rows_4 _) (Is.rows_1 _) (by rw [hct,Is.rows_app]) (by simp [Is.rows_len]; omega) (by simp [Is.rows_len]; omega) ?_
  refine R_run hg.ok 1000 rfl rfl ?_
  rw [← het]
  refine R_dropO 6 (rm6 l q 0 0 (Nat.succ k) (Nat.succ k) (codeL (l.take (k+1)) []) (entL (l.take (k+1)) 0)) (Nat.zero_le _) rfl rfl ?_
  exact R_next (k+1) hk1 (by omega) ⟨.refl _,.refl _,.refl _,.refl _,Ent.wrap (by omega) (by omega) (by omega),trivial⟩ rfl
 ·have hk1:l.length≤k:=ge_dec h (by rw [Cs.rows_len])
  have hke:k=l.length:=by omega
  subst hke
  rw [List.take_length]
  have hcl:=codeL_len l [] fun c hc=>(hk.vars c hc).2
  simp only [List.length_nil] at hcl
  have hcg:(compG l q)=⟨codeL l []++qryE q (codeL l []).length,entL l 0,(codeL l []).length,q.vars+testsGL q.body⟩:=rfl
  rw [hcg]
  clear hcg
  generalize codeL l []=c at *
  generalize entL l 0=e at *
  have hqs:=hk.qsize
  have hqv:=hk.qvars
  unfold Cs.size at hqs
  have hG:=golDL_len q.body (c.length+(qryH q).length) q.vars
  have htb:=testsGL_b q.body
  have hxh:=Tm.size_eq q.head
  have hpl:=putGL_len q.head.l
  have htl:=Tm.len_le_sizeL q.head.l
  refine R_lenO hg.ok rfl rfl rfl rfl rfl (n:=(c.length:Int)) (by rw [Is.rows_len]) ?_
  refine R_run hg.ok 1000 rfl rfl ?_
  refine R_call hg.ok (refTests_ok q.body (by omega)) rfl rfl rfl rfl rfl rfl ?_
  refine R_run hg.ok 1000 rfl rfl ?_
  rw [w64 (n:=q.vars+testsGL q.body) (by omega) (by omega)]
  refine R_own 9 4 rfl rfl ?_
  refine R_loop (fun v:Nat=>([(3,.lo 1 0),(4,.lo 2 0),(5,.lo 3 0),(9,.ow 6 v),(10,iV v)],rm6 l q c.length (q.vars+testsGL q.body) l.length l.length c e++[.arr 4 v (Is.rows (freshG [] v))])) (fun v=>(v:Int)≤q.vars) (fun v=>q.vars.toNat - v) 0 hqv.1 ⟨.refl _,.refl _,.refl _,.refl _,.refl _,trivial⟩ rfl ?_
  rintro v hv
  have hfv:=freshG_len [] v
  refine R_run hg.ok 1000 rfl rfl ?_
  refine R_if rfl rfl (fun h=>?_) (fun h=>?_) <;> refine R_run hg.ok 1000 rfl rfl ?_
  ·have hv1:(v:Int)<q.vars:=of_decide_eq_true h
   have hfs:freshG [] (v+1)=freshG [] v++[Is.mk 5 (v:Int) 0 e0]:=by rw [freshG_succ]; rfl
   refine R_appendO hg.ok (Is.rows (freshG [] (v+1))) rfl rfl rfl rfl rfl rfl rfl rfl rfl (by simp) (by simp [one1]) (by rw [hfs]; exact Is.rows_snoc (freshG [] v) (Is.mk 5 (v:Int) 0 e0)) (by simp [Is.rows_len]; omega) (by simp [Is.rows_len]; omega) ?_
   refine R_run hg.ok 1000 rfl rfl ?_
   exact R_next (v+1) (by show ((v+1:Nat):Int)≤q.vars; omega) (by omega) ⟨.refl _,.refl _,.refl _,.refl _,Ent.wrap (by omega) (by omega) (by omega),trivial⟩ rfl
  ·have hv1:¬ (v:Int)<q.vars:=of_decide_eq_false h
   have hve:v=q.vars.toNat:=by omega
   subst hve
   rw [show freshG [] q.vars.toNat=qryH q from rfl] at hfv ⊢
   have hqe:qryE q c.length=qryH q++golDL q.body (c.length+(qryH q).length) q.vars++putGL q.head.l++[Is.mk 18 0 q.head.l.length e0]:=rfl
   rw [hqe]
   clear hqe
   generalize qryH q=Q at *
   refine R_lenO hg.ok rfl rfl rfl rfl rfl (n:=(Q.length:Int)) (by rw [Is.rows_len]) ?_
   refine R_run hg.ok 1000 rfl rfl ?_
   rw [w64 (n:=(c.length:Int)+(Q.length:Int)) (by omega) (by omega),show (c.length:Int)+(Q.length:Int)=((c.length+Q.length:Nat):Int) by omega]
   refine R_call hg.ok (refGoals_ok q.body (c.length+Q.length) q.vars (by omega) hqv.1 (by omega)) rfl rfl rfl rfl rfl rfl ?_
   refine R_run hg.ok 1000 rfl rfl ?_
   generalize golDL q.body (c.length+Q.length) q.vars=G at *
   refine R_appendO hg.ok (Is.rows (Q++G)) rfl rfl rfl rfl rfl rfl rfl rfl rfl (Is.rows_4 _) (Is.rows_1 _) (Is.rows_app _ _).symm (by simp [Is.rows_len]; omega) (by simp [Is.rows_len]; omega) ?_
   refine R_run hg.ok 1000 rfl rfl ?_
   refine R_callNew hg.ok hg.gup ⟨rfl,rfl⟩ (fun _ _ _ _ h=>by cases h) (rm6 l q c.length (q.vars+testsGL q.body) l.length l.length c e++[.arr 4 (Nat.succ q.vars.toNat) (Is.rows (Q++G)),.arr 4 q.head.l.length (Is.rows (putGL q.head.l))]) (refPuts_ok ⟨[],fun _=>true⟩ q.head.l (by omega)) (fun _=>rfl) rfl rfl rfl rfl rfl rfl ?_
   refine R_run hg.ok 1000 rfl rfl ?_
   refine R_appendOO hg.ok rfl rfl rfl rfl rfl rfl rfl rfl rfl rfl (Is.rows_4 _) (Is.rows_1 _) (by simp [Is.rows_len]; omega) (by simp [Is.rows_len]; omega) ?_
   rw [← Is.rows_app]
   refine R_run hg.ok 1000 rfl rfl ?_
   refine R_appendOO hg.ok rfl rfl rfl rfl rfl rfl rfl rfl rfl rfl (Is.rows_4 _) (Is.rows_1 _) (by simp [Is.rows_len]; omega) (by simp [Is.rows_len]; omega) ?_
   rw [← Is.rows_app]
   refine R_run hg.ok 1000 rfl rfl ?_
   refine R_lenD hg.ok rfl rfl rfl rfl (tm_4 q.head.l) (n:=(q.head.l.length:Int)) (by rw [Tm.rows_length]) ?_
   refine R_run hg.ok 1000 rfl rfl ?_
   refine R_appendO hg.ok (Is.rows (c++(Q++G++putGL q.head.l)++[Is.mk 18 0 q.head.l.length e0])) rfl rfl rfl rfl rfl rfl rfl rfl rfl (by simp) (by simp [one1]) (Is.rows_snoc _ (Is.mk 18 0 q.head.l.length e0)) (by simp [Is.rows_len]; omega) (by simp [Is.rows_len]; omega) ?_
   refine R_run hg.ok 1000 rfl rfl ?_
   rw [show c++(Q++G++putGL q.head.l)++[Is.mk 18 0 q.head.l.length e0]=c++(Q++G++putGL q.head.l++[Is.mk 18 0 q.head.l.length e0]) by simp only [List.append_assoc]]
   refine R_ret hg 5 rfl (sealA_agg (mapO_cons (sealA_ow rfl) (mapO_cons (sealA_ow rfl) rfl))) ?_
   rfl
end Go.Proofs.YtcgkgofmldhokaaGreat

namespace PSL
open Go Go.RowKit
section
variable {g:G} {pf:Nat→Cls} {ops:Array Oper} {Fin:Exit→Act→World→Prop}

theorem rvs_vals {S:Nat→Prop} {w:World} {φ:List Phy}:∀ (l:List Value) (vs:List Value),RVs S w φ (l.map fun v=>.d (.v v)) vs→vs=l
 | [],[],_=>rfl
 | [],_::_,h=>by simp [RVs] at h
 | _::_,[],h=>by simp [RVs] at h
 | a::l,b::vs,h=>by
  simp only [List.map_cons,RVs] at h
  obtain ⟨h1,h2⟩:=h
  simp only [RV] at h1
  cases h1
  rw [rvs_vals l vs h2]
end
end PSL

namespace PSL
open Go Go.RowKit

theorem Ent.agg {l m:List AV} (h:EntL l m):Ent (.agg l) (.agg m):=fun S w φ v hv=>by
 simp only [RV] at hv ⊢
 obtain ⟨cs,h1,h2⟩:=hv
 exact ⟨cs,h1,h.rvs h2⟩
section
variable {g:G} {pf:Nat→Cls} {ops:Array Oper} {Fin:Exit→Act→World→Prop}

theorem R_eqlV (hg:GOk g) (vs us:List Value) (r:Bool) {dst:Option Nat} {T T':Nat} {x y:Operand} {ty:Nat} {pos:String} {after:Array Edge} {gd:Option (Nat × Bool)} {rest:List Oper} {k:List It} {E:Env} {objs:List Ob}
  (hgd:guardA ops.toList E gd=some true) (hd:dstOk ⟨g.ty,g.N⟩ dst=true) (hx:ev E x=.agg (vs.map fun v=>.d (.v v))) (hy:ev E y=.agg (us.map fun v=>.d (.v v)))
  (hrun:∀ w,((do eqGuard .eql T x y (.agg vs.toArray) (.agg us.toArray); binOp .eql T (.agg vs.toArray) (.agg us.toArray)):Sem Value).run g.P w=.ok (.bool r) w)
  (hr:R g pf Fin (.dr ops rest::k) (putO E dst (.d (.v (.bool r)))) objs):R g pf Fin (.dr ops (⟨dst,.binOp .eql T x y T',ty,pos,after,gd⟩::rest)::k) E objs:=by
 refine R_op (LocOp.up (LocOp.quiet hg hgd hd (by simp) fun φ objs w' w hρ hs'=>?_)) hr
 simp only [Op.operands] at hρ
 have hxv:=hρ x (by simp)
 rw [hx] at hxv
 have hyv:=hρ y (by simp)
 rw [hy] at hyv
 simp only [RV] at hxv hyv
 obtain ⟨cx,ex,hxv⟩:=hxv
 obtain ⟨cy,ey,hyv⟩:=hyv
 have hxv:=rvs_vals vs cx hxv
 have hyv:=rvs_vals us cy hyv
 subst hxv; subst hyv
 refine out_val hs' (vv:=.bool r) ?_ (by simp only [RV]; exact .v _)
 have h2:=hrun w
 simp only [Sem.run_bind] at h2
 simp only [execOp,Sem.run_bind,ex,ey]
 have e:∀ (r1:Result Unit) (f:Unit→World→Result Value),(r1.andThen f).andThen (fun v w'=>.ok (Next.value v) w')=r1.andThen fun u w'=>(f u w').andThen (fun v w'=>.ok (Next.value v) w'):=fun r1 f=>by cases r1 <;> rfl
 rw [h2]; rfl
end
end PSL

namespace PSL
open Go
end PSL

namespace PSL
open Go
section
variable {B:Binds} {M:Nat}
end
end PSL

namespace PSL
open Go
namespace Tm

def walkT (B:Binds):Nat→Tm→Tm
 | 0,t=>t
 | f+1,t=>if t.k=1 then (match findB B t.n with | some x=>walkT B f x | none=>t) else t
def walkB (B:Binds) (t:Tm):Tm:=walkT B (B.length+1) t

mutual
def lkT (g:Int→List Int→Bool × List Int):Tm→List Int→Bool × List Int
 | mk k _ n l,M=>if k=1 then g n M else lkTL g l M
def lkTL (g:Int→List Int→Bool × List Int):List Tm→List Int→Bool × List Int
 | [],M=>(false,M)
 | x::r,M=>if (lkT g x M).1 then (true,(lkT g x M).2) else lkTL g r (lkT g x M).2
end

def lkF (B:Binds) (v:Int):Nat→Int→List Int→Bool × List Int
 | 0,n,M=>(decide (n=v),M)
 | u+1,n,M=>if n=v then (true,M) else match findB B n with
  | none=>(false,M)
  | some x=>if M.contains n then (false,M) else lkT (lkF B v u) x (M++[n])
def withB (B:Binds) (v:Int) (t:Tm):Bool:=(lkT (lkF B v (B.length+1)) t []).1
def clashB (x y:Tm):Bool:=decide (x.k≠y.k) || decide (x.n≠y.n) || !strEq x.s y.s || decide (x.l.length≠y.l.length)

def uniF:Nat→List (Tm × Tm)→Binds→List (Int × Int)→Option (Option Binds)
 | 0,_,_,_=>none
 | f+1,T,B,met=>match T.getLast? with
  | none=>some (some B)
  | some (x,y) =>
   if (decide (x.k=1)&&decide (y.k=1))&&met.contains (x.n,y.n) then uniF f T.dropLast B met else
   let met':=if decide (x.k=1)&&decide (y.k=1) then met++[(x.n,y.n)] else met
   let x':=walkB B x
   let y':=walkB B y
   if x'.k=1∧y'.k=1∧x'.n=y'.n then uniF f T.dropLast B met'
   else if x'.k=1 then (if withB B x'.n y' then some none else uniF f T.dropLast (B++[(x'.n,y')]) met')
   else if y'.k=1 then (if withB B y'.n x' then some none else uniF f T.dropLast (B++[(y'.n,x')]) met')
   else if clashB x' y' then some none
   else uniF f (T.dropLast++x'.l.zip y'.l) B met'
def solB (σ:Int→Tm) (B:Binds):Prop:=∀ b∈B,σ b.1=putF σ b.2

theorem putF_var {σ:Int→Tm} {t:Tm} (h:t.k=1):putF σ t=σ t.n:=by
 cases t; simp only [k,n] at h ⊢; simp only [putF]; rw [if_pos h]

theorem putF_fun {σ:Int→Tm} {t:Tm} (h:t.k≠1):putF σ t=mk t.k t.s t.n (putFL σ t.l):=by
 cases t; simp only [k,n,s,l] at h ⊢; simp only [putF]; rw [if_neg h]
theorem size_pos (t:Tm):1≤size t:=by rw [size_eq]; omega

theorem walk_sol {σ:Int→Tm} {B:Binds} (h:solB σ B):∀ (f:Nat) (t:Tm),putF σ (walkT B f t)=putF σ t
 | 0,t=>rfl
 | f+1,t=>by
  simp only [walkT]
  by_cases hk:t.k=1
  ·rw [if_pos hk]
   cases hf:findB B t.n with
   | none=>rfl
   | some x =>
    simp only
    rw [walk_sol h f x,putF_var hk,h _ (findB_mem hf)]
  ·rw [if_neg hk]

def lkOk (σ:Int→Tm) (v:Int) (g:Int→List Int→Bool × List Int):Prop:=∀ n M,(g n M).1=true→size (σ v)≤size (σ n)

mutual
theorem lkT_size {σ:Int→Tm} {v:Int} {g:Int→List Int→Bool × List Int} (hg:lkOk σ v g):∀ (t:Tm) (M:List Int),(lkT g t M).1=true→size (σ v)≤size (putF σ t)∧(t.k≠1→size (σ v)<size (putF σ t))
 | mk k s n l,M,h=>by
  simp only [lkT] at h
  by_cases hk:k=1
  ·rw [if_pos hk] at h
   have:=hg n M h
   simp only [putF,if_pos hk,Tm.k]
   exact ⟨this,fun hne=>absurd hk hne⟩
  ·rw [if_neg hk] at h
   have:=lkTL_size hg l M h
   simp only [putF,if_neg hk,size]
   exact ⟨by omega,fun _=>by omega⟩
theorem lkTL_size {σ:Int→Tm} {v:Int} {g:Int→List Int→Bool × List Int} (hg:lkOk σ v g):∀ (l:List Tm) (M:List Int),(lkTL g l M).1=true→size (σ v)≤sizeL (putFL σ l)
 | [],M,h=>by simp [lkTL] at h
 | x::r,M,h=>by
  simp only [lkTL] at h
  simp only [putFL,sizeL]
  by_cases hx:(lkT g x M).1=true
  ·have:=(lkT_size hg x M hx).1; omega
  ·rw [if_neg hx] at h
   have:=lkTL_size hg r _ h; omega
end

theorem lkF_ok {σ:Int→Tm} {B:Binds} (h:solB σ B) (v:Int):∀ u,lkOk σ v (lkF B v u)
 | 0,n,M,hl=>by simp only [lkF,decide_eq_true_eq] at hl; rw [hl]; exact Nat.le_refl _
 | u+1,n,M,hl=>by
  simp only [lkF] at hl
  by_cases hn:n=v
  ·rw [hn]; exact Nat.le_refl _
  ·rw [if_neg hn] at hl
   cases hf:findB B n with
   | none=>rw [hf] at hl; cases hl
   | some x =>
    rw [hf] at hl
    simp only at hl
    split at hl
    ·cases hl
    ·have:=(lkT_size (lkF_ok h v u) x _ hl).1
     rw [h _ (findB_mem hf)]; exact this

theorem withB_no {σ:Int→Tm} {B:Binds} (h:solB σ B) {v:Int} {t:Tm} (he:σ v=putF σ t) (hv:¬ (t.k=1∧(t.n=v∨findB B t.n≠none))):withB B v t=false:=by
 cases hw:withB B v t with
 | false=>rfl
 | true =>
  exfalso
  unfold withB at hw
  by_cases hk:t.k=1
  ·cases t with
   | mk k s n l =>
    simp only [Tm.k,Tm.n] at hk hv
    simp only [lkT,if_pos hk,lkF] at hw
    rw [if_neg (fun e=>hv ⟨hk,.inl e⟩)] at hw
    cases hf:findB B n with
    | none=>rw [hf] at hw; cases hw
    | some x=>exact hv ⟨hk,.inr (by rw [hf]; simp)⟩
  ·have:=(lkT_size (lkF_ok h v _) t [] hw).2 hk
   rw [← he] at this; omega
end Tm
end PSL
namespace PSL
open Go
namespace Tm

structure chainB (B:Binds):Prop where
 nodup:(B.map (·.1)).Nodup
 chain:∀ (i:Nat) (b:Int × Tm),B[i]? = some b→b.2.k=1→∀ (j:Nat) (c:Int × Tm),B[j]? = some c→c.1=b.2.n→i<j
theorem chainB.nil:chainB []:=⟨by simp,by simp⟩

theorem findB_none_iff {B:Binds} {v:Int}:findB B v=none↔∀ b∈B,b.1≠v:=by
 unfold findB
 rw [Option.map_eq_none_iff,List.find?_eq_none]
 simp

theorem findB_at {B:Binds} {v:Int} {x:Tm} (h:findB B v=some x):∃ j:Nat,B[j]? = some (v,x):=by
 obtain ⟨j,hj⟩:=List.mem_iff_getElem?.1 (findB_mem h)
 exact ⟨j,hj⟩

theorem chainB.snoc {B:Binds} (h:chainB B) {v:Int} {t:Tm} (hv:findB B v=none) (ht:t.k=1→findB B t.n=none∧t.n≠v):chainB (B++[(v,t)]):=by
 have hv':=findB_none_iff.1 hv
 constructor
 ·rw [List.map_append,List.nodup_append]
  refine ⟨h.nodup,by simp,?_⟩
  intro a ha b hb
  simp only [List.map_cons,List.map_nil,List.mem_singleton] at hb
  subst hb
  obtain ⟨c,hc,rfl⟩:=List.mem_map.1 ha
  exact hv' c hc
 ·intro i b hb hk j c hc hcn
  rcases Nat.lt_or_ge i B.length with hi | hi
  ·rw [List.getElem?_append_left hi] at hb
   rcases Nat.lt_or_ge j B.length with hj | hj
   ·rw [List.getElem?_append_left hj] at hc
    exact h.chain i b hb hk j c hc hcn
   ·omega
  ·rw [List.getElem?_append_right hi] at hb
   have hi0:i - B.length=0:=by
    rcases Nat.eq_zero_or_pos (i - B.length) with h | h
    ·exact h
    ·rw [List.getElem?_eq_none (by simp; omega)] at hb; cases hb
   rw [hi0] at hb; simp at hb; subst hb
   obtain ⟨h1,h2⟩:=ht hk
   exfalso
   rcases Nat.lt_or_ge j B.length with hj | hj
   ·rw [List.getElem?_append_left hj] at hc
    exact findB_none_iff.1 h1 c (List.mem_of_getElem? hc) hcn
   ·rw [List.getElem?_append_right hj] at hc
    have hj0:j - B.length=0:=by
     rcases Nat.eq_zero_or_pos (j - B.length) with h | h
     ·exact h
     ·rw [List.getElem?_eq_none (by simp; omega)] at hc; cases hc
    rw [hj0] at hc; simp at hc; subst hc
    exact h2 hcn.symm

theorem walk_end {B:Binds} (h:chainB B):∀ (f:Nat) (t:Tm),(∀ (j:Nat) (c:Int × Tm),B[j]? = some c→t.k=1→c.1=t.n→B.length - j≤f)→(walkT B f t).k=1→findB B (walkT B f t).n=none
 | 0,t,hj,hk=>by
  simp only [walkT] at hk ⊢
  cases hf:findB B t.n with
  | none=>rfl
  | some x =>
   obtain ⟨j,hx⟩:=findB_at hf
   have h1:=hj j _ hx hk rfl
   have:=(List.getElem?_eq_some_iff.1 hx).1
   omega
 | f+1,t,hj,hk=>by
  simp only [walkT] at hk ⊢
  by_cases ht:t.k=1
  ·rw [if_pos ht] at hk ⊢
   cases hf:findB B t.n with
   | none=>exact hf
   | some x =>
    rw [hf] at hk
    simp only at hk ⊢
    obtain ⟨j,hx⟩:=findB_at hf
    have h1:=hj j _ hx ht rfl
    refine walk_end h f x (fun j' c hc hxk hcn=>?_) hk
    have:=h.chain j _ hx hxk j' c hc hcn
    omega
  ·rw [if_neg ht] at hk
   exact absurd hk ht
theorem walkB_end {B:Binds} (h:chainB B) {t:Tm} (hk:(walkB B t).k=1):findB B (walkB B t).n=none:=walk_end h _ t (fun j c hc _ _=>by omega) hk
def fairBB (B:Binds):Prop:=∀ b∈B,b.2.fairR=true∧0≤b.1∧b.1<1000000

theorem walk_fair {B:Binds} (h:fairBB B):∀ (f:Nat) (t:Tm),t.fairR=true→(walkT B f t).fairR=true
 | 0,t,ht=>ht
 | f+1,t,ht=>by
  simp only [walkT]
  split
  ·split
   ·rename_i x hx; exact walk_fair h f x (h _ (findB_mem hx)).1
   ·exact ht
  ·exact ht
def sumS (σ:Int→Tm) (T:List (Tm × Tm)):Nat:=(T.map fun p=>size (putF σ p.1)).sum
theorem sumS_app (σ:Int→Tm) (A B:List (Tm × Tm)):sumS σ (A++B)=sumS σ A+sumS σ B:=by simp [sumS]

theorem sumS_zip (σ:Int→Tm):∀ (l m:List Tm),l.length=m.length→sumS σ (l.zip m)=sizeL (putFL σ l)
 | [],[],_=>rfl
 | [],_::_,h=>by simp at h
 | _::_,[],h=>by simp at h
 | a::l,b::m,h=>by
  have:=sumS_zip σ l m (by simpa using h)
  simp only [sumS,List.zip_cons_cons,List.map_cons,List.sum_cons,putFL,sizeL] at this ⊢
  omega

theorem zip_sol {σ:Int→Tm}:∀ (l m:List Tm),putFL σ l=putFL σ m→∀ p∈l.zip m,putF σ p.1=putF σ p.2
 | [],m,_,p,hp=>by simp at hp
 | _::_,[],_,p,hp=>by simp at hp
 | a::l,b::m,h,p,hp=>by
  simp only [putFL,List.cons.injEq] at h
  rcases List.mem_cons.1 (by simpa using hp) with e | e
  ·rw [e]; exact h.1
  ·exact zip_sol l m h.2 p e

structure UInv (σ:Int→Tm) (T:List (Tm × Tm)) (B:Binds):Prop where
 solb:solB σ B
 solt:∀ p∈T,putF σ p.1=putF σ p.2
 chain:chainB B
 fairb:fairBB B
 fairt:∀ p∈T,p.1.fairR=true∧p.2.fairR=true
end Tm
end PSL
namespace PSL
open Go
namespace Tm

def lkExt (g:Int→List Int→Bool × List Int):Prop:=∀ n M,∃ R,(g n M).2=M++R

mutual
theorem lkT_ext {g:Int→List Int→Bool × List Int} (hg:lkExt g):∀ (t:Tm) (M:List Int),∃ R,(lkT g t M).2=M++R
 | mk k s n l,M=>by
  simp only [lkT]
  split
  ·exact hg n M
  ·exact lkTL_ext hg l M
theorem lkTL_ext {g:Int→List Int→Bool × List Int} (hg:lkExt g):∀ (l:List Tm) (M:List Int),∃ R,(lkTL g l M).2=M++R
 | [],M=>⟨[],by simp [lkTL]⟩
 | x::r,M=>by
  obtain ⟨R,h⟩:=lkT_ext hg x M
  simp only [lkTL]
  split
  ·exact ⟨R,h⟩
  ·obtain ⟨R2,h2⟩:=lkTL_ext hg r (lkT g x M).2
   exact ⟨R++R2,by rw [h2,h,List.append_assoc]⟩
end

theorem lkF_ext (B:Binds) (v:Int):∀ u,lkExt (lkF B v u)
 | 0,n,M=>⟨[],by simp [lkF]⟩
 | u+1,n,M=>by
  simp only [lkF]
  split
  ·exact ⟨[],by simp⟩
  ·split
   ·exact ⟨[],by simp⟩
   ·split
    ·exact ⟨[],by simp⟩
    ·rename_i x _ _
     obtain ⟨R,h⟩:=lkT_ext (lkF_ext B v u) x (M++[n])
     exact ⟨n::R,by rw [h,List.append_assoc]; rfl⟩

theorem count_le (B:Binds) (M R:List Int):(B.countP fun b=>!(M++R).contains b.1)≤B.countP fun b=>!M.contains b.1:=by
 apply List.countP_mono_left
 intro b _ h
 simp only [Bool.not_eq_true',List.contains_eq_mem,decide_eq_false_iff_not,List.mem_append,not_or] at h ⊢
 exact h.1

theorem count_lt {B:Binds} {M:List Int} {n:Int} {x:Tm} (hx:findB B n=some x) (hM:M.contains n=false):(B.countP fun b=>!(M++[n]).contains b.1)<B.countP fun b=>!M.contains b.1:=by
 obtain ⟨j,hj⟩:=List.mem_iff_append.1 (findB_mem hx)
 obtain ⟨r,rfl⟩:=hj
 have h1:=count_le j M [n]
 have h2:=count_le r M [n]
 have h3:(!(M++[n]).contains n)=false:=by simp
 have h4:(!M.contains n)=true:=by rw [hM]; rfl
 simp only [List.countP_append,List.countP_cons,h3,h4]
 simp only [if_true,Bool.false_eq_true,if_false]
 omega
end Tm
end PSL
namespace PSL

theorem Tm.length_le_sizeL:∀ l:List Tm,l.length≤Tm.sizeL l
 | []=>by simp
 | x::l=>by have:=Tm.length_le_sizeL l; have:=Tm.size_pos x; simp only [List.length_cons,Tm.sizeL]; omega
end PSL
namespace PSL
open Go
namespace Tm

theorem UInv.pop {σ:Int→Tm} {R:List (Tm × Tm)} {p:Tm × Tm} {B:Binds} (h:UInv σ (R++[p]) B):UInv σ R B :=
 ⟨h.solb,fun q hq=>h.solt q (by simp [hq]),h.chain,h.fairb,fun q hq=>h.fairt q (by simp [hq])⟩

theorem UInv.bind {σ:Int→Tm} {R:List (Tm × Tm)} {B:Binds} (h:UInv σ R B) {u t:Tm} (hk:u.k=1) (hfu:u.fairR=true) (hft:t.fairR=true) (he:putF σ u=putF σ t) (hu:findB B u.n=none) (ht:t.k=1→findB B t.n=none∧t.n≠u.n):UInv σ R (B++[(u.n,t)]):=by
 refine ⟨fun b hb=>?_,h.solt,h.chain.snoc hu ht,fun b hb=>?_,h.fairt⟩
 ·rcases List.mem_append.1 hb with hb | hb
  ·exact h.solb b hb
  ·simp only [List.mem_singleton] at hb; subst hb; simp only; rw [← putF_var (σ:=σ) hk]; exact he
 ·rcases List.mem_append.1 hb with hb | hb
  ·exact h.fairb b hb
  ·simp only [List.mem_singleton] at hb; subst hb; exact ⟨hft,occ_range u hfu u.n (occ_var hk)⟩

theorem UInv.zip {σ:Int→Tm} {R:List (Tm × Tm)} {B:Binds} (h:UInv σ R B) {x y:Tm} (hkx:x.k≠1) (hky:y.k≠1) (fx:x.fairR=true) (fy:y.fairR=true) (he:putF σ x=putF σ y):UInv σ (R++x.l.zip y.l) B∧x.k=y.k∧x.s=y.s∧x.n=y.n∧x.l.length=y.l.length∧sumS σ (R++x.l.zip y.l)+1=sumS σ R+size (putF σ x):=by
 have hsz:size (putF σ x)=1+sizeL (putFL σ x.l):=by rw [putF_fun hkx]; simp only [size]
 rw [putF_fun hkx,putF_fun hky] at he
 simp only [Tm.mk.injEq] at he
 obtain ⟨e1,e2,e3,e4⟩:=he
 have hlen:x.l.length=y.l.length:=by rw [← putFL_len σ,e4,putFL_len]
 refine ⟨⟨h.solb,fun q hq=>?_,h.chain,h.fairb,fun q hq=>?_⟩,e1,e2,e3,hlen,?_⟩
 ·rcases List.mem_append.1 hq with hq | hq
  ·exact h.solt q hq
  ·exact zip_sol _ _ e4 q hq
 ·rcases List.mem_append.1 hq with hq | hq
  ·exact h.fairt q hq
  ·have h1:=List.of_mem_zip hq
   exact ⟨Sub.kid_fair fx h1.1,Sub.kid_fair fy h1.2⟩
 ·rw [sumS_app,sumS_zip σ _ _ hlen,hsz]; omega

def sizT (N:Nat) (T:List (Tm × Tm)):Prop:=∀ p∈T,p.1.size≤N∧p.2.size≤N
def sizB (N:Nat) (B:Binds):Prop:=∀ b∈B,b.2.size≤N

theorem walk_siz {N:Nat} {B:Binds} (h:sizB N B):∀ (f:Nat) (t:Tm),t.size≤N→(walkT B f t).size≤N
 | 0,t,ht=>ht
 | f+1,t,ht=>by
  simp only [walkT]
  split
  ·split
   ·rename_i x hx; exact walk_siz h f x (h _ (findB_mem hx))
   ·exact ht
  ·exact ht

theorem sizB.snoc {N:Nat} {B:Binds} (h:sizB N B) {v:Int} {t:Tm} (ht:t.size≤N):sizB N (B++[(v,t)]):=fun b hb=>by
 rcases List.mem_append.1 hb with hb | hb
 ·exact h b hb
 ·simp only [List.mem_singleton] at hb; subst hb; exact ht

theorem sizT.zip {N:Nat} {R:List (Tm × Tm)} (h:sizT N R) {x y:Tm} (hx:x.size≤N) (hy:y.size≤N):sizT N (R++x.l.zip y.l):=fun q hq=>by
 rcases List.mem_append.1 hq with hq | hq
 ·exact h q hq
 ·have h1:=List.of_mem_zip hq
  have h2:=size_mem h1.1
  have h3:=size_mem h1.2
  have h4:=size_eq x
  have h5:=size_eq y
  omega

structure URound (σ:Int→Tm) (B':Binds) (n:Nat) (T:List (Tm × Tm)) (B:Binds) (met:List (Int × Int)):Prop where
 inv:UInv σ T B
 sum:sumS σ T<n
 few:n+B.length≤20000
 st:sizT 3000 T
 sb:sizB 3000 B
 run:uniF n T B met=some (some B')

theorem URound.pop {σ:Int→Tm} {B':Binds} {n:Nat} {R:List (Tm × Tm)} {x y:Tm} {B:Binds} {met:List (Int × Int)} (h:URound σ B' n (R++[(x,y)]) B met):∃ n',n=n'+1∧sumS σ R+size (putF σ x)<n'+1∧sizT 3000 R∧UInv σ R B∧x.size≤3000∧y.size≤3000∧x.fairR=true∧y.fairR=true∧putF σ x=putF σ y:=by
 have h1:=h.sum
 refine ⟨n - 1,by omega,?_,fun q hq=>h.st q (by simp [hq]),h.inv.pop,(h.st (x,y) (by simp)).1,(h.st (x,y) (by simp)).2,(h.inv.fairt (x,y) (by simp)).1,(h.inv.fairt (x,y) (by simp)).2,h.inv.solt (x,y) (by simp)⟩
 rw [sumS_app] at h1
 have:sumS σ [(x,y)]=size (putF σ x):=by simp [sumS]
 omega

theorem uniF_snoc (n:Nat) (R:List (Tm × Tm)) (x y:Tm) (B:Binds) (met:List (Int × Int)):uniF (n+1) (R++[(x,y)]) B met =
   if (decide (x.k=1)&&decide (y.k=1))&&met.contains (x.n,y.n) then uniF n R B met else
   let met':=if decide (x.k=1)&&decide (y.k=1) then met++[(x.n,y.n)] else met
   let x':=walkB B x
   let y':=walkB B y
   if x'.k=1∧y'.k=1∧x'.n=y'.n then uniF n R B met'
   else if x'.k=1 then (if withB B x'.n y' then some none else uniF n R (B++[(x'.n,y')]) met')
   else if y'.k=1 then (if withB B y'.n x' then some none else uniF n R (B++[(y'.n,x')]) met')
   else if clashB x' y' then some none
   else uniF n (R++x'.l.zip y'.l) B met':=by
 simp only [uniF,List.getLast?_append,List.getLast?_singleton,Option.or_some,List.dropLast_concat,Option.some_or]
end Tm
end PSL
namespace PSL
open Go
namespace Tm
def metU (x y:Tm) (met:List (Int × Int)):List (Int × Int):=if decide (x.k=1)&&decide (y.k=1) then met++[(x.n,y.n)] else met
def skipU (x y:Tm) (met:List (Int × Int)):Bool:=(decide (x.k=1)&&decide (y.k=1))&&met.contains (x.n,y.n)
section
variable {σ:Int→Tm} {B':Binds} {n:Nat} {R:List (Tm × Tm)} {x y:Tm} {B:Binds} {met:List (Int × Int)}

theorem URound.skip (h:URound σ B' (n+1) (R++[(x,y)]) B met) (hs:skipU x y met=true):URound σ B' n R B met:=by
 obtain ⟨m,hm,h1,h2,h3,_⟩:=h.pop
 obtain rfl:m=n:=by omega
 have hr:=h.run
 rw [uniF_snoc,if_pos (show ((decide (x.k=1)&&decide (y.k=1))&&met.contains (x.n,y.n))=true from hs)] at hr
 have:=size_pos (putF σ x)
 exact ⟨h3,by omega,by have:=h.few; omega,h2,h.sb,hr⟩

theorem URound.step (h:URound σ B' (n+1) (R++[(x,y)]) B met) (hs:skipU x y met=false) :
  ((walkB B x).k=1→findB B (walkB B x).n=none)∧((walkB B y).k=1→findB B (walkB B y).n=none)∧(walkB B x).size≤3000∧(walkB B y).size≤3000 ∧
  ((walkB B x).k=1∧(walkB B y).k=1∧(walkB B x).n=(walkB B y).n→URound σ B' n R B (metU x y met)) ∧
  (¬ ((walkB B x).k=1∧(walkB B y).k=1∧(walkB B x).n=(walkB B y).n) →
   ((walkB B x).k=1→withB B (walkB B x).n (walkB B y)=false∧URound σ B' n R (B++[((walkB B x).n,walkB B y)]) (metU x y met)) ∧
   (¬ (walkB B x).k=1→((walkB B y).k=1→withB B (walkB B y).n (walkB B x)=false∧URound σ B' n R (B++[((walkB B y).n,walkB B x)]) (metU x y met)) ∧
    (¬ (walkB B y).k=1→(walkB B x).k=(walkB B y).k∧(walkB B x).s=(walkB B y).s∧(walkB B x).n=(walkB B y).n∧(walkB B x).l.length=(walkB B y).l.length∧URound σ B' n (R++(walkB B x).l.zip (walkB B y).l) B (metU x y met)))):=by
 obtain ⟨m,hm,h1,h2,h3,sx,sy,fx,fy,he⟩:=h.pop
 obtain rfl:m=n:=by omega
 have hr:=h.run
 rw [uniF_snoc,if_neg (by rw [show ((decide (x.k=1)&&decide (y.k=1))&&met.contains (x.n,y.n))=false from hs]; simp)] at hr
 have hr:(if (walkB B x).k=1∧(walkB B y).k=1∧(walkB B x).n=(walkB B y).n then uniF m R B (metU x y met)
   else if (walkB B x).k=1 then (if withB B (walkB B x).n (walkB B y) then some none else uniF m R (B++[((walkB B x).n,walkB B y)]) (metU x y met))
   else if (walkB B y).k=1 then (if withB B (walkB B y).n (walkB B x) then some none else uniF m R (B++[((walkB B y).n,walkB B x)]) (metU x y met))
   else if clashB (walkB B x) (walkB B y) then some none
   else uniF m (R++(walkB B x).l.zip (walkB B y).l) B (metU x y met))=some (some B'):=hr
 have wx:putF σ (walkB B x)=putF σ x:=walk_sol h.inv.solb _ x
 have wy:putF σ (walkB B y)=putF σ y:=walk_sol h.inv.solb _ y
 have ex:=walkB_end h.inv.chain (t:=x)
 have ey:=walkB_end h.inv.chain (t:=y)
 have gx:(walkB B x).fairR=true:=walk_fair h.inv.fairb _ x fx
 have gy:(walkB B y).fairR=true:=walk_fair h.inv.fairb _ y fy
 have zx:(walkB B x).size≤3000:=walk_siz h.sb _ x sx
 have zy:(walkB B y).size≤3000:=walk_siz h.sb _ y sy
 have few:=h.few
 have sb:=h.sb
 have solb:=h.inv.solb
 rw [← wx,← wy] at he
 rw [← wx] at h1
 clear wx wy
 generalize walkB B x=x' at *
 generalize walkB B y=y' at *
 generalize metU x y met=met' at *
 have hp:=size_pos (putF σ x')
 refine ⟨ex,ey,zx,zy,fun hc=>?_,fun hc=>⟨fun hk=>?_,fun hkx=>⟨fun hk=>?_,fun hky=>?_⟩⟩⟩
 ·rw [if_pos hc] at hr
  exact ⟨h3,by omega,by omega,h2,sb,hr⟩
 ·rw [if_neg hc,if_pos hk] at hr
  have hw:withB B x'.n y'=false:=withB_no solb (by rw [← putF_var (σ:=σ) hk]; exact he) (fun ⟨g1,g2⟩=>by
    rcases g2 with g2 | g2
    ·exact hc ⟨hk,g1,g2.symm⟩
    ·exact g2 (ey g1))
  rw [hw,if_neg (by simp)] at hr
  exact ⟨hw,h3.bind hk gx gy he (ex hk) (fun g=>⟨ey g,fun e=>hc ⟨hk,g,e.symm⟩⟩),by omega,by simp; omega,h2,sb.snoc zy,hr⟩
 ·rw [if_neg hc,if_neg hkx,if_pos hk] at hr
  have hw:withB B y'.n x'=false:=withB_no solb (by rw [← putF_var (σ:=σ) hk]; exact he.symm) (fun ⟨g1,_⟩=>hkx g1)
  rw [hw,if_neg (by simp)] at hr
  exact ⟨hw,h3.bind hk gy gx he.symm (ey hk) (fun g=>absurd g hkx),by omega,by simp; omega,h2,sb.snoc zx,hr⟩
 ·obtain ⟨g1,g2,g3,g4,g5,g6⟩:=h3.zip hkx hky gx gy he
  have hcl:clashB x' y'=false:=by unfold clashB; simp [g2,g3,g4,g5,strEq]
  rw [if_neg hc,if_neg hkx,if_neg hky,hcl,if_neg (by simp)] at hr
  exact ⟨g2,g3,g4,g5,g1,by omega,by omega,h2.zip zx zy,sb,hr⟩
end
end Tm
end PSL

namespace PSL
open Go
namespace Tm

def Cl (B:Binds) (v:Int) (M M':List Int):Prop:=∀ n∈M',n∈M∨∃ x,findB B n=some x∧∀ u∈occ x,u≠v∧(findB B u≠none→u∈M')

theorem Cl.trans {B:Binds} {v:Int} {M M1 M2:List Int} (h1:Cl B v M M1) (h2:Cl B v M1 M2) (hs:∀ n∈M1,n∈M2):Cl B v M M2:=fun n hn=>by
 rcases h2 n hn with h | h
 ·rcases h1 n h with h | ⟨x,hx,hu⟩
  ·exact .inl h
  ·exact .inr ⟨x,hx,fun u hu1=>⟨(hu u hu1).1,fun hb=>hs u ((hu u hu1).2 hb)⟩⟩
 ·exact .inr h
def cntB (B:Binds) (M:List Int):Nat:=B.countP fun b=>!M.contains b.1

def lkCl (B:Binds) (v:Int) (u:Nat) (g:Int→List Int→Bool × List Int):Prop:=∀ n M,cntB B M<u→(g n M).1=false→(∀ m∈M,m∈(g n M).2)∧Cl B v M (g n M).2∧n≠v∧(findB B n≠none→n∈(g n M).2)

mutual
theorem lkT_cl {B:Binds} {v:Int} {u:Nat} {g:Int→List Int→Bool × List Int} (he:lkExt g) (hg:lkCl B v u g):∀ (t:Tm) (M:List Int),cntB B M<u→(lkT g t M).1=false→(∀ m∈M,m∈(lkT g t M).2)∧Cl B v M (lkT g t M).2∧∀ n∈occ t,n≠v∧(findB B n≠none→n∈(lkT g t M).2)
 | mk k s n l,M,hM,h=>by
  simp only [lkT,occ] at h ⊢
  split at h
  ·rename_i hk
   rw [if_pos hk,if_pos hk]
   obtain ⟨h1,h2,h3,h4⟩:=hg n M hM h
   exact ⟨h1,h2,fun m hm=>by simp only [List.mem_singleton] at hm; subst hm; exact ⟨h3,h4⟩⟩
  ·rename_i hk
   rw [if_neg hk,if_neg hk]
   exact lkTL_cl he hg l M hM h
theorem lkTL_cl {B:Binds} {v:Int} {u:Nat} {g:Int→List Int→Bool × List Int} (he:lkExt g) (hg:lkCl B v u g):∀ (l:List Tm) (M:List Int),cntB B M<u→(lkTL g l M).1=false→(∀ m∈M,m∈(lkTL g l M).2)∧Cl B v M (lkTL g l M).2∧∀ n∈occL l,n≠v∧(findB B n≠none→n∈(lkTL g l M).2)
 | [],M,hM,h=>by simp only [lkTL,occL]; exact ⟨fun m hm=>hm,fun n hn=>.inl hn,by simp⟩
 | x::r,M,hM,h=>by
  simp only [lkTL,occL] at h ⊢
  cases hx:(lkT g x M).1 with
  | true=>rw [hx] at h; simp at h
  | false =>
   rw [hx] at h
   simp only [Bool.false_eq_true,if_false] at h ⊢
   obtain ⟨h1,h2,h3⟩:=lkT_cl he hg x M hM hx
   obtain ⟨R,hR⟩:=lkT_ext he x M
   have hM1:cntB B (lkT g x M).2<u:=by
    have:=count_le B M R
    rw [hR]; unfold cntB at hM ⊢; omega
   obtain ⟨g1,g2,g3⟩:=lkTL_cl he hg r _ hM1 h
   refine ⟨fun m hm=>g1 m (h1 m hm),h2.trans g2 g1,fun n hn=>?_⟩
   rcases List.mem_append.1 hn with hn | hn
   ·exact ⟨(h3 n hn).1,fun hb=>g1 n ((h3 n hn).2 hb)⟩
   ·exact g3 n hn
end

theorem lkF_cl (B:Binds) (v:Int):∀ u,lkCl B v u (lkF B v u)
 | 0,n,M,hM,_=>by omega
 | u+1,n,M,hM,h=>by
  simp only [lkF] at h ⊢
  by_cases hn:n=v
  ·rw [if_pos hn] at h; cases h
  rw [if_neg hn] at h ⊢
  cases hf:findB B n with
  | none=>exact ⟨fun m hm=>hm,fun m hm=>.inl hm,hn,fun h=>absurd rfl h⟩
  | some x =>
   rw [hf] at h
   simp only at h ⊢
   split at h
   ·rename_i hc
    rw [if_pos hc]
    exact ⟨fun m hm=>hm,fun m hm=>.inl hm,hn,fun _=>by simpa using hc⟩
   ·rename_i hc
    rw [if_neg hc]
    have hc':M.contains n=false:=by simpa using hc
    have hl:=count_lt hf hc'
    obtain ⟨h1,h2,h3⟩:=lkT_cl (lkF_ext B v u) (lkF_cl B v u) x (M++[n]) (by unfold cntB at hM ⊢; omega) h
    have hnm:=h1 n (by simp)
    refine ⟨fun m hm=>h1 m (by simp [hm]),fun m hm=>?_,hn,fun _=>hnm⟩
    rcases h2 m hm with h | h
    ·rcases List.mem_append.1 h with h | h
     ·exact .inl h
     ·simp only [List.mem_singleton] at h; subst h
      exact .inr ⟨x,hf,h3⟩
    ·exact .inr h

theorem withB_free {B:Binds} {v:Int} {t:Tm} (h:withB B v t=false):∀ M,v ∉ occ (fullS B M t):=by
 unfold withB at h
 obtain ⟨_,h2,h3⟩:=lkT_cl (lkF_ext B v _) (lkF_cl B v (B.length+1)) t [] (by unfold cntB; exact Nat.lt_succ_of_le List.countP_le_length) h
 generalize (lkT (lkF B v (B.length+1)) t []).2=M' at h2 h3
 have main:∀ (m:Nat) (x:Tm),(∀ n∈occ x,n≠v∧(findB B n≠none→n∈M'))→∀ z∈occ (fullS B m x),z≠v:=by
  intro m
  induction m with
  | zero=>intro x hx z hz; exact (hx z hz).1
  | succ m ih =>
   intro x hx z hz
   simp only [fullS] at hz
   obtain ⟨u,hu,hz⟩:=occ_putF x z hz
   cases hf:findB B u with
   | none =>
    rw [hf] at hz
    simp [occ,vT] at hz
    rw [hz]; exact (hx u hu).1
   | some y =>
    rw [hf] at hz
    have hm:=(hx u hu).2 (by rw [hf]; simp)
    rcases h2 u hm with h | ⟨y',hy,hc⟩
    ·cases h
    ·rw [hf] at hy; cases hy
     exact ih y hc z hz
 exact fun M hv=>main M t h3 v hv rfl
end Tm
end PSL

namespace PSL
open Go
namespace Tm

theorem find_nodup {B:Binds} (h:(B.map (·.1)).Nodup) {b:Int × Tm} (hb:b∈B):findB B b.1=some b.2:=by
 induction B with
 | nil=>cases hb
 | cons c B ih =>
  rw [findB_cons]
  simp only [List.map_cons,List.nodup_cons] at h
  rcases List.mem_cons.1 hb with rfl | hb
  ·rw [if_pos rfl]
  ·rw [if_neg (fun e=>h.1 (by rw [e]; exact List.mem_map.2 ⟨b,hb,rfl⟩))]
   exact ih h.2 hb
def cntR (B:Binds) (ρ:Int→Nat) (r:Nat):Nat:=B.countP fun b=>decide (ρ b.1<r)

theorem cntR_le (B:Binds) (ρ:Int→Nat) {r r':Nat} (h:r≤r'):cntR B ρ r≤cntR B ρ r':=by
 apply List.countP_mono_left
 intro b _ hb
 simp only [decide_eq_true_eq] at hb ⊢
 omega

theorem cntR_lt {B:Binds} {ρ:Int→Nat} {b:Int × Tm} (hb:b∈B):cntR B ρ (ρ b.1)<cntR B ρ (ρ b.1+1):=by
 obtain ⟨l,r,rfl⟩:=List.mem_iff_append.1 hb
 have h1:=cntR_le l ρ (show ρ b.1≤ρ b.1+1 by omega)
 have h2:=cntR_le r ρ (show ρ b.1≤ρ b.1+1 by omega)
 unfold cntR at *
 simp only [List.countP_append,List.countP_cons]
 have e1:decide (ρ b.1<ρ b.1)=false:=by simp
 have e2:decide (ρ b.1<ρ b.1+1)=true:=by simp
 rw [e1,e2]
 simp only [if_true,Bool.false_eq_true,if_false]
 omega

theorem rank_okn {B:Binds} {ρ:Int→Nat} (hf:∀ b∈B,b.2.fairR=true) (hρ:∀ b∈B,∀ u∈occ b.2,findB B u≠none→ρ u<ρ b.1):∀ (r i:Nat) (b:Int × Tm),B[i]? = some b→ρ b.1=r→Okn (adjB B) (cntR B ρ (r+1)) i:=by
 intro r
 induction r using Nat.strongRecOn with
 | ind r ih =>
  intro i b hb hr
  have hm:=List.mem_of_getElem? hb
  have h1:=cntR_lt (ρ:=ρ) hm
  rw [hr] at h1
  obtain ⟨m,hm'⟩:∃ m,cntR B ρ (r+1)=m+1:=⟨cntR B ρ (r+1) - 1,by omega⟩
  rw [hm']
  refine .mk fun k hk=>?_
  simp only [adjB,hb,List.mem_filterMap] at hk
  obtain ⟨v,hv,hk⟩:=hk
  rw [varsT_mem (one_fair (hf _ hm))] at hv
  simp only [occL,List.append_nil] at hv
  rcases placeB_find B v with ⟨h1,h2⟩ | ⟨j,t,h2,h3,h4⟩
  ·rw [if_pos h1] at hk; cases hk
  ·rw [if_neg (by omega)] at hk
   simp only [Option.some.injEq] at hk
   have hlt:=hρ b hm v hv (by rw [h4]; simp)
   have hkj:k=j:=by omega
   subst hkj
   have:=ih (ρ v) (by omega) k (v,t) h3 rfl
   refine this.mono ?_
   have:=cntR_le B ρ (show ρ v+1≤r by omega)
   omega

theorem sub_rank {B:Binds} {ρ:Int→Nat} (hf:∀ b∈B,b.2.fairR=true) (hρ:∀ b∈B,∀ u∈occ b.2,findB B u≠none→ρ u<ρ b.1):Sub B B.length :=
 ⟨hf,fun i hi=>(rank_okn hf hρ _ i B[i] (List.getElem?_eq_getElem hi) rfl).mono (by unfold cntR; exact List.countP_le_length)⟩

mutual
theorem occ_size {σ:Int→Tm}:∀ (t:Tm) (u:Int),u∈occ t→size (σ u)≤size (putF σ t)∧(t.k≠1→size (σ u)<size (putF σ t))
 | mk k s n l,u,h=>by
  simp only [occ] at h
  by_cases hk:k=1
  ·rw [if_pos hk,List.mem_singleton] at h
   subst h
   simp only [putF,if_pos hk,Tm.k]
   exact ⟨Nat.le_refl _,fun h=>absurd hk h⟩
  ·rw [if_neg hk] at h
   have:=occL_size (σ:=σ) l u h
   simp only [putF,if_neg hk,size]
   exact ⟨by omega,fun _=>by omega⟩
theorem occL_size {σ:Int→Tm}:∀ (l:List Tm) (u:Int),u∈occL l→size (σ u)≤sizeL (putFL σ l)
 | [],u,h=>by simp [occL] at h
 | t::l,u,h=>by
  simp only [occL,List.mem_append] at h
  simp only [putFL,sizeL]
  rcases h with h | h
  ·have:=(occ_size (σ:=σ) t u h).1; omega
  ·have:=occL_size (σ:=σ) l u h; omega
end

theorem occ_of_var {t:Tm} (hk:t.k=1) {u:Int} (h:u∈occ t):u=t.n:=by
 cases t; simp only [k] at hk; simp only [occ,if_pos hk,List.mem_singleton] at h; exact h

theorem sol_rank {σ:Int→Tm} {B:Binds} (hs:solB σ B) (hc:chainB B):∃ ρ:Int→Nat,∀ b∈B,∀ u∈occ b.2,findB B u≠none→ρ u<ρ b.1:=by
 refine ⟨fun v=>size (σ v) * (B.length+1)+(B.length - (placeB B v).toNat),fun b hb u hu hub=>?_⟩
 show size (σ u) * (B.length+1)+(B.length - (placeB B u).toNat)<size (σ b.1) * (B.length+1)+(B.length - (placeB B b.1).toNat)
 have hbs:=hs b hb
 have h1:=occ_size (σ:=σ) b.2 u hu
 by_cases hk:b.2.k=1
 ·have he:=occ_of_var hk hu
  rw [putF_var hk,← he] at hbs
  rw [hbs]
  rcases placeB_find B u with ⟨g1,g2⟩ | ⟨j,t,g1,g2,g3⟩
  ·exact absurd g2 hub
  rcases placeB_find B b.1 with ⟨e1,e2⟩ | ⟨i,t',e1,e2,e3⟩
  ·rw [find_nodup hc.nodup hb] at e2; cases e2
  rw [find_nodup hc.nodup hb] at e3
  simp only [Option.some.injEq] at e3
  subst e3
  have:=hc.chain i _ e2 hk j _ g2 he
  have:=(List.getElem?_eq_some_iff.1 g2).1
  rw [g1,e1]
  simp only [Int.toNat_natCast]
  omega
 ·have h2:=h1.2 hk
  rw [← hbs] at h2
  have:(size (σ u)+1) * (B.length+1)≤size (σ b.1) * (B.length+1):=Nat.mul_le_mul_right _ h2
  rw [Nat.add_mul] at this
  omega

theorem sub_sol {σ:Int→Tm} {B:Binds} (hs:solB σ B) (hc:chainB B) (hf:fairBB B):Sub B B.length :=
 (sol_rank hs hc).elim fun _ h=>sub_rank (fun b hb=>(hf b hb).1) h

def fullV (B:Binds) (v:Int):Tm:=match findB B v with | some x=>fullS B B.length x | none=>vT v
theorem sub_putV {B:Binds} (h:Sub B B.length) {t:Tm} (hf:t.fairR=true):putF (fullV B) t=fullS B B.length t:=(h.fix hf).symm

theorem sub_solV {B:Binds} (h:Sub B B.length) (hc:chainB B):solB (fullV B) B:=fun b hb=>by
 rw [sub_putV h (h.fair b hb)]
 unfold fullV
 rw [find_nodup hc.nodup hb]
theorem fullV_free {B:Binds} {v:Int} (h:findB B v=none):fullV B v=vT v:=by unfold fullV; rw [h]

theorem bind_sol {σ:Int→Tm} {B:Binds} (hs:solB σ B) (hc:chainB B) (hf:fairBB B) {v:Int} {w:Tm} (hv:findB B v=none) (hw:w.fairR=true) (hn:withB B v w=false):∃ σ',solB σ' (B++[(v,w)]):=by
 have hS:=sub_sol hs hc hf
 have hfree:=withB_free hn B.length
 have hfw:=hS.fairF hw
 refine ⟨fun z=>putF (fun u=>if u=v then putF (fullV B) w else vT u) (fullV B z),fun b hb=>?_⟩
 simp only
 rw [← putF_comp]
 rcases List.mem_append.1 hb with hb | hb
 ·rw [sub_solV hS hc b hb]
 ·simp only [List.mem_singleton] at hb; subst hb
  simp only
  rw [fullV_free hv,putF_var (show (vT v).k=1 from rfl)]
  simp only [vT,Tm.n,if_true]
  rw [sub_putV hS hw]
  refine (put_id _ hfw fun u hu=>?_).symm
  rw [if_neg (fun e=>hfree (by rw [← e]; exact hu))]; rfl
end Tm
end PSL

namespace PSL
open Go
namespace Tm
def pickU (sw:Bool) (x y:Tm):Tm × Tm:=if (sw || decide (x.k≠1))&&decide (y.k=1) then (y,x) else (x,y)
def sameV (x y:Tm):Prop:=x.k=1∧y.k=1∧x.n=y.n
def ordU (sw:Bool) (l m:List Tm):List (Tm × Tm):=if sw then l.zip m else (l.zip m).reverse
theorem ordU_mem {sw:Bool} {l m:List Tm} {p:Tm × Tm}:p∈ordU sw l m↔p∈l.zip m:=by cases sw <;> simp [ordU]

theorem pickU_or {sw:Bool} {x y u w:Tm} (h:pickU sw x y=(u,w)):(u=x∧w=y)∨(u=y∧w=x∧y.k=1):=by
 unfold pickU at h
 split at h
 ·rename_i hc
  simp only [Bool.and_eq_true,decide_eq_true_eq] at hc
  cases h; exact .inr ⟨rfl,rfl,hc.2⟩
 ·cases h; exact .inl ⟨rfl,rfl⟩

inductive URun (sw:Bool):Nat→List (Tm × Tm)→Binds→List (Int × Int)→Binds→Bool→Prop
 | done {n:Nat} {B:Binds} {met:List (Int × Int)}:URun sw n [] B met B true
 | skip {n:Nat} {x y:Tm} {R:List (Tm × Tm)} {B B':Binds} {met:List (Int × Int)} {ok:Bool} (hs:skipU x y met=true) (h:URun sw n R B met B' ok):URun sw (n+1) ((x,y)::R) B met B' ok
 | same {n:Nat} {x y:Tm} {R:List (Tm × Tm)} {B B':Binds} {met:List (Int × Int)} {ok:Bool} (hs:skipU x y met=false) (hv:sameV (walkB B x) (walkB B y)) (h:URun sw n R B (metU x y met) B' ok):URun sw (n+1) ((x,y)::R) B met B' ok
 | occ {n:Nat} {x y u w:Tm} {R:List (Tm × Tm)} {B:Binds} {met:List (Int × Int)} (hs:skipU x y met=false) (hv:¬ sameV (walkB B x) (walkB B y)) (hp:pickU sw (walkB B x) (walkB B y)=(u,w)) (hk:u.k=1) (hw:withB B u.n w=true):URun sw (n+1) ((x,y)::R) B met B false
 | bind {n:Nat} {x y u w:Tm} {R:List (Tm × Tm)} {B B':Binds} {met:List (Int × Int)} {ok:Bool} (hs:skipU x y met=false) (hv:¬ sameV (walkB B x) (walkB B y)) (hp:pickU sw (walkB B x) (walkB B y)=(u,w)) (hk:u.k=1) (hw:withB B u.n w=false) (h:URun sw n R (B++[(u.n,w)]) (metU x y met) B' ok):URun sw (n+1) ((x,y)::R) B met B' ok
 | clash {n:Nat} {x y:Tm} {R:List (Tm × Tm)} {B:Binds} {met:List (Int × Int)} (hs:skipU x y met=false) (hx:(walkB B x).k≠1) (hy:(walkB B y).k≠1) (hc:clashB (walkB B x) (walkB B y)=true):URun sw (n+1) ((x,y)::R) B met B false
 | args {n:Nat} {x y:Tm} {R:List (Tm × Tm)} {B B':Binds} {met:List (Int × Int)} {ok:Bool} (hs:skipU x y met=false) (hx:(walkB B x).k≠1) (hy:(walkB B y).k≠1) (hc:clashB (walkB B x) (walkB B y)=false) (h:URun sw n (ordU sw (walkB B x).l (walkB B y).l++R) B (metU x y met) B' ok):URun sw (n+1) ((x,y)::R) B met B' ok

structure UG (S:List Int) (N:Nat) (T:List (Tm × Tm)) (B:Binds):Prop where
 chain:chainB B
 fairb:fairBB B
 fairt:∀ p∈T,p.1.fairR=true∧p.2.fairR=true
 st:sizT N T
 sb:sizB N B
 sol:∃ σ,solB σ B
 vb:∀ b∈B,b.1∈S∧∀ u∈occ b.2,u∈S
 vt:∀ p∈T,(∀ u∈occ p.1,u∈S)∧∀ u∈occ p.2,u∈S

theorem walk_occ {S:List Int} {B:Binds} (h:∀ b∈B,b.1∈S∧∀ u∈occ b.2,u∈S):∀ (f:Nat) (t:Tm),(∀ u∈occ t,u∈S)→∀ u∈occ (walkT B f t),u∈S
 | 0,t,ht=>ht
 | f+1,t,ht=>by
  simp only [walkT]
  split
  ·split
   ·rename_i x hx; exact walk_occ h f x (h _ (findB_mem hx)).2
   ·exact ht
  ·exact ht

structure UW (S:List Int) (N:Nat) (B:Binds) (x:Tm):Prop where
 fair:x.fairR=true
 size:x.size≤N
 occ:∀ u∈occ x,u∈S
 nd:x.k=1→findB B x.n=none
section
variable {S:List Int} {N:Nat} {x y:Tm} {R:List (Tm × Tm)} {B:Binds}

theorem UG.tail {p:Tm × Tm} (h:UG S N (p::R) B):UG S N R B :=
 ⟨h.chain,h.fairb,fun q hq=>h.fairt q (by simp [hq]),fun q hq=>h.st q (by simp [hq]),h.sb,h.sol,h.vb,fun q hq=>h.vt q (by simp [hq])⟩

theorem UG.walk1 (h:UG S N ((x,y)::R) B):UW S N B (walkB B x) :=
 ⟨walk_fair h.fairb _ x (h.fairt (x,y) (by simp)).1,walk_siz h.sb _ x (h.st (x,y) (by simp)).1,walk_occ h.vb _ x (h.vt (x,y) (by simp)).1,walkB_end h.chain⟩

theorem UG.walk2 (h:UG S N ((x,y)::R) B):UW S N B (walkB B y) :=
 ⟨walk_fair h.fairb _ y (h.fairt (x,y) (by simp)).2,walk_siz h.sb _ y (h.st (x,y) (by simp)).2,walk_occ h.vb _ y (h.vt (x,y) (by simp)).2,walkB_end h.chain⟩

theorem UG.pick {sw:Bool} {u w:Tm} (h:UG S N ((x,y)::R) B) (hv:¬ sameV (walkB B x) (walkB B y)) (hp:pickU sw (walkB B x) (walkB B y)=(u,w)) (hk:u.k=1):UW S N B u∧UW S N B w∧(w.k=1→w.n≠u.n):=by
 rcases pickU_or hp with ⟨rfl,rfl⟩ | ⟨rfl,rfl,_⟩
 ·exact ⟨h.walk1,h.walk2,fun hw e=>hv ⟨hk,hw,e.symm⟩⟩
 ·exact ⟨h.walk2,h.walk1,fun hw e=>hv ⟨hw,hk,e⟩⟩

theorem UG.bind {sw:Bool} {u w:Tm} (h:UG S N ((x,y)::R) B) (hv:¬ sameV (walkB B x) (walkB B y)) (hp:pickU sw (walkB B x) (walkB B y)=(u,w)) (hk:u.k=1) (hw:withB B u.n w=false):UG S N R (B++[(u.n,w)]):=by
 obtain ⟨hu,hw1,hne⟩:=h.pick hv hp hk
 obtain ⟨σ,hs⟩:=h.sol
 have ht:=h.tail
 refine ⟨h.chain.snoc (hu.nd hk) fun h1=>⟨hw1.nd h1,hne h1⟩,fun b hb=>?_,ht.fairt,ht.st,h.sb.snoc hw1.size,bind_sol hs h.chain h.fairb (hu.nd hk) hw1.fair hw,fun b hb=>?_,ht.vt⟩
 ·rcases List.mem_append.1 hb with hb | hb
  ·exact h.fairb b hb
  ·simp only [List.mem_singleton] at hb; subst hb
   exact ⟨hw1.fair,occ_range u hu.fair u.n (occ_var hk)⟩
 ·rcases List.mem_append.1 hb with hb | hb
  ·exact h.vb b hb
  ·simp only [List.mem_singleton] at hb; subst hb
   exact ⟨hu.occ _ (occ_var hk),hw1.occ⟩

theorem occ_kid {t x:Tm} (hk:t.k≠1) (hx:x∈t.l) {u:Int} (hu:u∈occ x):u∈occ t:=by
 cases t; simp only [k,l] at hk hx; simp only [occ,if_neg hk]
 clear hk
 rename_i l
 induction l with
 | nil=>cases hx
 | cons a l ih =>
  simp only [occL,List.mem_append]
  rcases List.mem_cons.1 hx with rfl | hx
  ·exact .inl hu
  ·exact .inr (ih hx)

theorem UG.args {sw:Bool} (h:UG S N ((x,y)::R) B) (hx:(walkB B x).k≠1) (hy:(walkB B y).k≠1):UG S N (ordU sw (walkB B x).l (walkB B y).l++R) B:=by
 have ht:=h.tail
 have h1:=h.walk1
 have h2:=h.walk2
 generalize walkB B x=x' at *
 generalize walkB B y=y' at *
 have hz:∀ p∈ordU sw x'.l y'.l,p.1∈x'.l∧p.2∈y'.l:=fun p hp=>List.of_mem_zip (ordU_mem.1 hp)
 refine ⟨h.chain,h.fairb,fun q hq=>?_,fun q hq=>?_,h.sb,h.sol,h.vb,fun q hq=>?_⟩
 ·rcases List.mem_append.1 hq with hq | hq
  ·exact ⟨Sub.kid_fair h1.fair (hz q hq).1,Sub.kid_fair h2.fair (hz q hq).2⟩
  ·exact ht.fairt q hq
 ·rcases List.mem_append.1 hq with hq | hq
  ·have g1:=size_mem (hz q hq).1
   have g2:=size_mem (hz q hq).2
   have g3:=size_eq x'
   have g4:=size_eq y'
   have g5:=h1.size
   have g6:=h2.size
   omega
  ·exact ht.st q hq
 ·rcases List.mem_append.1 hq with hq | hq
  ·exact ⟨fun u hu=>h1.occ u (occ_kid hx (hz q hq).1 hu),fun u hu=>h2.occ u (occ_kid hy (hz q hq).2 hu)⟩
  ·exact ht.vt q hq
end

theorem findB_snoc (B:Binds) (v z:Int) (w:Tm):findB (B++[(v,w)]) z=match findB B z with | some x=>some x | none=>if v=z then some w else none:=by
 induction B with
 | nil=>simp [findB_cons,findB]
 | cons b B ih =>
  simp only [List.cons_append,findB_cons]
  split
  ·rfl
  ·exact ih
end Tm
end PSL

namespace PSL
open Go
namespace Tm

theorem walk_more {B:Binds} {v:Int} {w:Tm} (hw:w.k=1→findB B w.n=none∧w.n≠v):∀ (f:Nat) (t:Tm),((walkT B f t).k=1→findB B (walkT B f t).n=none)→walkT (B++[(v,w)]) (f+1) t=if (walkT B f t).k=1∧(walkT B f t).n=v then w else walkT B f t:=by
 have hend:∀ f,walkT (B++[(v,w)]) f w=w:=fun f=>by
  cases f with
  | zero=>rfl
  | succ f =>
   simp only [walkT]
   split
   ·rename_i hk
    obtain ⟨h1,h2⟩:=hw hk
    rw [findB_snoc,h1]
    simp only
    rw [if_neg (fun e=>h2 e.symm)]
   ·rfl
 have stop:∀ (f:Nat) (t:Tm),(t.k=1→findB B t.n=none)→walkT (B++[(v,w)]) (f+1) t=if t.k=1∧t.n=v then w else t:=fun f t ht=>by
  simp only [walkT]
  by_cases hk:t.k=1
  ·rw [if_pos hk,findB_snoc,ht hk]
   simp only
   by_cases hn:v=t.n
   ·rw [if_pos hn,if_pos ⟨hk,hn.symm⟩]; exact hend f
   ·rw [if_neg hn,if_neg (fun e=>hn e.2.symm)]
  ·rw [if_neg hk,if_neg (fun e=>hk e.1)]
 intro f
 induction f with
 | zero=>exact fun t ht=>stop 0 t ht
 | succ f ih =>
  intro t ht
  by_cases hk:t.k=1
  ·cases hf:findB B t.n with
   | none =>
    have e:walkT B (f+1) t=t:=by simp only [walkT]; rw [if_pos hk,hf]
    rw [e]
    exact stop _ t fun _=>hf
   | some x =>
    have e:walkT B (f+1) t=walkT B f x:=by simp only [walkT]; rw [if_pos hk,hf]
    rw [e] at ht ⊢
    rw [← ih x ht]
    have e2:∀ f',walkT (B++[(v,w)]) (f'+1) t=walkT (B++[(v,w)]) f' x:=fun f'=>by
     conv=>lhs; unfold walkT
     rw [if_pos hk,findB_snoc,hf]
    exact e2 _
  ·have e:walkT B (f+1) t=t:=by simp only [walkT]; rw [if_neg hk]
   rw [e]
   exact stop _ t fun h=>absurd h hk

theorem walkB_more {B:Binds} (hc:chainB B) {v:Int} {w:Tm} (hw:w.k=1→findB B w.n=none∧w.n≠v) (t:Tm):walkB (B++[(v,w)]) t=if (walkB B t).k=1∧(walkB B t).n=v then w else walkB B t:=by
 have e:walkB (B++[(v,w)]) t=walkT (B++[(v,w)]) (B.length+1+1) t:=by unfold walkB; simp
 rw [e]
 exact walk_more hw (B.length+1) t (walkB_end hc)

def GoodU (B:Binds) (V:Tm × Tm→Prop) (p:Tm × Tm):Prop:=walkB B p.1=walkB B p.2∨((walkB B p.1).k≠1∧(walkB B p.2).k≠1∧(walkB B p.1).k=(walkB B p.2).k∧(walkB B p.1).s=(walkB B p.2).s∧(walkB B p.1).n=(walkB B p.2).n∧(walkB B p.1).l.length=(walkB B p.2).l.length∧∀ q∈(walkB B p.1).l.zip (walkB B p.2).l,V q)

theorem GoodU.mono {B:Binds} {V V':Tm × Tm→Prop} {p:Tm × Tm} (h:GoodU B V p) (hV:∀ q,V q→V' q):GoodU B V' p:=by
 rcases h with h | ⟨h1,h2,h3,h4,h5,h6,h7⟩
 ·exact .inl h
 ·exact .inr ⟨h1,h2,h3,h4,h5,h6,fun q hq=>hV q (h7 q hq)⟩

theorem GoodU.more {B:Binds} {V:Tm × Tm→Prop} {p:Tm × Tm} (h:GoodU B V p) (hc:chainB B) {v:Int} {w:Tm} (hw:w.k=1→findB B w.n=none∧w.n≠v):GoodU (B++[(v,w)]) V p:=by
 rcases h with h | ⟨h1,h2,h3⟩
 ·exact .inl (by rw [walkB_more hc hw,walkB_more hc hw,h])
 ·refine .inr ?_
  rw [walkB_more hc hw,walkB_more hc hw,if_neg (fun e=>h1 e.1),if_neg (fun e=>h2 e.1)]
  exact ⟨h1,h2,h3⟩
end Tm
end PSL

namespace PSL
open Go

theorem rightS_of {B:Binds} {M:Nat} (hS:Sub B M) (hn:(B.map (·.1)).Nodup) (hb:∀ b∈B,0≤b.1∧b.1<1000000∧b.2.rightB=true):rightS B=true:=by
 rw [← rightR_eq]
 unfold rightR
 rw [Bool.and_eq_true,List.all_eq_true,List.all_eq_true]
 constructor
 ·intro i hi
  have hil:i<B.length:=by simpa using hi
  have e1:B[i]? = some (B[i]'hil):=List.getElem?_eq_getElem _
  have h1:=hb _ (List.mem_of_getElem? e1)
  have h3:=nodup_place.1 hn i _ e1
  rw [okAt,e1]
  simp [h1.1,h1.2.1,h1.2.2,h3]
 ·intro i hi
  cases hw:warsh (edge (adjB B)) B.length i i with
  | false=>rfl
  | true=>exact absurd (hS.okn i (by simpa using hi)) (okn_round (warsh_way _ _ _ _ hw))
namespace Tm
end Tm

theorem nodup_le {α:Type} [DecidableEq α]:∀ (l L:List α),l.Nodup→(∀ x∈l,x∈L)→l.length≤L.length
 | [],L,_,_=>Nat.zero_le _
 | x::l,L,hn,hs=>by
  obtain ⟨a,b,rfl⟩:=List.mem_iff_append.1 (hs x (by simp))
  simp only [List.nodup_cons] at hn
  have:=nodup_le l (a++b) hn.2 fun y hy=>by
   have:=hs y (by simp [hy])
   simp only [List.mem_append,List.mem_cons] at this ⊢
   rcases this with h | h | h
   ·exact .inl h
   ·subst h; exact absurd hy hn.1
   ·exact .inr h
  simp only [List.length_append,List.length_cons] at this ⊢
  omega
namespace Tm
end Tm
namespace Tm
abbrev Met:=List (Int × Int)
end Tm
end PSL

namespace PSL
open Go
namespace Tm

theorem UG.sub {S:List Int} {N:Nat} {T T':List (Tm × Tm)} {B:Binds} (h:UG S N T B) (hs:∀ p∈T',p∈T):UG S N T' B :=
 ⟨h.chain,h.fairb,fun p hp=>h.fairt p (hs p hp),fun p hp=>h.st p (hs p hp),h.sb,h.sol,h.vb,fun p hp=>h.vt p (hs p hp)⟩

def MetS (S:List Int) (met:Met):Prop:=met.Nodup∧∀ m∈met,m.1∈S∧m.2∈S
theorem MetS.nil (S:List Int):MetS S []:=⟨by simp,by simp⟩

theorem MetS.len {S:List Int} {met:Met} (h:MetS S met):met.length≤S.length * S.length:=by
 have h1:=nodup_le met (S.flatMap fun a=>S.map fun b=>(a,b)) h.1 fun m hm=>by
  obtain ⟨h1,h2⟩:=h.2 m hm
  exact List.mem_flatMap.2 ⟨m.1,h1,List.mem_map.2 ⟨m.2,h2,rfl⟩⟩
 have h2:∀ L:List Int,(L.flatMap fun a=>S.map fun b=>(a,b)).length=L.length * S.length:=fun L=>by
  induction L with
  | nil=>simp
  | cons a L ih=>rw [List.flatMap_cons,List.length_append,ih,List.length_map,List.length_cons,Nat.succ_mul]; omega
 rw [h2] at h1; exact h1

theorem MetS.more {S:List Int} {met:Met} (h:MetS S met) {a b:Tm} (hs:skipU a b met=false) (ha:∀ u∈occ a,u∈S) (hb:∀ u∈occ b,u∈S):MetS S (metU a b met):=by
 unfold metU
 split
 ·rename_i hc
  have hc':=hc
  simp only [Bool.and_eq_true,decide_eq_true_eq] at hc'
  have hn:(a.n,b.n) ∉ met:=by
   unfold skipU at hs
   rw [hc,Bool.true_and] at hs
   simpa using hs
  refine ⟨?_,fun m hm=>?_⟩
  ·rw [List.nodup_append]
   exact ⟨h.1,by simp,fun x hx y hy=>by simp at hy; subst hy; exact fun e=>hn (e ▸ hx)⟩
  ·rcases List.mem_append.1 hm with hm | hm
   ·exact h.2 m hm
   ·simp only [List.mem_singleton] at hm; subst hm
    exact ⟨ha _ (occ_var hc'.1),hb _ (occ_var hc'.2)⟩
 ·exact h
end Tm
end PSL

namespace PSL
open Go
namespace Tm

mutual
theorem put_depth {σ:Int→Tm} {D:Nat}:∀ (t:Tm),(∀ v∈occ t,depth (σ v)≤D)→depth (putF σ t)≤depth t+D
 | mk k s n l,h=>by
  simp only [putF]
  by_cases hk:k=1
  ·rw [if_pos hk]
   have:=h n (by simp [occ,hk])
   omega
  ·rw [if_neg hk]
   have:=putL_depth l fun v hv=>h v (by simp [occ,hk,hv])
   simp only [depth]
   omega
theorem putL_depth {σ:Int→Tm} {D:Nat}:∀ (l:List Tm),(∀ v∈occL l,depth (σ v)≤D)→depthL (putFL σ l)≤depthL l+D
 | [],_=>by simp [putFL,depthL]
 | t::r,h=>by
  have h1:=put_depth t fun v hv=>h v (by simp [occL,hv])
  have h2:=putL_depth r fun v hv=>h v (by simp [occL,hv])
  simp only [putFL,depthL]
  omega
end

theorem full_depth {B:Binds} {N:Nat} (h1:1≤N) (h:∀ b∈B,depth b.2≤N):∀ (M:Nat) (t:Tm),depth (fullS B M t)≤depth t+M * N
 | 0,t=>by simp [fullS]
 | M+1,t=>by
  simp only [fullS]
  refine put_depth t fun v _=>?_
  rw [Nat.succ_mul]
  split
  ·rename_i x hx
   have h2:=full_depth h1 h M x
   have h3:=h _ (findB_mem hx)
   simp only at h3
   omega
  ·simp only [vT,depth,depthL]; omega

theorem kid_depth {σ:Int→Tm} {t x:Tm} (hk:t.k≠1) (hx:x∈t.l):depth (putF σ x)+1≤depth (putF σ t):=by
 rw [putF_fun hk,depth]
 have:∀ l:List Tm,x∈l→depth (putF σ x)≤depthL (putFL σ l):=fun l=>by
  induction l with
  | nil=>intro h; cases h
  | cons a l ih =>
   intro h
   simp only [putFL,depthL]
   rcases List.mem_cons.1 h with rfl | h
   ·omega
   ·have:=ih h; omega
 have:=this t.l hx
 omega

structure UState (S:List Int) (N:Nat) (a0:Tm) (n:Nat) (T:List (Tm × Tm)) (B:Binds) (met:Met) (B':Binds) (ok:Bool):Prop where
 run:URun false n T.reverse B met B' ok
 ug:UG S N T B
 lev:∀ (i:Nat) (p:Tm × Tm),T[i]? = some p→∃ l,i≤N * l∧∀ σ,solB σ B→depth (putF σ p.1)+l≤depth (putF σ a0)
 fa:a0.fairR=true
 sa:a0.size≤N
section
variable {S:List Int} {N:Nat} {a0:Tm} {n:Nat} {R T:List (Tm × Tm)} {x y:Tm} {B B':Binds} {met:Met} {ok:Bool}

theorem UG.blen (h:UG S N T B):B.length≤S.length:=by
 have:=nodup_le (B.map (·.1)) S h.chain.nodup (fun v hv=>by
  obtain ⟨c,hc,rfl⟩:=List.mem_map.1 hv
  exact (h.vb c hc).1)
 simpa using this
theorem UG.perm (h:UG S N T B) {T':List (Tm × Tm)} (hs:∀ p,p∈T'→p∈T):UG S N T' B:=h.sub hs

theorem UState.len (h:UState S N a0 n T B met B' ok):T.length≤N * (N+S.length * N)+1:=by
 obtain ⟨σ,hs⟩:=h.ug.sol
 have hS:=sub_sol hs h.ug.chain h.ug.fairb
 have hv:=sub_solV hS h.ug.chain
 have h1:1≤N:=by have:=size_pos a0; have:=h.sa; omega
 rcases List.eq_nil_or_concat T with rfl | ⟨R,p,rfl⟩
 ·simp
 obtain ⟨l,g1,g2⟩:=h.lev R.length p (by simp)
 have g3:=g2 _ hv
 rw [sub_putV hS h.fa] at g3
 have g4:=full_depth h1 (B:=B) (fun b hb=>Nat.le_trans (depth_le_size _) (h.ug.sb b hb)) B.length a0
 have g5:=depth_le_size a0
 have g6:=h.sa
 have g7:B.length * N≤S.length * N:=Nat.mul_le_mul_right _ h.ug.blen
 have g8:N * l≤N * (N+S.length * N):=Nat.mul_le_mul_left _ (by omega)
 simp only [List.concat_eq_append,List.length_append,List.length_singleton]
 omega

theorem UState.nil (h:UState S N a0 n [] B met B' ok):B'=B∧ok=true:=by
 have:=h.run
 simp only [List.reverse_nil] at this
 cases this
 exact ⟨rfl,rfl⟩

theorem UState.pos (h:UState S N a0 n (R++[(x,y)]) B met B' ok):∃ m,n=m+1:=by
 have:=h.run
 rw [List.reverse_append] at this
 cases this <;> exact ⟨_,rfl⟩

theorem UState.first (ha:a0.fairR=true) (hs:a0.size≤N) {b0:Tm} (h:URun false n [(a0,b0)] B [] B' ok) (hU:UG S N [(a0,b0)] B):UState S N a0 n [(a0,b0)] B [] B' ok :=
 ⟨h,hU,fun i p hp=>by
  cases i with
  | zero=>simp at hp; subst hp; exact ⟨0,Nat.zero_le _,fun σ _=>Nat.le_refl _⟩
  | succ i=>simp at hp,ha,hs⟩

theorem lev_tail (h:UState S N a0 n (R++[(x,y)]) B met B' ok):∀ (i:Nat) (p:Tm × Tm),R[i]? = some p→∃ l,i≤N * l∧∀ σ,solB σ B→depth (putF σ p.1)+l≤depth (putF σ a0):=fun i p hp =>
 h.lev i p (by rw [List.getElem?_append_left (List.getElem?_eq_some_iff.1 hp).1]; exact hp)

theorem UState.skip (h:UState S N a0 (n+1) (R++[(x,y)]) B met B' ok) (hs:skipU x y met=true):UState S N a0 n R B met B' ok:=by
 have hr:=h.run
 rw [List.reverse_append] at hr
 have ht:=lev_tail h
 have hg:=h.ug.perm (T':=R) (by simp +contextual)
 cases hr with
 | skip _ h1=>exact ⟨h1,hg,ht,h.fa,h.sa⟩
 | same h1=>rw [hs] at h1; cases h1
 | occ h1=>rw [hs] at h1; cases h1
 | bind h1=>rw [hs] at h1; cases h1
 | clash h1=>rw [hs] at h1; cases h1
 | args h1=>rw [hs] at h1; cases h1

theorem UState.step (h:UState S N a0 (n+1) (R++[(x,y)]) B met B' ok) (hs:skipU x y met=false) :
  ((walkB B x).k=1→findB B (walkB B x).n=none)∧((walkB B y).k=1→findB B (walkB B y).n=none)∧(walkB B x).size≤N∧(walkB B y).size≤N ∧
  ((walkB B x).k=1∧(walkB B y).k=1∧(walkB B x).n=(walkB B y).n→UState S N a0 n R B (metU x y met) B' ok) ∧
  (¬ ((walkB B x).k=1∧(walkB B y).k=1∧(walkB B x).n=(walkB B y).n) →
   ((walkB B x).k=1→(withB B (walkB B x).n (walkB B y)=true→B'=B∧ok=false)∧(withB B (walkB B x).n (walkB B y)=false→UState S N a0 n R (B++[((walkB B x).n,walkB B y)]) (metU x y met) B' ok)) ∧
   (¬ (walkB B x).k=1→((walkB B y).k=1→(withB B (walkB B y).n (walkB B x)=true→B'=B∧ok=false)∧(withB B (walkB B y).n (walkB B x)=false→UState S N a0 n R (B++[((walkB B y).n,walkB B x)]) (metU x y met) B' ok)) ∧
    (¬ (walkB B y).k=1→(clashB (walkB B x) (walkB B y)=true→B'=B∧ok=false)∧(clashB (walkB B x) (walkB B y)=false→UState S N a0 n (R++(walkB B x).l.zip (walkB B y).l) B (metU x y met) B' ok)))):=by
 have hr:=h.run
 rw [List.reverse_append] at hr
 have ht:=lev_tail h
 have hU:UG S N ((x,y)::R) B:=h.ug.perm (by simp +contextual [or_comm])
 have hlast:=h.lev R.length (x,y) (by simp)
 have h1:=hU.walk1
 have h2:=hU.walk2
 have wx:∀ σ,solB σ B→putF σ (walkB B x)=putF σ x:=fun σ hσ=>walk_sol hσ _ x
 have hargs:=fun hx hy=>hU.args (sw:=true) hx hy
 have hbind:=fun (u w:Tm) hv hp hk hw=>hU.bind (sw:=false) (u:=u) (w:=w) hv hp hk hw
 have tmono:∀ B1:Binds,(∃ X,B1=B++X)→∀ (i:Nat) (p:Tm × Tm),R[i]? = some p→∃ l,i≤N * l∧∀ σ,solB σ B1→depth (putF σ p.1)+l≤depth (putF σ a0):=fun B1 ⟨X,hX⟩ i p hp=>by
  obtain ⟨l,g1,g2⟩:=ht i p hp
  exact ⟨l,g1,fun σ hσ=>g2 σ fun b hb=>hσ b (by rw [hX]; simp [hb])⟩
 have targs:(walkB B x).k≠1→∀ (i:Nat) (p:Tm × Tm),(R++(walkB B x).l.zip (walkB B y).l)[i]? = some p→∃ l,i≤N * l∧∀ σ,solB σ B→depth (putF σ p.1)+l≤depth (putF σ a0):=fun hx i p hp=>by
  by_cases hi:i<R.length
  ·rw [List.getElem?_append_left hi] at hp; exact ht i p hp
  ·rw [List.getElem?_append_right (by omega)] at hp
   obtain ⟨l,g1,g2⟩:=hlast
   have hil:=(List.getElem?_eq_some_iff.1 hp).1
   rw [List.length_zip] at hil
   have hll:=length_le_sizeL (walkB B x).l
   have hsz:=size_eq (walkB B x)
   have hz:=h1.size
   refine ⟨l+1,by rw [Nat.mul_succ]; omega,fun σ hσ=>?_⟩
   have g3:=g2 σ hσ
   simp only at g3
   rw [← wx σ hσ] at g3
   have g4:=kid_depth (σ:=σ) hx (List.of_mem_zip (List.mem_of_getElem? hp)).1
   omega
 clear wx
 generalize hwx:walkB B x=x' at *
 generalize hwy:walkB B y=y' at *
 have hR0:UG S N R B:=hU.tail
 refine ⟨h1.nd,h2.nd,h1.size,h2.size,fun hv=>?_,fun hv=>⟨fun hk=>?_,fun hkx=>⟨fun hk=>?_,fun hky=>?_⟩⟩⟩
 ·cases hr with
  | skip g=>rw [hs] at g; cases g
  | same _ _ g=>exact ⟨g,hR0,ht,h.fa,h.sa⟩
  | occ _ g=>rw [hwx,hwy] at g; exact absurd hv g
  | bind _ g=>rw [hwx,hwy] at g; exact absurd hv g
  | clash _ g=>rw [hwx] at g; exact absurd hv.1 g
  | args _ g=>rw [hwx] at g; exact absurd hv.1 g
 ·have hp:pickU false x' y'=(x',y'):=by unfold pickU; rw [if_neg (by simp [hk])]
  cases hr with
  | skip g=>rw [hs] at g; cases g
  | same _ g=>rw [hwx,hwy] at g; exact absurd g hv
  | occ _ _ g _ gw =>
   rw [hwx,hwy,hp] at g; cases g
   exact ⟨fun _=>⟨rfl,rfl⟩,fun e=>by rw [gw] at e; cases e⟩
  | bind _ _ g _ gw gr =>
   rw [hwx,hwy,hp] at g; cases g
   exact ⟨fun e=>(by rw [gw] at e; cases e),fun e=>⟨gr,hbind _ _ hv hp hk gw,tmono _ ⟨_,rfl⟩,h.fa,h.sa⟩⟩
  | clash _ g=>rw [hwx] at g; exact absurd hk g
  | args _ g=>rw [hwx] at g; exact absurd hk g
 ·have hp:pickU false x' y'=(y',x'):=by unfold pickU; rw [if_pos (by simp [hk,hkx])]
  cases hr with
  | skip g=>rw [hs] at g; cases g
  | same _ g=>rw [hwx,hwy] at g; exact absurd g hv
  | occ _ _ g _ gw =>
   rw [hwx,hwy,hp] at g; cases g
   exact ⟨fun _=>⟨rfl,rfl⟩,fun e=>by rw [gw] at e; cases e⟩
  | bind _ _ g _ gw gr =>
   rw [hwx,hwy,hp] at g; cases g
   exact ⟨fun e=>(by rw [gw] at e; cases e),fun e=>⟨gr,hbind _ _ hv hp hk gw,tmono _ ⟨_,rfl⟩,h.fa,h.sa⟩⟩
  | clash _ _ g=>rw [hwy] at g; exact absurd hk g
  | args _ _ g=>rw [hwy] at g; exact absurd hk g
 ·have hp:pickU false x' y'=(x',y'):=by unfold pickU; rw [if_neg (by simp [hky])]
  cases hr with
  | skip g=>rw [hs] at g; cases g
  | same _ g=>rw [hwx,hwy] at g; exact absurd g hv
  | occ _ _ g gk=>rw [hwx,hwy,hp] at g; cases g; exact absurd gk hkx
  | bind _ _ g gk=>rw [hwx,hwy,hp] at g; cases g; exact absurd gk hkx
  | clash _ _ _ g =>
   rw [hwx,hwy] at g
   exact ⟨fun _=>⟨rfl,rfl⟩,fun e=>by rw [g] at e; cases e⟩
  | args _ _ _ g gr =>
   rw [hwx,hwy] at g gr
   refine ⟨fun e=>(by rw [g] at e; cases e),fun _=>⟨?_,(hargs hkx hky).perm fun p hp=>?_,targs hkx,h.fa,h.sa⟩⟩
   ·rw [List.reverse_append]; exact gr
   ·rcases List.mem_append.1 hp with hp | hp
    ·exact List.mem_append.2 (.inr hp)
    ·exact List.mem_append.2 (.inl (ordU_mem.2 hp))
end
end Tm
end PSL

namespace PSL
open Go
namespace Tm

structure NeedI (B:Binds) (W:List Int) (R:List Int) (Q:Binds):Prop where
 nodup:(Q.map (·.1)).Nodup
 look:∀ b∈Q,findB B b.1=some b.2
 all:∀ v,(v∈W∨∃ b∈Q,v∈occ b.2)→findB B v=none∨v∈Q.map (·.1)∨v∈R

theorem NeedI.first (B:Binds) (W:List Int):NeedI B W W []:=⟨by simp,by simp,fun v h=>by
 rcases h with h | ⟨b,hb,_⟩
 ·exact .inr (.inr h)
 ·cases hb⟩

theorem NeedI.skip {B:Binds} {W R:List Int} {Q:Binds} {v:Int} (h:NeedI B W (v::R) Q) (hv:findB B v=none∨v∈Q.map (·.1)):NeedI B W R Q:=⟨h.nodup,h.look,fun u hu=>by
 rcases h.all u hu with h1 | h1 | h1
 ·exact .inl h1
 ·exact .inr (.inl h1)
 ·rcases List.mem_cons.1 h1 with rfl | h1
  ·rcases hv with hv | hv
   ·exact .inl hv
   ·exact .inr (.inl hv)
  ·exact .inr (.inr h1)⟩

theorem NeedI.more {B:Binds} (hB:∀ b∈B,b.2.fairR=true) {W R:List Int} {Q:Binds} {v:Int} {x:Tm} (h:NeedI B W (v::R) Q) (hx:findB B v=some x) (hv:v ∉ Q.map (·.1)):NeedI B W (R++varsT [x]) (Q++[(v,x)]):=by
 have hf:fairRL [x]=true:=fairRL_iff.2 fun t ht=>by
  rw [List.mem_singleton] at ht; subst ht; exact hB _ (findB_mem hx)
 refine ⟨?_,fun b hb=>?_,fun u hu=>?_⟩
 ·rw [List.map_append,List.nodup_append]
  refine ⟨h.nodup,by simp,fun a ha b hb=>?_⟩
  simp only [List.map_cons,List.map_nil,List.mem_singleton] at hb
  subst hb
  exact fun e=>hv (e ▸ ha)
 ·rcases List.mem_append.1 hb with hb | hb
  ·exact h.look b hb
  ·rw [List.mem_singleton] at hb; subst hb; exact hx
 ·have key:(u∈W∨∃ b∈Q,u∈occ b.2)∨u∈occ x:=by
   rcases hu with hu | ⟨b,hb,hu⟩
   ·exact .inl (.inl hu)
   ·rcases List.mem_append.1 hb with hb | hb
    ·exact .inl (.inr ⟨b,hb,hu⟩)
    ·rw [List.mem_singleton] at hb; subst hb; exact .inr hu
  rcases key with hu | hu
  ·rcases h.all u hu with h1 | h1 | h1
   ·exact .inl h1
   ·exact .inr (.inl (by rw [List.map_append]; exact List.mem_append.2 (.inl h1)))
   ·rcases List.mem_cons.1 h1 with rfl | h1
    ·exact .inr (.inl (by rw [List.map_append]; exact List.mem_append.2 (.inr (by simp))))
    ·exact .inr (.inr (List.mem_append.2 (.inl h1)))
  ·refine .inr (.inr (List.mem_append.2 (.inr ((varsT_mem hf).2 ?_))))
   simpa [occL] using hu
theorem UG.sub_ {S:List Int} {N:Nat} {T:List (Tm × Tm)} {B:Binds} (h:UG S N T B):Sub B B.length:=h.sol.elim fun _ hs=>sub_sol hs h.chain h.fairb

theorem UG.right {S:List Int} {N:Nat} (hN:N≤100) {T:List (Tm × Tm)} {B:Binds} (h:UG S N T B):rightS B=true:=by
 refine rightS_of h.sub_ h.chain.nodup fun b hb=>?_
 obtain ⟨h1,h2,h3⟩:=h.fairb b hb
 have h4:=h.sb b hb
 have h5:=Tm.depth_le_size b.2
 exact ⟨h2,h3,Tm.rightB_iff.2 ⟨h1,by omega,by omega⟩⟩
end Tm
end PSL

namespace PSL
open Go
namespace Tm

theorem UG.nil (S:List Int) (N:Nat):UG S N [] [] :=
 ⟨chainB.nil,fun b hb=>(by cases hb),fun p hp=>(by cases hp),fun p hp=>(by cases hp),fun b hb=>(by cases hb),⟨vT,fun b hb=>(by cases hb)⟩,fun b hb=>(by cases hb),fun p hp=>(by cases hp)⟩
end Tm
end PSL

namespace PSL
open Go
namespace Tm
end Tm
end PSL

namespace PSL
open Go

def mvIs (d:Int) (x:Is):Is:=if x.op=14∨x.op=16 then ⟨x.op,x.v,x.n+d,x.s⟩ else x

theorem mvIs_facts (d:Int) (x:Is):(mvIs d x).op=x.op∧(mvIs d x).v=x.v∧(mvIs d x).s=x.s∧(mvIs d x).n=if x.op=14∨x.op=16 then x.n+d else x.n:=by
 unfold mvIs; split <;> exact ⟨rfl,rfl,rfl,rfl⟩

theorem mvIs_zero (l:List Is):l.map (mvIs 0)=l:=by
 have h:∀ x:Is,mvIs 0 x=x:=fun x=>by
  unfold mvIs; split
  ·cases x; simp
  ·rfl
 rw [show mvIs 0=id from funext h,List.map_id]
def noJmp (l:List Is):Prop:=∀ x∈l,x.op≠14∧x.op≠16
theorem noJmp_app {a b:List Is} (ha:noJmp a) (hb:noJmp b):noJmp (a++b):=fun x hx=>(List.mem_append.1 hx).elim (ha x) (hb x)

theorem noJmp_one {o v n:Int} {s:ByteArray} (h:o≠14∧o≠16):noJmp [⟨o,v,n,s⟩]:=fun x hx=>by
 rw [List.mem_singleton] at hx; subst hx; exact h

mutual
theorem headG_no:∀ (t:Tm) (met:List Int),noJmp (headG t met).1
 | .mk k s n l,met=>by
  rw [headG]
  split
  ·refine noJmp_one ?_
   split <;> decide
  ·split
   ·exact noJmp_one (by decide)
   ·intro x hx
    rcases List.mem_cons.1 hx with rfl | hx
    ·exact (by decide:(4:Int)≠14∧(4:Int)≠16)
    ·exact headGL_no l met x hx
theorem headGL_no:∀ (l:List Tm) (met:List Int),noJmp (headGL l met).1
 | [],met=>fun x hx=>by rw [headGL] at hx; cases hx
 | t::r,met=>by
  rw [headGL]
  exact noJmp_app (headG_no t met) (headGL_no r _)
end

mutual
theorem putG_no:∀ t:Tm,noJmp (putG t)
 | .mk k s n l=>by
  rw [putG]
  refine noJmp_app (putGL_no l) ?_
  unfold instG
  split
  ·exact noJmp_one (by decide)
  ·split
   ·exact noJmp_one (by decide)
   ·exact noJmp_one (by decide)
theorem putGL_no:∀ l:List Tm,noJmp (putGL l)
 | []=>fun x hx=>by rw [putGL] at hx; cases hx
 | t::r=>by
  rw [putGL]
  exact noJmp_app (putG_no t) (putGL_no r)
end

theorem freshG_no (met:List Int) (n:Nat):noJmp (freshG met n):=fun x hx=>by
 unfold freshG at hx
 obtain ⟨v,_,rfl⟩:=List.mem_map.1 hx
 exact (by decide:(5:Int)≠14∧(5:Int)≠16)
theorem asksG_no (op:Int) (h:op≠14∧op≠16) (t:Tm):noJmp (asksG op t):=noJmp_app (putGL_no _) (noJmp_one h)
theorem clsH_no (c:Cs):noJmp (clsH c):=noJmp_app (headGL_no _ _) (freshG_no _ _)

def jmpIn (N:Int) (l:List Is):Prop:=∀ x∈l,x.op=14∨x.op=16→0≤x.n∧x.n≤N
theorem jmpIn_app {N:Int} {a b:List Is} (ha:jmpIn N a) (hb:jmpIn N b):jmpIn N (a++b):=fun x hx=>(List.mem_append.1 hx).elim (ha x) (hb x)
theorem jmpIn_no {N:Int} {l:List Is} (h:noJmp l):jmpIn N l:=fun x hx hj=>by have:=h x hx; omega

theorem jmpIn_one {N o v n:Int} {s:ByteArray} (h:0≤n∧n≤N):jmpIn N [⟨o,v,n,s⟩]:=fun x hx _=>by
 rw [List.mem_singleton] at hx; subst hx; exact h

mutual
theorem golD_jmp:∀ (g:Gl) (at_:Nat) (v N:Int),(at_:Int)+(golD g at_ v).length≤N→jmpIn N (golD g at_ v)
 | .mk k t a b c,at_,v,N=>by
  have ha:=golDL_jmp a (at_+2) (v+1) N
  rw [golD]
  dsimp only
  generalize golDL a (at_+2) (v+1)=A at *
  have hb:=golDL_jmp b (at_+2+A.length+1) (v+1+testsGL a) N
  generalize golDL b (at_+2+A.length+1) (v+1+testsGL a)=B at *
  have hc:=golDL_jmp c (at_+2+A.length+1+B.length+1) (v+1+testsGL a+testsGL b) N
  generalize golDL c (at_+2+A.length+1+B.length+1) (v+1+testsGL a+testsGL b)=C at *
  by_cases h1:k=1∨k=2
  ·rw [if_pos h1]; intro _; exact jmpIn_no (asksG_no (8+k) (by omega) t)
  rw [if_neg h1]
  by_cases h3:k=3
  ·rw [if_pos h3]; intro _; exact jmpIn_no (noJmp_one (by decide))
  rw [if_neg h3]
  by_cases h5:k=5
  ·rw [if_pos h5]
   unfold notCode
   intro hN
   simp only [List.length_append,List.length_cons,List.length_nil] at hN
   refine jmpIn_app (jmpIn_app ?_ (ha (by omega))) (jmpIn_no (noJmp_app (a:=[⟨15,v,0,e0⟩]) (noJmp_one (by decide)) (noJmp_one (by decide))))
   exact jmpIn_app (a:=[⟨13,v,0,e0⟩]) (jmpIn_no (noJmp_one (by decide))) (jmpIn_one ⟨by omega,by omega⟩)
  ·rw [if_neg h5]
   unfold ifCode
   intro hN
   simp only [List.length_append,List.length_cons,List.length_nil] at hN
   refine jmpIn_app (jmpIn_app (jmpIn_app (jmpIn_app (jmpIn_app ?_ (ha (by omega))) (jmpIn_no (noJmp_one (by decide)))) (hb (by omega))) (jmpIn_one ⟨by omega,by omega⟩)) (hc (by omega))
   exact jmpIn_app (a:=[⟨13,v,0,e0⟩]) (jmpIn_no (noJmp_one (by decide))) (jmpIn_one ⟨by omega,by omega⟩)
theorem golDL_jmp:∀ (l:List Gl) (at_:Nat) (v N:Int),(at_:Int)+(golDL l at_ v).length≤N→jmpIn N (golDL l at_ v)
 | [],_,_,_,_=>fun x hx=>by rw [golDL] at hx; cases hx
 | g::r,at_,v,N,h=>by
  rw [golDL] at h ⊢
  rw [List.length_append] at h
  exact jmpIn_app (golD_jmp g at_ v N (by omega)) (golDL_jmp r _ _ N (by omega))
end

theorem clsC_jmp (c:Cs) (at_:Nat) (N:Int) (h:(at_:Int)+(clsC c at_).length≤N):jmpIn N (clsC c at_):=by
 unfold clsC at h ⊢
 simp only [List.length_append,List.length_singleton] at h
 exact jmpIn_app (jmpIn_app (jmpIn_no (clsH_no c)) (golDL_jmp _ _ _ _ (by omega))) (jmpIn_no (noJmp_one (by decide)))

theorem codeL_jmp:∀ (l:List Cs) (out:List Is) (N:Int),((codeL l out).length:Int)≤N→jmpIn N out→jmpIn N (codeL l out)
 | [],_,_,_,h=>h
 | c::r,out,N,hN,h=>by
  simp only [codeL] at hN ⊢
  refine codeL_jmp r _ N hN (jmpIn_app h (clsC_jmp c _ N ?_))
  have hle:∀ (l:List Cs) (o:List Is),o.length≤(codeL l o).length:=by
   intro l
   induction l with
   | nil=>exact fun o=>Nat.le_refl _
   | cons x r ih=>intro o; have:=ih (o++clsC x o.length); rw [List.length_append] at this; simp only [codeL]; omega
  have:=hle r (out++clsC c out.length)
  rw [List.length_append] at this
  omega

theorem qryE_jmp (q:Cs) (at_:Nat) (N:Int) (h:(at_:Int)+(qryE q at_).length≤N):jmpIn N (qryE q at_):=by
 unfold qryE at h ⊢
 simp only [List.length_append,List.length_singleton] at h
 exact jmpIn_app (jmpIn_app (jmpIn_app (jmpIn_no (freshG_no _ _)) (golDL_jmp _ _ _ _ (by omega))) (jmpIn_no (putGL_no _))) (jmpIn_no (noJmp_one (by decide)))
end PSL
namespace PSL
open Go
section
variable {ty:Nat→Option Ty} {T B:Nat} {n:Nat} {τ:Ty} {row:List D} {a:AV}
end
end PSL

namespace PSL
open Go
end PSL

namespace Go.Proofs.YtcgkgofmldhokaaGreat
open Go PSL Go.Proofs
def pfQry:Nat→Cls:=fun f=>bif Nat.beq f 4000200004 then .turn 101 else bif Nat.beq f 4000100081 then .look 102 else .eff
theorem vT_entQ (v:Int):Ent (.d (.sl [[.v (.int .i64 1),.v (.string ByteArray.empty),.v (.int .i64 v),.v (.slice none 0 0)]])) (.d (.sl [[.v (.int .i64 1),.v (.string ByteArray.empty),.v (.int .i64 v),.sl []]])):=fun _ _ _ _ h=>aLe_ok (by simp [aLe,dLe,rowLe,rowsLe,vLe,kEq,Tm.strEq_iff]) h

set_option maxHeartbeats 4000000 in
set_option maxRecDepth 100000 in
theorem query_ok (S0:Bs) (hS:S0.length≤9000) {x:Clau} {q:Int} (h:clauR rightT false S0=some ([x],q,0)) (hnc:noCh x.1=true) (p:List Cs) (hp:∀ c∈p,SmC c) (hpl:p.length≤1000000) (hck:(checkR p).2=0) (hg0:(goalsT x.1).2=0) (h8:x.2.length≤8) (hth:thereL (hasH p) (goalsT x.1).1=true) :
  PCtr Tryz.prog 30 [txA S0,prV p] (.tup [(qryC x).av,.d (.sl (strRows x.2)),iV 0,iV 0]):=by
 obtain ⟨_,f2,_,_⟩:=clau_facts hS h
 have hx:=(f2 rfl).2 x (by simp)
 have hs:=smT_right hx.right
 have h3:=(Tm.rightB_iff.1 hx.right).2.1
 have hc1:=check_ok p hp
 rw [hck] at hc1
 have hone:=oneT_ok9 S0 hS h
 rw [show oneR S0.length ([x],q,0)=(x,0,0) from rfl] at hone
 have hgo:=goals_ok x.1 hs hnc
 rw [hg0] at hgo
 have hsz:Gl.sizeL (goalsT x.1).1≤1000000:=by
  obtain ⟨_,g2,_⟩:=golF_ok x.1.size x.1 (20,0) 1 true hs
  unfold goalsT
  split
  ·split
   ·simp [Gl.sizeL]
   ·simp only; omega
  ·simp [Gl.sizeL]
 have hto:=theres_ok (goalsT x.1).1 p hsz hpl
 rw [hth] at hto
 have hrn:=strRows_len x.2
 unfold qryC
 generalize (goalsT x.1).1=B at *
 refine PCtr.of_R (pf:=pfQry) tyOk mixed Tryz.func30 rfl (by kernel_rfl) (by kernel_rfl) (by simp [Tryz.ntmps30]) fun w S hg=>?_
 refine R_run hg.ok 1000 rfl rfl ?_
 refine R_call hg.ok (hc1) rfl rfl rfl rfl rfl rfl ?_
 refine R_run hg.ok 1000 rfl rfl ?_
 refine R_if rfl rfl (fun h=>absurd h (by simp)) (fun _=>?_) <;> refine R_run hg.ok 1000 rfl rfl ?_
 refine R_call hg.ok (hone) rfl rfl rfl rfl rfl rfl ?_
 refine R_run hg.ok 1000 rfl rfl ?_
 refine R_if rfl rfl (fun h=>absurd h (by simp)) (fun _=>?_) <;> refine R_run hg.ok 1000 rfl rfl ?_
 refine R_call hg.ok (hgo) rfl rfl rfl rfl rfl rfl ?_
 refine R_run hg.ok 1000 rfl rfl ?_
 refine R_if rfl rfl (fun h=>absurd h (by simp)) (fun _=>?_) <;> refine R_run hg.ok 1000 rfl rfl ?_
 rw [hrn]
 refine R_if rfl rfl (fun h=>absurd (of_decide_eq_true h) (by omega)) (fun _=>?_) <;> refine R_run hg.ok 1000 rfl rfl ?_
 refine R_call hg.ok (hto) rfl rfl rfl rfl rfl rfl ?_
 refine R_run hg.ok 1000 rfl rfl ?_
 refine R_if rfl rfl (fun h=>absurd h (by simp)) (fun _=>?_) <;> refine R_run hg.ok 1000 rfl rfl ?_
 refine R_ownB 3 3 4 rfl rfl rfl ?_
 refine R_loop (fun y:Nat × Nat=>([(4,.lo 1 0),(10,.lo 2 0),(13,.lo 3 0),(66,iV x.2.length),(67,iV y.1)],[.box [.d (.sl (Cs.rows p))],.box [.d (.v (.int .i64 0)),.d (.v (.string ByteArray.empty)),.d (.v (.int .i64 0)),.d (.v (.slice none 0 0)),.d (.v (.slice none 0 0)),.d (.v (.int .i64 0))],clB x,.box [.d (.v (.int .i64 3)),.d (.v (.string (Tx [63]))),.d (.v (.int .i64 0)),.ow 4 y.2,.d (.sl (Gl.rows B)),.d (.v (.int .i64 x.2.length))],.arr 4 y.2 (Tm.rows (varL y.1))])) (fun y=>y.1≤x.2.length) (fun y=>x.2.length - y.1) (0,0) (Nat.zero_le _) ⟨.refl _,.refl _,.refl _,.refl _,.refl _,trivial⟩ rfl ?_
 rintro ⟨k,s⟩ hk
 have hk:k≤x.2.length:=hk
 refine R_run hg.ok 1000 rfl rfl ?_
 refine R_if rfl rfl (fun h=>?_) (fun h=>?_)
 ·refine R_run hg.ok 1000 rfl rfl ?_
  have hk1:k<x.2.length:=lt_dec h rfl
  refine R_see 75 rfl ((Ent.fs _).trans (vT_entQ (k:Int))) ?_
  refine R_appendO hg.ok (Tm.rows (varL (k+1))) rfl rfl rfl rfl rfl rfl rfl rfl rfl (by simp) (by simp [one1]) (by rw [← varL_snoc,Tm.rows_eq,Tm.rows_eq,List.map_append]; rfl) (by rw [Tm.rows_length,varL_len]; simp; omega) (by rw [Tm.rows_length,varL_len]; simp; omega) ?_
  refine R_run hg.ok 1000 rfl rfl ?_
  exact R_next (k+1,Nat.succ s) hk1 (by simp only; omega) ⟨.refl _,.refl _,.refl _,.refl _,Ent.wrap (by simp only; omega) (by simp only; omega) (by simp only; omega),trivial⟩ rfl
 ·have hk1:x.2.length≤k:=ge_dec h rfl
  have hke:k=x.2.length:=by omega
  subst hke
  refine R_freezeO hg.gup 4 [(4,.lo 1 0),(10,.lo 2 0),(13,.lo 3 0),(68,.ff)] [.box [.d (.sl (Cs.rows p))],.box [.d (.v (.int .i64 0)),.d (.v (.string ByteArray.empty)),.d (.v (.int .i64 0)),.d (.v (.slice none 0 0)),.d (.v (.slice none 0 0)),.d (.v (.int .i64 0))],clB x,.box [.d (.v (.int .i64 3)),.d (.v (.string (Tx [63]))),.d (.v (.int .i64 0)),.d (.sl (Tm.rows (varL x.2.length))),.d (.sl (Gl.rows B)),.d (.v (.int .i64 x.2.length))],.dead] rfl rfl ⟨.refl _,.refl _,.refl _,.refl _,trivial⟩ ⟨⟨.refl _,trivial⟩,⟨.refl _,.refl _,.refl _,.refl _,.refl _,.refl _,trivial⟩,⟨.refl _,.refl _,.refl _,.refl _,.refl _,trivial⟩,⟨.refl _,.refl _,.refl _,Ent.frz 4 s _,.refl _,.refl _,trivial⟩,trivial,trivial⟩ ?_
  refine R_run hg.ok 1000 rfl rfl ?_
  refine R_loadJ hg.ok 101 (by rintro (⟨h,_⟩ | h | ⟨h,_⟩) <;> omega) rfl rfl rfl rfl rfl rfl rfl ?_
  refine R_run hg.ok 1000 rfl rfl ?_
  refine R_storeJ hg.ok rfl rfl rfl rfl rfl rfl rfl rfl rfl ?_
  refine R_run hg.ok 1000 rfl rfl ?_
  refine R_ret hg 5 rfl rfl ?_
  rfl
end Go.Proofs.YtcgkgofmldhokaaGreat

namespace Go.Proofs.YtcgkgofmldhokaaGreat
open Go PSL Go.Proofs
end Go.Proofs.YtcgkgofmldhokaaGreat

namespace Go.Proofs.YtcgkgofmldhokaaGreat
open Go PSL Go.Proofs
end Go.Proofs.YtcgkgofmldhokaaGreat

namespace Go.Proofs.YtcgkgofmldhokaaGreat
open Go PSL Go.Proofs
def okT (ok:Bool) (t:Tm):Tm:=if ok then t else zeroT
end Go.Proofs.YtcgkgofmldhokaaGreat

namespace PSL
open Go Go.RowKit Go.MapKept
section
variable {g:G} {pf:Nat→Cls} {ops:Array Oper} {Fin:Exit→Act→World→Prop}
end
end PSL

namespace Go.Proofs.YtcgkgofmldhokaaGreat
open Go PSL Go.Proofs
end Go.Proofs.YtcgkgofmldhokaaGreat

namespace Go.Proofs.YtcgkgofmldhokaaGreat
open Go PSL Go.Proofs
end Go.Proofs.YtcgkgofmldhokaaGreat

namespace Go.Proofs.YtcgkgofmldhokaaGreat
open Go PSL Go.Proofs
theorem rows_snoc (l:List Tm) (x:Tm):Tm.rows l++[[.v (.int .i64 x.k),.v (.string x.s),.v (.int .i64 x.n),.sl (Tm.rows x.l)]]=Tm.rows (l++[x]):=by simp [Tm.rows_eq,Tm.row]
end Go.Proofs.YtcgkgofmldhokaaGreat

namespace Go.Proofs.YtcgkgofmldhokaaGreat
open Go PSL Go.Proofs
end Go.Proofs.YtcgkgofmldhokaaGreat

namespace Go.Proofs.YtcgkgofmldhokaaGreat
open Go PSL Go.Proofs
end Go.Proofs.YtcgkgofmldhokaaGreat

namespace PSL
open Go Go.RowKit
section
variable {g:G} {pf:Nat→Cls} {ops:Array Oper} {Fin:Exit→Act→World→Prop}
end
end PSL

namespace Go.Proofs.YtcgkgofmldhokaaGreat
open Go PSL Go.Proofs
end Go.Proofs.YtcgkgofmldhokaaGreat

namespace Go.Proofs.YtcgkgofmldhokaaGreat
open Go PSL Go.Proofs
end Go.Proofs.YtcgkgofmldhokaaGreat

namespace Go.Proofs.YtcgkgofmldhokaaGreat
open Go PSL Go.Proofs
end Go.Proofs.YtcgkgofmldhokaaGreat

namespace Go.Proofs.YtcgkgofmldhokaaGreat
open Go PSL Go.Proofs
end Go.Proofs.YtcgkgofmldhokaaGreat

namespace Go.Proofs.YtcgkgofmldhokaaGreat
open Go PSL Go.Proofs
end Go.Proofs.YtcgkgofmldhokaaGreat

namespace Go.Proofs.YtcgkgofmldhokaaGreat
open Go PSL Go.Proofs
end Go.Proofs.YtcgkgofmldhokaaGreat

namespace Go.Proofs.YtcgkgofmldhokaaGreat
open Go PSL Go.Proofs
end Go.Proofs.YtcgkgofmldhokaaGreat

namespace Go.Proofs.YtcgkgofmldhokaaGreat
open Go PSL Go.Proofs
end Go.Proofs.YtcgkgofmldhokaaGreat

namespace Go.Proofs.YtcgkgofmldhokaaGreat
open Go PSL Go.Proofs
end Go.Proofs.YtcgkgofmldhokaaGreat

namespace Go.Proofs.YtcgkgofmldhokaaGreat
open Go PSL Go.Proofs
end Go.Proofs.YtcgkgofmldhokaaGreat

namespace Go.Proofs.YtcgkgofmldhokaaGreat
open Go PSL Go.Proofs
end Go.Proofs.YtcgkgofmldhokaaGreat

namespace Go.Proofs.YtcgkgofmldhokaaGreat
open Go PSL Go.Proofs
end Go.Proofs.YtcgkgofmldhokaaGreat

namespace Go.Proofs.YtcgkgofmldhokaaGreat
open Go PSL Go.Proofs
end Go.Proofs.YtcgkgofmldhokaaGreat

namespace Go.Proofs.YtcgkgofmldhokaaGreat
open Go PSL Go.Proofs
end Go.Proofs.YtcgkgofmldhokaaGreat

namespace PSL
open Go Go.RowKit Go.MapKept
section
variable {g:G} {pf:Nat→Cls} {ops:Array Oper} {Fin:Exit→Act→World→Prop}
end
end PSL

namespace Go.Proofs.YtcgkgofmldhokaaGreat
open Go PSL Go.Proofs
end Go.Proofs.YtcgkgofmldhokaaGreat

namespace Go.Proofs.YtcgkgofmldhokaaGreat
open Go PSL Go.Proofs
end Go.Proofs.YtcgkgofmldhokaaGreat

namespace Go.Proofs.YtcgkgofmldhokaaGreat
open Go PSL Go.Proofs
end Go.Proofs.YtcgkgofmldhokaaGreat

namespace Go.Proofs.YtcgkgofmldhokaaGreat
open Go PSL Go.Proofs
def kyV (k:Ky):Value:=.agg #[.int .i64 k.kind,.int .i64 k.n,.string k.s]
def kyEqB (a b:Ky):Bool:=(a.kind==b.kind)&&(a.n==b.n)&&strEq a.s b.s
def isV (x:Is):Value:=.agg #[.int .i64 x.op,.int .i64 x.v,.int .i64 x.n,.string x.s]
def isEqB (a b:Is):Bool:=(a.op==b.op)&&(a.v==b.v)&&(a.n==b.n)&&strEq a.s b.s

theorem kyEqual (d:Nat) (a b:Ky) (w:World):(Op.equalIn (d+1+1) 48 (kyV a) (kyV b)).run Tryz.prog w=.ok (kyEqB a b) w:=by
 obtain ⟨k,n,s⟩:=a
 obtain ⟨k',n',s'⟩:=b
 unfold kyV kyEqB
 rw [run_equalIn_agg w (d+1) 48 _ _ (by rw [Program.fieldsOf,Tryz.underlying48]) Tryz.stoodInHeld48]
 rw [Program.fieldsOf,Tryz.underlying48]
 simp [Op.eqFields,part,run_equalIn_int _ _ _ _ _ _ _ Tryz.underlying3,run_equalIn_string _ _ _ _ _ Tryz.underlying9]
 by_cases h1:k=k'
 ·by_cases h2:n=n'
  ·by_cases h3:s=s'
   ·simp [h1,h2,h3,strEq]
   ·have h4:¬ s.toList=s'.toList:=fun e=>h3 (Tm.strEq_iff.1 (by simp [strEq,e]))
    simp [h1,h2,strEq,h4,h3]
  ·simp [h1,h2]
 ·simp [h1]

theorem isEqual (d:Nat) (a b:Is) (w:World):(Op.equalIn (d+1+1) 86 (isV a) (isV b)).run Tryz.prog w=.ok (isEqB a b) w:=by
 obtain ⟨o,k,n,s⟩:=a
 obtain ⟨o',k',n',s'⟩:=b
 unfold isV isEqB
 rw [run_equalIn_agg w (d+1) 86 _ _ (by rw [Program.fieldsOf,Tryz.underlying86]) Tryz.stoodInHeld86]
 rw [Program.fieldsOf,Tryz.underlying86]
 simp [Op.eqFields,part,run_equalIn_int _ _ _ _ _ _ _ Tryz.underlying3,run_equalIn_string _ _ _ _ _ Tryz.underlying9]
 by_cases h0:o=o'
 ·by_cases h1:k=k'
  ·by_cases h2:n=n'
   ·by_cases h3:s=s'
    ·simp [h0,h1,h2,h3,strEq]
    ·have h4:¬ s.toList=s'.toList:=fun e=>h3 (Tm.strEq_iff.1 (by simp [strEq,e]))
     simp [h0,h1,h2,strEq,h4,h3]
   ·simp [h0,h1,h2]
  ·simp [h0,h1]
 ·simp [h0]

theorem kyEql (x y:Operand) (a b:Ky) (w:World):((do eqGuard .eql 48 x y (kyV a) (kyV b); binOp .eql 48 (kyV a) (kyV b)):Sem Value).run Tryz.prog w=.ok (.bool (kyEqB a b)) w:=by
 have h:=kyEqual 9998 a b w
 unfold kyV at h ⊢
 simp only [Sem.run_bind]
 rw [run_eqGuard_agg _ _ _ _ _ _ _ Tryz.eqGuardType48]
 simp only [Result.andThen_ok]
 rw [run_eql_struct,h]
 rfl

theorem isEql (x y:Operand) (a b:Is) (w:World):((do eqGuard .eql 86 x y (isV a) (isV b); binOp .eql 86 (isV a) (isV b)):Sem Value).run Tryz.prog w=.ok (.bool (isEqB a b)) w:=by
 have h:=isEqual 9998 a b w
 unfold isV at h ⊢
 simp only [Sem.run_bind]
 rw [run_eqGuard_agg _ _ _ _ _ _ _ Tryz.eqGuardType86]
 simp only [Result.andThen_ok]
 rw [run_eql_struct,h]
 rfl
end Go.Proofs.YtcgkgofmldhokaaGreat

namespace Go.Proofs.YtcgkgofmldhokaaGreat
open Go PSL Go.Proofs
end Go.Proofs.YtcgkgofmldhokaaGreat

namespace Go.Proofs.YtcgkgofmldhokaaGreat
open Go PSL Go.Proofs
end Go.Proofs.YtcgkgofmldhokaaGreat

namespace Go.Proofs.YtcgkgofmldhokaaGreat
open Go PSL Go.Proofs
end Go.Proofs.YtcgkgofmldhokaaGreat

namespace Go.Proofs.YtcgkgofmldhokaaGreat
open Go PSL Go.Proofs
def sgR (l:List Sg):List (List D):=l.map fun p=>[.v (.string p.1),.v (.int .i64 p.2)]
end Go.Proofs.YtcgkgofmldhokaaGreat

namespace Go.Proofs.YtcgkgofmldhokaaGreat
open Go PSL Go.Proofs
end Go.Proofs.YtcgkgofmldhokaaGreat

namespace Go.Proofs.YtcgkgofmldhokaaGreat
open Go PSL Go.Proofs
end Go.Proofs.YtcgkgofmldhokaaGreat

namespace Go.Proofs.YtcgkgofmldhokaaGreat
open Go PSL Go.Proofs
end Go.Proofs.YtcgkgofmldhokaaGreat

namespace Go.Proofs.YtcgkgofmldhokaaGreat
open Go PSL Go.Proofs
end Go.Proofs.YtcgkgofmldhokaaGreat

namespace Go.Proofs.YtcgkgofmldhokaaGreat
open Go PSL Go.Proofs
end Go.Proofs.YtcgkgofmldhokaaGreat

namespace PSL
open Go Go.RowKit
section
variable {g:G} {pf:Nat→Cls} {ops:Array Oper}
end
section
variable {g:G} {pf:Nat→Cls} {ops:Array Oper} {Fin:Exit→Act→World→Prop}
end
end PSL
namespace PSL
open Go Go.RowKit

def DEnt (x y:D):Prop:=∀ (S:Nat→Prop) (w:World) (v:Value),Rd S w x v→Rd S w y v

def RowEnt:List D→List D→Prop
 | [],[]=>True
 | x::r,y::t=>DEnt x y∧RowEnt r t
 | _,_=>False
theorem DEnt.refl (x:D):DEnt x x:=fun _ _ _ h=>h
theorem DEnt.nil:DEnt (.v (.slice none 0 0)) (.sl []):=fun S w v h=>by cases h; exact .nil _ _

theorem RowEnt.len:∀ {r t:List D},RowEnt r t→r.length=t.length
 | [],[],_=>rfl
 | _::_,_::_,h=>by simp [RowEnt.len h.2]
 | [],_::_,h=>h.elim
 | _::_,[],h=>h.elim

theorem RowEnt.get:∀ {r t:List D} {j:Nat} {y:D},RowEnt r t→t[j]? = some y→∃ x,r[j]? = some x∧DEnt x y
 | [],[],j,y,_,hj=>by simp at hj
 | x::r,z::t,0,y,h,hj=>by
  simp only [List.getElem?_cons_zero,Option.some.injEq] at hj
  subst hj; exact ⟨x,rfl,h.1⟩
 | x::r,z::t,j+1,y,h,hj=>by
  simp only [List.getElem?_cons_succ] at hj ⊢
  exact RowEnt.get h.2 hj
 | [],_::_,_,_,h,_=>h.elim
 | _::_,[],_,_,h,_=>h.elim

theorem Ent.row1 {row row':List D} (h:RowEnt row row'):Ent (.fs [row]) (.d (.sl [row'])):=fun S w φ v hv=>by
 have hv:=Ent.fs [row] S w φ v hv
 simp only [RV] at hv ⊢
 cases hv with
 | @sl _ b o cap sz cs T fr g hS hb hl hc hsz hg hr =>
  refine .sl (sz:=sz) g hS hb hl hc (fun i r hi=>?_) (fun i r j x hi hj=>?_) (fun i r j x hi hj=>?_)
  ·cases i with
   | zero=>cases hi; rw [← h.len]; exact hsz 0 row rfl
   | succ i=>simp at hi
  ·cases i with
   | zero =>
    cases hi
    obtain ⟨x',h1,h2⟩:=h.get hj
    exact hg 0 row j x' rfl h1
   | succ i=>simp at hi
  ·cases i with
   | zero =>
    cases hi
    obtain ⟨x',h1,h2⟩:=h.get hj
    exact h2 _ _ _ (hr 0 row j x' rfl h1)
   | succ i=>simp at hi
end PSL

namespace Go.Proofs.YtcgkgofmldhokaaGreat
open Go PSL Go.Proofs
end Go.Proofs.YtcgkgofmldhokaaGreat

namespace Go.Proofs.YtcgkgofmldhokaaGreat
open Go PSL Go.Proofs
end Go.Proofs.YtcgkgofmldhokaaGreat

namespace Go.Proofs.YtcgkgofmldhokaaGreat
open Go PSL Go.Proofs
end Go.Proofs.YtcgkgofmldhokaaGreat

namespace Go.Proofs.YtcgkgofmldhokaaGreat
open Go PSL Go.Proofs
end Go.Proofs.YtcgkgofmldhokaaGreat

namespace PSL
open Go Go.RowKit

def plain2:Op→Bool
 | .call { callee:=.builtin .append,.. }=>true
 | .build .. => true
 | .buildSlice .. => true
 | o=>plainOp o

theorem plain2_sem {o:Oper} (h:plain2 o.op=true) (ro:Option Nat) (ρ:Operand→Value) (P:Program) (w:World):(∃ v w',(o.semAt ro ρ).run P w=.ok (.value v) w')∨(∃ x w',(o.semAt ro ρ).run P w=.halt x w'):=by
 have key:∀ s:Sem Value,(∃ v w',(do pure (Next.value (← s)):Sem Next).run P w=.ok (.value v) w')∨(∃ x w',(do pure (Next.value (← s)):Sem Next).run P w=.halt x w'):=fun s=>by
  rw [Sem.run_bind]
  cases s.run P w with
  | ok v w'=>exact .inl ⟨v,w',rfl⟩
  | halt x w'=>exact .inr ⟨x,w',rfl⟩
 have e:o.semAt ro ρ=execOp ρ o:=Oper.semAt_eq ro ρ o (fun c hc=>by rw [hc] at h; cases h)
 rw [e]
 unfold execOp
 cases ho:o.op <;> rw [ho] at h
 case call c =>
  obtain ⟨cal,args,ts⟩:=c
  cases cal
  case builtin b =>
   cases b <;> first
    | (cases h; done)
    | (simp only [resolve,Sem.run_bind,Sem.run_pure,Result.andThen_ok,invoke,builtin]
       first
       | (have:=key (Builtin.len_ ts o.type (args.map ρ)); simp only [Sem.run_bind] at this; exact this)
       | (have:=key (Builtin.append_ ts o.type (args.map ρ)); simp only [Sem.run_bind] at this; exact this)
       | exact key _)
  all_goals cases h
 case nilCheck x =>
  have hp:(∃ v w',(runtimePanic .nilDeref:Sem Next).run P w=.ok (.value v) w')∨(∃ x w',(runtimePanic .nilDeref:Sem Next).run P w=.halt x w'):=.inr ⟨_,_,rfl⟩
  have bind:∀ {α:Type} (s:Sem α) (k:α→Sem Next) (w:World),(∀ a w',(∃ v w2,(k a).run P w'=.ok (.value v) w2)∨(∃ x w2,(k a).run P w'=.halt x w2))→(∃ v w',(s >>= k).run P w=.ok (.value v) w')∨(∃ x w',(s >>= k).run P w=.halt x w'):=fun s k w h=>by
   rw [Sem.run_bind]
   cases s.run P w with
   | halt x w'=>exact .inr ⟨x,w',rfl⟩
   | ok a w'=>exact h a w'
  simp only
  split
  ·exact hp
  ·exact hp
  ·exact hp
  ·split
   ·exact hp
   ·refine bind _ _ _ fun a w'=>?_
    refine bind _ _ _ fun b w'=>?_
    split
    ·exact bind _ _ _ fun c w'=>.inl ⟨_,_,rfl⟩
    ·exact .inl ⟨_,_,rfl⟩
   ·exact .inl ⟨_,_,rfl⟩
  ·exact .inl ⟨_,_,rfl⟩
 all_goals first
  | (cases h; done)
  | exact key _
  | exact .inl ⟨_,_,rfl⟩
section
variable {g:G} {pf:Nat→Cls} {ops:Array Oper}

theorem any_of_drF {q:Nat} (hok:∀ (j:Nat) (o:Oper),ops[j]? = some o→(∀ e∈o.after.toList,Region.binds .any e=true→e.on<j)∧∀ (i:Nat) (x:Oper),i<j→ops[i]? = some x→conf pf ops x o=true→Reach ops i j∨j=q) {K:Env→List Ob→Prop} (hK:KC K) {Q:Exit→Act→World→Prop} (hQ:∀ E objs a w,K E objs→Sat g E objs a w→Q .normal a w) :
  ∀ (fuel:Nat) (listed:Array Bool) (R:List Nat) (E:Env) (objs:List Ob) (a:Act) (w:World),listed.size=ops.size→Cl ops listed→(∀ i,i∈R↔i<ops.size∧listed.getD i true=false)→R.Pairwise (· < ·)→R.length≤fuel→q ∉ R →
   Dr g pf ops (R.filterMap (ops[·]?)) E objs K→Sat g E objs a w→wpAnyIn g.F g.dep g.P .any ops Q fuel listed a w:=by
 intro fuel
 induction fuel with
 | zero =>
  intro listed R E objs a w hls hc hR _ hf hpq hd hs
  have:R=[]:=List.length_eq_zero_iff.1 (by omega)
  subst this
  refine ⟨?_,hQ E objs a w hd hs⟩
  apply List.eq_nil_iff_forall_not_mem.2
  intro i hi
  obtain ⟨h1,h2,_⟩:=mem_ready.1 hi
  exact absurd ((hR i).2 ⟨h1,h2⟩) (by simp)
 | succ fuel ih =>
  intro listed R E objs a w hls hc hR hp hf hpq hd hs
  refine ⟨fun hnil=>?_,fun i hi=>?_⟩
  ·cases R with
   | nil=>exact hQ E objs a w hd hs
   | cons k R' =>
    exfalso
    obtain ⟨hk1,hk2⟩:=(hR k).1 (by simp)
    have ho:ops[k]? = some ops[k]:=Array.getElem?_eq_getElem hk1
    have:k∈Region.ready .any ops listed:=by
     refine mem_ready.2 ⟨hk1,hk2,ops[k],ho,fun e he hb=>?_⟩
     have hlt:=(hok k _ ho).1 e he hb
     have hnot:e.on ∉ (k::R'):=fun hm=>by
      rcases List.mem_cons.1 hm with hm | hm
      ·omega
      ·have:=(List.pairwise_cons.1 hp).1 _ hm; omega
     have hsz:e.on<listed.size:=by omega
     have h2:¬ (listed.getD e.on true=false):=fun h2=>hnot ((hR e.on).2 ⟨by omega,h2⟩)
     simp only [Array.getD,hsz,dif_pos] at h2 ⊢
     simpa using h2
    rw [hnil] at this; cases this
  ·obtain ⟨hi1,hi2,o,ho,hdeps⟩:=mem_ready.1 hi
   obtain ⟨pre,post,rfl⟩:=List.append_of_mem ((hR i).2 ⟨hi1,hi2⟩)
   have hpre:∀ k∈pre,k<i:=fun k hk=>(List.pairwise_append.1 hp).2.2 k hk i (by simp)
   have hd':Dr g pf ops (pre.filterMap (ops[·]?)++o::post.filterMap (ops[·]?)) E objs K:=by
    have:(pre++i::post).filterMap (ops[·]?)=pre.filterMap (ops[·]?)++o::post.filterMap (ops[·]?):=by
     rw [List.filterMap_append,List.filterMap_cons,ho]
    rw [← this]; exact hd
   obtain ⟨v,objs',hloc,hrest⟩:=Dr.front hK (fun x hx=>by
    obtain ⟨k,hk,hkx⟩:=List.mem_filterMap.1 hx
    cases hcf:conf pf ops x o
    ·rfl
    ·exfalso
     have hreach:Reach ops k i:=by
      rcases (hok i o ho).2 k x (hpre k hk) hkx hcf with h | h2
      ·exact h
      ·exfalso
       exact hpq (by rw [← h2]; simp)
     have hl:=reach_listed hc hreach (fun o' ho' e he hb=>by rw [ho] at ho'; cases ho'; exact hdeps e he hb)
     obtain ⟨_,hk2⟩:=(hR k).1 (by simp [hk])
     have hsz:k<listed.size:=by have:=hpre k hk; omega
     simp only [Array.getD,hsz,dif_pos] at hl hk2
     rw [hl] at hk2; cases hk2) hd'
   have hstep:=hloc.step E objs objs' a w (fun t _=>.refl _) (.inr (.inr ⟨rfl,rfl⟩)) hs Q
   refine wpOpIn_mono (K:=fun a' w'=>Sat g (putO E o.dst v) objs' a' w') (fun a' w' hs'=>?_) (by unfold wpOpIn; rw [ho]; exact hstep)
   have hget:∀ (k:Nat) (d:Bool),(listed.setIfInBounds i true).getD k d=if k=i then true else listed.getD k d:=by
    intro k d
    simp only [Array.getD_eq_getD_getElem?,Array.getElem?_setIfInBounds]
    by_cases hki:k=i
    ·subst hki
     simp [hls,hi1]
    ·rw [if_neg (fun e=>hki e.symm),if_neg hki]
   refine ih _ (pre++post) _ objs' a' w' (by simp [hls]) ?_ ?_ ?_ ?_ ?_ ?_ hs'
   ·intro k o' hk hko e he hb
    rw [hget] at hk ⊢
    by_cases hki:k=i
    ·subst hki
     rw [ho] at hko; cases hko
     have:=hdeps e he hb
     split
     ·rfl
     ·exact this
    ·rw [if_neg hki] at hk
     have:=hc k o' hk hko e he hb
     split
     ·rfl
     ·exact this
   ·intro k
    rw [hget]
    have hk:=hR k
    have hnd:i ∉ pre++post:=by
     intro hm
     rcases List.mem_append.1 hm with hm | hm
     ·have:=hpre i hm; omega
     ·have:=(List.pairwise_cons.1 (List.pairwise_append.1 hp).2.1).1 i hm; omega
    by_cases hki:k=i
    ·subst hki
     simp only [if_true]
     exact ⟨fun h=>absurd h hnd,fun h=>by simp at h⟩
    ·simp only [hki,if_false]
     rw [← hk]
     simp [hki]
   ·obtain ⟨p1,p2,p3⟩:=List.pairwise_append.1 hp
    exact List.pairwise_append.2 ⟨p1,(List.pairwise_cons.1 p2).2,fun x hx y hy=>p3 x hx y (by simp [hy])⟩
   ·simp at hf ⊢; omega
   ·exact fun hm=>hpq (by simp only [List.mem_append,List.mem_cons] at hm ⊢; exact hm.imp id .inr)
   ·rw [List.filterMap_append]; exact hrest

theorem wpOpIn_all {F:Fence} {n:Nat} {P:Program} {Q:Exit→Act→World→Prop} {i:Nat} {o:Oper} {ι:Type} (x0:ι) (ho:ops[i]? = some o) (hp:plain2 o.op=true) {K:ι→Act→World→Prop} {a:Act} {w:World} (h:∀ x,wpOpIn F n P ops Q i (K x) a w):wpOpIn F n P ops Q i (fun a' w'=>∀ x,K x a' w') a w:=by
 have h0:=h x0
 unfold wpOpIn at *
 rw [ho] at h0 ⊢
 have h:∀ x,_:=fun x=>by have:=h x; rw [ho] at this; exact this
 simp only at h h0 ⊢
 split
 ·rename_i hw
  rw [if_pos hw] at h0
  have h:∀ x,_:=fun x=>by have:=h x; rw [if_pos hw] at this; exact this
  unfold Oper.wpIn at *
  refine ⟨h0.1,?_⟩
  have h0:=h0.2
  have h:∀ x,_:=fun x=>(h x).2
  rcases plain2_sem hp F.round a.eval P w with ⟨v,w',e⟩ | ⟨x,w',e⟩
  ·rw [e] at h0 ⊢
   intro x
   have:=h x
   rw [e] at this; exact this
  ·rw [e] at h0 ⊢
   cases x <;> exact h0
 ·rename_i hw
  rw [if_neg hw] at h0
  refine ⟨h0.1,fun x=>?_⟩
  have:=h x
  rw [if_neg hw] at this; exact this.2
end
end PSL
namespace PSL
open Go Go.RowKit
section
variable {g:G} {pf:Nat→Cls} {ops:Array Oper}

def FltB (pf:Nat→Cls) (ops:Array Oper) (oq:Oper) (B:List Nat):Prop:=B=[]∨∃ b B' y,B=b::B'∧ops[b]? = some y∧conf pf ops y oq=true

def ncB (pf:Nat→Cls) (ops:Array Oper) (oq:Oper) (k:Nat):Bool:=match ops[k]? with
 | some y=>!conf pf ops y oq
 | none=>true

theorem mem_tw {α:Type} {p:α→Bool}:∀ {l:List α} {x:α},x∈l.takeWhile p→p x=true
 | y::l,x,h=>by
  rw [List.takeWhile_cons] at h
  split at h
  ·rcases List.mem_cons.1 h with rfl | h
   ·assumption
   ·exact mem_tw h
  ·cases h

theorem any_of_flt {q:Nat} {oq:Oper} (hoq:ops[q]? = some oq) (hok:∀ (j:Nat) (o:Oper),ops[j]? = some o→(∀ e∈o.after.toList,Region.binds .any e=true→e.on<j)∧(∀ (i:Nat) (x:Oper),i<j→ops[i]? = some x→conf pf ops x o=true→Reach ops i j∨j=q)∧(q<j→Reach ops q j))
  (hps:∀ (i j:Nat) (x y:Oper),i<j→j<q→ops[i]? = some x→ops[j]? = some y→conf pf ops x oq=true→conf pf ops oq y=true→Reach ops i j)
  {K:Env→List Ob→Prop} (hK:KC K) {Q:Exit→Act→World→Prop} (hQ:∀ E objs a w,K E objs→Sat g E objs a w→Q .normal a w) (post:List Nat) :
  ∀ (fuel:Nat) (listed:Array Bool) (R:List Nat) (a:Act) (w:World),(∀ i∈R,∀ o,ops[i]? = some o→plain2 o.op=true)→listed.size=ops.size→Cl ops listed→(∀ i,i∈R++q::post↔i<ops.size∧listed.getD i true=false)→(R++q::post).Pairwise (· < ·)→(R++q::post).length≤fuel →
   (∀ A B:List Nat,R=A++B→FltB pf ops oq B→∃ E objs,Dr g pf ops (A.filterMap (ops[·]?)++oq::(B++post).filterMap (ops[·]?)) E objs K∧Sat g E objs a w)→wpAnyIn g.F g.dep g.P .any ops Q fuel listed a w:=by
 intro fuel
 induction fuel with
 | zero=>intro listed R a w _ _ _ _ _ hf _; simp at hf
 | succ fuel ih =>
  intro listed R a w hpl hls hc hR hp hf hd
  obtain ⟨pp1,pp2,pp3⟩:=List.pairwise_append.1 hp
  have hRq:∀ k∈R,k<q:=fun k hk=>pp3 k hk q (by simp)
  have hpost:∀ k∈post,q<k:=fun k hk=>(List.pairwise_cons.1 pp2).1 k hk
  have unl:∀ k,k∈R++q::post→listed.getD k false=false:=fun k hk=>by
   obtain ⟨h1,h2⟩:=(hR k).1 hk
   have hsz:k<listed.size:=by omega
   simp only [Array.getD,hsz,dif_pos] at h2 ⊢
   exact h2
  refine ⟨fun hnil=>?_,fun i hi=>?_⟩
  ·exfalso
   obtain ⟨k,R',hkR⟩:∃ k R',R++q::post=k::R':=by
    cases R with
    | nil=>exact ⟨q,_,rfl⟩
    | cons k r=>exact ⟨k,_,rfl⟩
   rw [hkR] at hR hp
   obtain ⟨hk1,hk2⟩:=(hR k).1 (by simp)
   have ho:ops[k]? = some ops[k]:=Array.getElem?_eq_getElem hk1
   have:k∈Region.ready .any ops listed:=by
    refine mem_ready.2 ⟨hk1,hk2,ops[k],ho,fun e he hb=>?_⟩
    have hlt:=(hok k _ ho).1 e he hb
    have hnot:e.on ∉ (k::R'):=fun hm=>by
     rcases List.mem_cons.1 hm with hm | hm
     ·omega
     ·have:=(List.pairwise_cons.1 hp).1 _ hm; omega
    have hsz:e.on<listed.size:=by omega
    have h2:¬ (listed.getD e.on true=false):=fun h2=>hnot ((hR e.on).2 ⟨by omega,h2⟩)
    simp only [Array.getD,hsz,dif_pos] at h2 ⊢
    simpa using h2
   rw [hnil] at this; cases this
  ·obtain ⟨hi1,hi2,o,ho,hdeps⟩:=mem_ready.1 hi
   have hreachF:∀ k,k∈R++q::post→Reach ops k i→False:=fun k hk hr=>by
    have hl:=reach_listed hc hr (fun o' ho' e he hb=>by rw [ho] at ho'; cases ho'; exact hdeps e he hb)
    rw [unl k hk] at hl; cases hl
   have hmem:=(hR i).2 ⟨hi1,hi2⟩
   rcases List.mem_append.1 hmem with hmem | hmem
   ·obtain ⟨RA,RB,rfl⟩:=List.append_of_mem hmem
    have hiq:i<q:=hRq i hmem
    have hRA:∀ k∈RA,k<i:=fun k hk=>(List.pairwise_append.1 pp1).2.2 k hk i (by simp)
    have hcf:∀ k x,k∈RA→ops[k]? = some x→conf pf ops x o=false:=fun k x hk hkx=>by
     cases hc1:conf pf ops x o
     ·rfl
     ·exfalso
      rcases (hok i o ho).2.1 k x (hRA k hk) hkx hc1 with h | h
      ·exact hreachF k (by simp [hk]) h
      ·omega
    have hfm:∀ {A:List Nat},(∀ k∈A,k∈RA)→∀ x∈A.filterMap (ops[·]?),conf pf ops x o=false:=fun hA x hx=>by
     obtain ⟨k,hk,hkx⟩:=List.mem_filterMap.1 hx
     exact hcf k x (hA k hk) hkx
    have H:∀ x:{p:List Nat × List Nat // RA++RB=p.1++p.2∧FltB pf ops oq p.2},∃ E1 o1,Dr g pf ops (x.1.1.filterMap (ops[·]?)++oq::(x.1.2++post).filterMap (ops[·]?)) E1 o1 K∧wpOpIn g.F g.dep g.P ops Q i (fun a' w'=>Sat g E1 o1 a' w') a w:=by
     rintro ⟨⟨A,B⟩,hab,hB⟩
     have one:∀ (a':List Nat),A=RA++a'→RB=a'++B→∃ E1 o1,Dr g pf ops (A.filterMap (ops[·]?)++oq::(B++post).filterMap (ops[·]?)) E1 o1 K∧wpOpIn g.F g.dep g.P ops Q i (fun a' w'=>Sat g E1 o1 a' w') a w:=fun a' h1 h2=>by
      obtain ⟨E,objs,hdr,hs⟩:=hd (RA++i::a') B (by rw [h2]; simp) hB
      rw [List.filterMap_append,List.filterMap_cons,ho,List.append_assoc] at hdr
      obtain ⟨v,objs',hloc,hrest⟩:=Dr.front hK (hfm fun k hk=>hk) hdr
      refine ⟨_,objs',by rw [h1,List.filterMap_append,List.append_assoc]; exact hrest,?_⟩
      unfold wpOpIn; rw [ho]
      exact hloc.step E objs objs' a w (fun t _=>.refl _) (.inr (.inr ⟨rfl,rfl⟩)) hs Q
     rcases List.append_eq_append_iff.1 hab with ⟨a',h1,h2⟩ | ⟨c',h1,h2⟩
     ·exact one a' h1 h2
     ·cases c' with
      | nil=>exact one [] (by simpa using h1.symm) (by simpa using h2.symm)
      | cons b c' =>
       simp only at h2 hB
       have hB2:FltB pf ops oq ((b::c')++i::RB):=by
        rcases hB with h | ⟨b2,B',y,h3,h4,h5⟩
        ·rw [h2] at h; cases h
        ·rw [h2] at h3; cases h3
         exact .inr ⟨b,_,y,rfl,h4,h5⟩
       obtain ⟨E,objs,hdr,hs⟩:=hd A ((b::c')++i::RB) (by rw [h1]; simp) hB2
       have e:A.filterMap (ops[·]?)++oq::((b::c')++i::RB++post).filterMap (ops[·]?)=(A.filterMap (ops[·]?)++oq::(b::c').filterMap (ops[·]?))++o::(RB++post).filterMap (ops[·]?):=by
        rw [List.append_assoc,List.filterMap_append,List.cons_append,List.filterMap_cons (a:=i),ho]; simp
       rw [e] at hdr
       obtain ⟨v,objs',hloc,hrest⟩:=Dr.front hK (fun x hx=>by
        rcases List.mem_append.1 hx with hx | hx
        ·exact hfm (fun k hk=>by rw [h1]; simp [hk]) x hx
        ·rcases List.mem_cons.1 hx with rfl | hx
         ·cases hc1:conf pf ops x o
          ·rfl
          ·exfalso
           rcases hB2 with h | ⟨b2,B',y,h3,h4,h5⟩
           ·cases h
           ·cases h3
            exact hreachF b (by rw [h1]; simp) (hps b i y o (hRA b (by rw [h1]; simp)) hiq h4 ho h5 hc1)
         ·exact hfm (fun k hk=>by rw [h1]; exact List.mem_append.2 (.inr hk)) x hx) hdr
       refine ⟨_,objs',by
        show Dr g pf ops (A.filterMap (ops[·]?)++oq::(B++post).filterMap (ops[·]?)) _ _ K
        rw [h2,List.append_assoc,List.filterMap_append]
        rw [List.append_assoc,List.cons_append] at hrest; exact hrest,?_⟩
       unfold wpOpIn; rw [ho]
       exact hloc.step E objs objs' a w (fun t _=>.refl _) (.inr (.inr ⟨rfl,rfl⟩)) hs Q
    have hall:=wpOpIn_all (F:=g.F) (n:=g.dep) (P:=g.P) (Q:=Q) (⟨(RA++RB,[]),by simp,.inl rfl⟩:{p:List Nat × List Nat // RA++RB=p.1++p.2∧FltB pf ops oq p.2}) ho (hpl i (by simp) o ho) (K:=fun x a' w'=>Sat g (H x).choose (H x).choose_spec.choose a' w') (fun x=>(H x).choose_spec.choose_spec.2)
    refine wpOpIn_mono (fun a' w' hs'=>?_) hall
    have hds:=draw_step (pre:=RA) (post:=RB++q::post) hls hc (by intro k; rw [← hR k]; simp) (by simpa using hp) hi1 ho hdeps
    refine ih _ (RA++RB) a' w' (fun j hj o' ho'=>hpl j (by simp only [List.mem_append,List.mem_cons] at hj ⊢; exact hj.imp id .inr) o' ho') hds.1 hds.2.1 (by intro k; rw [← hds.2.2.1 k]; simp) (by simpa using hds.2.2.2) (by simp at hf ⊢; omega) fun A B hab hB=>?_
    exact ⟨_,_,(H ⟨(A,B),hab,hB⟩).choose_spec.choose_spec.1,hs' ⟨(A,B),hab,hB⟩⟩
   ·rcases List.mem_cons.1 hmem with hiq | hmem
    ·subst hiq
     rw [hoq] at ho; cases ho
     have hAB:R=R.takeWhile (ncB pf ops oq)++R.dropWhile (ncB pf ops oq):=List.takeWhile_append_dropWhile.symm
     have hB:FltB pf ops oq (R.dropWhile (ncB pf ops oq)):=by
      cases hdw:R.dropWhile (ncB pf ops oq) with
      | nil=>exact .inl rfl
      | cons b B' =>
       right
       have hb:ncB pf ops oq b=false:=by
        have:=List.head_dropWhile_not (ncB pf ops oq) (show R.dropWhile (ncB pf ops oq)≠[] by rw [hdw]; simp)
        simpa [hdw] using this
       unfold ncB at hb
       cases hob:ops[b]? with
       | none=>rw [hob] at hb; cases hb
       | some y=>rw [hob] at hb; exact ⟨b,B',y,rfl,hob,by simpa using hb⟩
     obtain ⟨E,objs,hdr,hs⟩:=hd _ _ hAB hB
     obtain ⟨v,objs',hloc,hrest⟩:=Dr.front hK (fun x hx=>by
      obtain ⟨k,hk,hkx⟩:=List.mem_filterMap.1 hx
      have:=mem_tw hk
      unfold ncB at this
      rw [hkx] at this; simpa using this) hdr
     have hstep:=hloc.step E objs objs' a w (fun t _=>.refl _) (.inr (.inr ⟨rfl,rfl⟩)) hs Q
     refine wpOpIn_mono (K:=fun a' w'=>Sat g (putO E oq.dst v) objs' a' w') (fun a' w' hs'=>?_) (by unfold wpOpIn; rw [hoq]; exact hstep)
     have hds:=draw_step (pre:=R) (post:=post) hls hc hR hp hi1 hoq hdeps
     have e:(R++post).filterMap (ops[·]?)=(R.takeWhile (ncB pf ops oq)).filterMap (ops[·]?)++(R.dropWhile (ncB pf ops oq)++post).filterMap (ops[·]?):=by rw [← List.filterMap_append,← List.append_assoc,← hAB]
     refine any_of_drF (fun j o ho=>⟨(hok j o ho).1,(hok j o ho).2.1⟩) hK hQ fuel _ (R++post) _ objs' a' w' hds.1 hds.2.1 hds.2.2.1 hds.2.2.2 (by simp at hf ⊢; omega) (fun h=>?_) (by rw [e]; exact hrest) hs'
     rcases List.mem_append.1 h with h | h
     ·have:=hRq _ h; omega
     ·have:=hpost _ h; omega
    ·exact (hreachF q (by simp) ((hok i o ho).2.2 (hpost i hmem))).elim
end
end PSL
namespace PSL
open Go Go.RowKit
section
variable {g:G} {pf:Nat→Cls} {ops:Array Oper}

def ordGoF (q:Nat) (oq:Oper) (pf:Nat→Cls) (ops:Array Oper):List Oper→List Nat→List Oper→Bool
 | _,_,[]=>true
 | prev,acc,o::r =>
  (o.after.toList.all fun e=>!Region.binds .any e || Nat.blt e.on (len prev)) &&
  (prev.zipIdx.all fun x=>!conf pf ops x.1 o || (maskOf acc o).testBit x.2 || Nat.beq (len prev) q) &&
  (Nat.ble (len prev) q || (maskOf acc o).testBit q) &&
  (prev.zipIdx.all fun x=>!conf pf ops x.1 oq || !conf pf ops oq o || (maskOf acc o).testBit x.2 || Nat.ble q (len prev)) &&
  ordGoF q oq pf ops (prev++[o]) (acc++[maskOf acc o]) r

theorem ordGoF_spec {q:Nat} {oq:Oper}:∀ (rest prev:List Oper) (acc:List Nat),ops.toList=prev++rest→acc.length=prev.length→(∀ j i m,acc[j]? = some m→m.testBit i=true→Reach ops i j)→ordGoF q oq pf ops prev acc rest=true →
  ∀ (j:Nat) (o:Oper),prev.length≤j→ops[j]? = some o→(∀ e∈o.after.toList,Region.binds .any e=true→e.on<j)∧(∀ (i:Nat) (x:Oper),i<j→ops[i]? = some x→conf pf ops x o=true→Reach ops i j∨j=q)∧(q<j→Reach ops q j)∧(∀ (i:Nat) (x:Oper),i<j→j<q→ops[i]? = some x→conf pf ops x oq=true→conf pf ops oq o=true→Reach ops i j)
 | [],prev,acc,h,_,_,_,j,o,hj,ho=>by
  have:j<ops.size:=(Array.getElem?_eq_some_iff.1 ho).1
  have:ops.size=prev.length:=by rw [← Array.length_toList,h]; simp
  omega
 | o'::r,prev,acc,h,hl,hr,hg,j,o,hj,ho=>by
  simp only [ordGoF,Bool.and_eq_true] at hg
  obtain ⟨⟨⟨⟨h1,h2⟩,h4⟩,h5⟩,h3⟩:=hg
  have hcur:ops[prev.length]? = some o':=by rw [← Array.getElem?_toList,h]; simp
  have hm:∀ i,(maskOf acc o').testBit i=true→Reach ops i prev.length:=fun i hi=>by
   obtain ⟨e,e1,e2,e3⟩:=maskOf_bit hi
   rcases e3 with e3 | ⟨m,e3,e4⟩
   ·exact .one hcur e1 e2 e3
   ·exact .step hcur e1 e2 rfl (hr _ _ _ e3 e4)
  rcases Nat.eq_or_lt_of_le hj with hj | hj
  ·subst hj
   rw [hcur] at ho; cases ho
   have hmem:∀ (i:Nat) (x:Oper),i<prev.length→ops[i]? = some x→(x,i)∈prev.zipIdx:=fun i x hi hx=>by
    rw [List.mem_zipIdx_iff_getElem?]
    rw [← Array.getElem?_toList,h,List.getElem?_append_left hi] at hx
    exact hx
   refine ⟨fun e he hbd=>?_,fun i x hi hx hc=>?_,fun hq=>?_,fun i x hi hq hx hc1 hc2=>?_⟩
   ·have:=List.all_eq_true.1 h1 e he
    rw [len_eq] at this
    simpa [Nat.blt_eq,hbd] using this
   ·have:=List.all_eq_true.1 h2 _ (hmem i x hi hx)
    simp only [hc,Bool.not_true,Bool.false_or,Bool.or_eq_true] at this
    rcases this with this | g2
    ·exact .inl (hm i this)
    ·rw [len_eq] at g2; exact .inr (natBeq g2)
   ·simp only [Bool.or_eq_true,len_eq,Nat.ble_eq] at h4
    rcases h4 with h4 | h4
    ·omega
    ·exact hm _ h4
   ·have:=List.all_eq_true.1 h5 _ (hmem i x hi hx)
    simp only [hc1,hc2,Bool.not_true,Bool.false_or,Bool.or_eq_true,len_eq,Nat.ble_eq] at this
    rcases this with this | this
    ·exact hm i this
    ·omega
  ·refine ordGoF_spec r (prev++[o']) (acc++[maskOf acc o']) (by rw [h]; simp) (by simp [hl]) (fun j i m hj hi=>?_) h3 j o (by simp; omega) ho
   rcases Nat.lt_or_ge j acc.length with hlt | hge
   ·rw [List.getElem?_append_left hlt] at hj; exact hr j i m hj hi
   ·rw [List.getElem?_append_right hge] at hj
    have:j - acc.length=0:=by
     rcases Nat.eq_zero_or_pos (j - acc.length) with h | h
     ·exact h
     ·rw [List.getElem?_eq_none (by simp; omega)] at hj; cases hj
    rw [this] at hj; simp at hj; subst hj
    have:j=prev.length:=by omega
    subst this
    exact hm i hi
end
end PSL
namespace PSL
open Go Go.RowKit
section
variable {g:G} {pf:Nat→Cls} {ops:Array Oper}

def fltL (m q:Nat) (oq:Oper) (l:List Oper):List Oper:=l.take m++oq::((l.drop m).take (q - m)++l.drop (q+1))

theorem wp_flt (hg:GOk g) {q:Nat} {oq:Oper} (hoq:ops[q]? = some oq) (hok:ordGoF q oq pf ops [] [] ops.toList=true) {K:Env→List Ob→Prop} (hK:KC K) {Q:Exit→Act→World→Prop} (hQ:∀ E objs a w,K E objs→Sat g E objs a w→Q .normal a w)
  {E:Env} {objs:List Ob} (hpl:((ops.toList.take q).all fun o=>plain2 o.op)=true) (hd:∀ m,m≤q→(m=q∨∃ y,ops[m]? = some y∧conf pf ops y oq=true)→Dr g pf ops (fltL m q oq ops.toList) E objs K) {a:Act} {w:World} (hs:Sat g E objs a w) (id:Nat):(Code.region id ops true).wpIn g.F g.dep g.P Q a w:=by
 refine wpIn_region_any hg.mixed ?_
 have hq:q<ops.size:=(Array.getElem?_eq_some_iff.1 hoq).1
 have hsz:ops.toList.length=ops.size:=by simp
 have hspec:=ordGoF_spec (pf:=pf) (ops:=ops) ops.toList [] [] rfl rfl (by simp) hok
 have f:∀ a n,a+n≤ops.size→(List.range' a n).filterMap (ops[·]?)=(ops.toList.drop a).take n:=fun a n h=>by
  have:=fm_range ops.toList a n (by omega)
  simpa using this
 have hrange:List.range ops.size=List.range' 0 q++q::List.range' (q+1) (ops.size - (q+1)):=by
  obtain ⟨m,hm⟩:∃ m,ops.size=q+(1+m):=⟨ops.size - (q+1),by omega⟩
  have e1:ops.size - (q+1)=m:=by omega
  rw [e1,List.range_eq_range',hm,← List.range'_append,← List.range'_append]
  simp [List.range'_succ]
 refine any_of_flt hoq (fun j o ho=>⟨(hspec j o (Nat.zero_le _) ho).1,(hspec j o (Nat.zero_le _) ho).2.1,(hspec j o (Nat.zero_le _) ho).2.2.1⟩) (fun i j x y hij hjq hx hy h1 h2=>(hspec j y (Nat.zero_le _) hy).2.2.2 i x hij hjq hx h1 h2) hK hQ (List.range' (q+1) (ops.size - (q+1))) ops.size (Array.replicate ops.size false) (List.range' 0 q) a _ ?_ (by simp) ?_ ?_ ?_ ?_ ?_
 ·intro j hj o ho
  have hj:j<q:=by have:=List.mem_range'.1 hj; omega
  exact List.all_eq_true.1 hpl o (List.mem_iff_getElem?.2 ⟨j,by rw [List.getElem?_take_of_lt hj,Array.getElem?_toList]; exact ho⟩)
 ·intro k o hk
  simp [Array.getD] at hk
 ·intro i
  rw [← hrange]
  simp only [List.mem_range,Array.getD,Array.size_replicate]
  constructor
  ·intro h; simp [h]
  ·intro h; exact h.1
 ·rw [← hrange]; exact List.pairwise_lt_range
 ·rw [← hrange]; simp
 ·intro A B hab hB
  obtain ⟨m,hm,rfl,rfl⟩:=List.range'_eq_append_iff.1 hab
  rw [Nat.mul_one] at hB ⊢
  refine ⟨E,objs,?_,hs.drew⟩
  have:=hd m hm (by
   rcases hB with h | ⟨b,B',y,h1,h2,h3⟩
   ·left
    have:=congrArg List.length h
    simp at this; omega
   ·right
    have hb:b=0+m:=by
     have:(List.range' (0+m) (q - m)).head? = some b:=by rw [h1]; rfl
     cases hqm:q - m with
     | zero=>rw [hqm] at this; simp at this
     | succ n=>rw [hqm,List.range'_succ] at this; simp at this; omega
    exact ⟨y,by rw [← h2,hb]; simp,h3⟩)
  unfold fltL at this
  rw [List.filterMap_append,f 0 m (by omega),f (0+m) (q - m) (by omega),f (q+1) _ (by omega),List.drop_zero]
  rw [List.take_of_length_le (i:=ops.size - (q+1)) (by simp)]
  simpa using this
end
end PSL
namespace PSL
open Go Go.RowKit
section
variable {g:G} {pf:Nat→Cls} {ops:Array Oper}

theorem R_float {Fin:Exit→Act→World→Prop} (hg:GOk g) (q:Nat) (oq:Oper) {id:Nat} {k:List It} {E:Env} {objs:List Ob} (hoq:ops[q]? = some oq) (hx:ordGoF q oq pf ops [] [] ops.toList=true) (hpl:((ops.toList.take q).all fun o=>plain2 o.op)=true) (h:∀ m,m≤q→(m=q∨∃ y,ops[m]? = some y∧conf pf ops y oq=true)→R g pf Fin (.dr ops (fltL m q oq ops.toList)::k) E objs):R g pf Fin (.code (.region id ops true)::k) E objs:=by
 rintro ⟨ho1,ho⟩
 intro a w hs
 simp only [KP]
 have hQ:∀ E objs a w,RK g Fin k E objs→Sat g E objs a w→KP g Fin k .normal a w:=fun _ _ a w hr hs=>hr a w hs
 exact wp_flt hg hoq hx (RK_kc k) hQ hpl (fun m h1 h2=>by have:=h m h1 h2 ho; simpa only using this) hs id
end
end PSL

namespace Go.Proofs.YtcgkgofmldhokaaGreat
open Go PSL Go.Proofs
def pfSom:Nat→Cls:=fun f=>bif Nat.beq f 28 then .look 0 else bif Nat.beq f 4900100001 then .turn 100 else bif Nat.beq f 4000000007 then .loadB else .still
def som14 (l:List Cs) (q:Cs):Bool:=somP (l++[q])&&decide ((l.length:Int)≤60)

theorem cs_six (l:List Cs):∀ r∈Cs.rows l,r.length=6:=fun r hr=>by
 unfold Cs.rows at hr
 obtain ⟨c,_,rfl⟩:=List.mem_map.1 hr; rfl

set_option maxRecDepth 100000 in
theorem refSome14_ok (l:List Cs) (q:Cs) (hok:∀ c∈l,c.Ok) (hq:q.Ok) (hb:l.length * 88≤140737488351232):PCtr Tryz.prog 8 [prV l,q.av] (bV (som14 l q)):=by
 have hcl:=Cs.rows_len l
 have hall:∀ c∈l++[q],c.Ok:=fun c hc=>by
  rcases List.mem_append.1 hc with hc | hc
  ·exact hok c hc
  ·rw [List.mem_singleton.1 hc]; exact hq
 refine PCtr.of_R (pf:=pfSom) tyOk mixed Tryz.func8 rfl (by kernel_rfl) (by kernel_rfl) (by simp [Tryz.ntmps8]) fun w S hg=>?_
 refine R_run hg.ok 1000 rfl rfl ?_
 refine R_float hg.ok 8 _ rfl (by kernel_rfl) (by kernel_rfl) ?_
 intro m hm hB
 have h3:m=3∨m=6∨m=8:=by
  rcases hB with h | ⟨y,h1,h2⟩
  ·exact .inr (.inr h)
  ·have:m=0∨m=1∨m=2∨m=3∨m=4∨m=5∨m=6∨m=7∨m=8:=by omega
   rcases this with rfl | rfl | rfl | rfl | rfl | rfl | rfl | rfl | rfl <;> first | (left; rfl) | (right; left; rfl) | (right; right; rfl) | (cases h1; exact absurd (h2.symm.trans (show _=false by kernel_rfl)) (by decide))
 clear hB hm
 rcases h3 with rfl | rfl | rfl
 ·refine R_run hg.ok 1000 rfl rfl ?_
  refine R_appendF hg.ok rfl rfl (.inl rfl) rfl (.inl rfl) rfl rfl rfl (by simp) (cs_six l) (by rw [hcl]; simp; omega) (by rw [hcl]; simp; omega) ?_
  refine R_run hg.ok 1000 rfl rfl ?_
  refine R_appendO hg.ok (Cs.rows (l++[q])) rfl rfl rfl rfl rfl rfl rfl rfl rfl (by simp) (by simp [one1]) (Cs.rows_snoc l q) (by simp [hcl]; omega) (by simp [hcl]; omega) ?_
  refine R_run hg.ok 1000 rfl rfl ?_
  refine R_callO hg.ok hg.gup (refSomeP_ok (l++[q]) hall (by simp; omega)) rfl rfl rfl rfl (mapO_cons (sealA_agg (mapO_cons (sealA_ow rfl) rfl)) rfl) rfl rfl ?_
  refine R_run hg.ok 1000 rfl rfl ?_
  unfold som14
  refine R_if rfl rfl (fun h=>?_) (fun h=>?_) <;> refine R_run hg.ok 1000 rfl rfl ?_
  ·refine R_ret hg 5 rfl rfl ?_
   rw [h,hcl]; rfl
  ·refine R_ret hg 5 rfl rfl ?_
   rw [h]; rfl
 ·refine R_run hg.ok 1000 rfl rfl ?_
  refine R_appendF hg.ok rfl rfl (.inl rfl) rfl (.inl rfl) rfl rfl rfl (by simp) (cs_six l) (by rw [hcl]; simp; omega) (by rw [hcl]; simp; omega) ?_
  refine R_run hg.ok 1000 rfl rfl ?_
  refine R_appendO hg.ok (Cs.rows (l++[q])) rfl rfl rfl rfl rfl rfl rfl rfl rfl (by simp) (by simp [one1]) (Cs.rows_snoc l q) (by simp [hcl]; omega) (by simp [hcl]; omega) ?_
  refine R_run hg.ok 1000 rfl rfl ?_
  refine R_callO hg.ok hg.gup (refSomeP_ok (l++[q]) hall (by simp; omega)) rfl rfl rfl rfl (mapO_cons (sealA_agg (mapO_cons (sealA_ow rfl) rfl)) rfl) rfl rfl ?_
  refine R_run hg.ok 1000 rfl rfl ?_
  unfold som14
  refine R_if rfl rfl (fun h=>?_) (fun h=>?_) <;> refine R_run hg.ok 1000 rfl rfl ?_
  ·refine R_ret hg 5 rfl rfl ?_
   rw [h,hcl]; rfl
  ·refine R_ret hg 5 rfl rfl ?_
   rw [h]; rfl
 ·refine R_run hg.ok 1000 rfl rfl ?_
  refine R_appendF hg.ok rfl rfl (.inl rfl) rfl (.inl rfl) rfl rfl rfl (by simp) (cs_six l) (by rw [hcl]; simp; omega) (by rw [hcl]; simp; omega) ?_
  refine R_run hg.ok 1000 rfl rfl ?_
  refine R_appendO hg.ok (Cs.rows (l++[q])) rfl rfl rfl rfl rfl rfl rfl rfl rfl (by simp) (by simp [one1]) (Cs.rows_snoc l q) (by simp [hcl]; omega) (by simp [hcl]; omega) ?_
  refine R_run hg.ok 1000 rfl rfl ?_
  refine R_callO hg.ok hg.gup (refSomeP_ok (l++[q]) hall (by simp; omega)) rfl rfl rfl rfl (mapO_cons (sealA_agg (mapO_cons (sealA_ow rfl) rfl)) rfl) rfl rfl ?_
  refine R_run hg.ok 1000 rfl rfl ?_
  unfold som14
  refine R_if rfl rfl (fun h=>?_) (fun h=>?_) <;> refine R_run hg.ok 1000 rfl rfl ?_
  ·refine R_ret hg 5 rfl rfl ?_
   rw [h,hcl]; rfl
  ·refine R_ret hg 5 rfl rfl ?_
   rw [h]; rfl
end Go.Proofs.YtcgkgofmldhokaaGreat

namespace Go.Proofs.YtcgkgofmldhokaaGreat
open Go PSL Go.Proofs

theorem som14_all {l:List Cs} {q:Cs} (h:som14 l q=true):Med (l++[q])∧l.length≤60:=by
 unfold som14 at h
 simp only [Bool.and_eq_true,decide_eq_true_eq] at h
 obtain ⟨h1,h2⟩:=h
 obtain ⟨a,b,c⟩:=somP_sm h1
 exact ⟨⟨a,b,c⟩,by omega⟩

theorem cmpOk_of {l:List Cs} {q:Cs} (hm:Med (l++[q])) (hl:l.length≤210) (hf:fairQ q l=true):CmpOk l q:=by
 have hq:=fairQ_ok hf
 obtain ⟨h1,h2,h3⟩:=(checkR_ok l).1 hq.prog
 have hs:=hm.size
 have hs1:=Cs.sizeL_sub (List.sublist_append_left l [q])
 have hs2:=Cs.size_mem (l:=l++[q]) (c:=q) (by simp)
 exact ⟨hl,by omega,by omega,fun c hc=>cls_five (h2 c hc),fun c hc=>cls_vars (h2 c hc),chkL_five _ _ _ _ _ hq.body,hq.vars0,hq.vars1⟩

theorem compileL_ok (l:List Cs) (q:Cs) (hm:Med (l++[q])) (hl:l.length≤210):PCtr Tryz.prog 10 [prV l,q.av] (if fairQ q l then .tup [(compG l q).av,iV 0] else .tup [cdZ.av,iV 1]):=by
 have hf:=modelFair_ok q l (hm.sm q (by simp)) (fun c hc=>hm.sm c (by simp [hc])) (by omega)
 cases h:fairQ q l with
 | true=>rw [h] at hf; exact compile_ok l q (cmpOk_of hm hl h) hf
 | false=>rw [h] at hf; exact compile_bad l q hf
def k15a:Bs:=[112,40,88,41,32,58,45,32,113,40,88,44,32,97,41,46,32,113,40,98,44,32,89,41,46]
def k15b:Bs:=[112,40,90,41,46]
def k15aC:List Clau:=[(fnT [58,45] [fnT [112] [Tm.vT 0],fnT [113] [Tm.vT 0,fnT [97] []]],[[88]]),(fnT [113] [fnT [98] [],Tm.vT 0],[[89]])]
def k15bC:Clau:=(fnT [112] [Tm.vT 0],[[90]])
def k15P:List Cs:=[⟨fnT [112] [Tm.vT 0],[.mk 1 (fnT [113] [Tm.vT 0,fnT [97] []]) [] [] []],1⟩,⟨fnT [113] [fnT [98] [],Tm.vT 0],[],1⟩]
theorem k15a_read:clauR rightT false k15a=some (k15aC,0,0):=by rw [rightT_fun]; kernel_rfl
theorem k15b_read:clauR rightT false k15b=some ([k15bC],0,0):=by rw [rightT_fun]; kernel_rfl
theorem k15a_load:loadL k15aC 0 []=(k15P,0,0):=by kernel_rfl

theorem k15a_ctr:PCtr Tryz.prog 29 [txA k15a] (.tup [prV k15P,iV 0,iV 0]):=by
 have h:=load_ok k15a (by decide) k15a_read (List.all_eq_true.1 (show (k15aC.all fun x=>noCh x.1)=true by kernel_rfl))
 rw [if_neg (by decide),k15a_load] at h
 exact h
theorem k15_med:Med (k15P++[qryC k15bC]):=(som14_all (l:=k15P) (q:=qryC k15bC) (by kernel_rfl)).1

theorem k15b_ctr:PCtr Tryz.prog 30 [txA k15b,prV k15P] (.tup [(qryC k15bC).av,.d (.sl (strRows k15bC.2)),iV 0,iV 0]) :=
 query_ok k15b (by decide) k15b_read (by kernel_rfl) k15P (fun c hc=>k15_med.sm c (by simp [hc])) (by decide) (by kernel_rfl) (by kernel_rfl) (by decide) (by kernel_rfl)
def k15I:List Is:=[⟨1,0,0,e0⟩,⟨6,0,0,e0⟩,⟨8,0,0,Tx [97]⟩,⟨9,0,2,Tx [113]⟩,⟨12,0,0,e0⟩,⟨4,0,0,Tx [98]⟩,⟨1,0,0,e0⟩,⟨12,0,0,e0⟩,⟨5,0,0,e0⟩,⟨6,0,0,e0⟩,⟨9,0,1,Tx [112]⟩,⟨6,0,0,e0⟩,⟨18,0,1,e0⟩]
def k15E:List En:=[⟨Tx [112],1,0,1,key0⟩,⟨Tx [113],2,5,1,⟨3,0,Tx [98]⟩⟩]
theorem k15_comp:compG k15P (qryC k15bC)=⟨k15I,k15E,8,1⟩:=by kernel_rfl

theorem k15_compile:PCtr Tryz.prog 10 [prV k15P,(qryC k15bC).av] (.tup [(Cd.mk k15I k15E 8 1).av,iV 0]):=by
 have h:=compileL_ok k15P (qryC k15bC) k15_med (by decide)
 rw [show fairQ (qryC k15bC) k15P=true by kernel_rfl,k15_comp] at h
 exact h

set_option maxRecDepth 100000 in
theorem knows15_ok:PCtr Tryz.prog 9 [] (bV true):=by
 refine PCtr.of_R (pf:=fun _=>.still) tyOk mixed Tryz.func9 rfl (by kernel_rfl) (by kernel_rfl) (by simp [Tryz.ntmps9]) fun w S hg=>?_
 refine R_run hg.ok 1000 rfl rfl ?_
 refine R_call hg.ok (k15a_ctr) rfl rfl rfl rfl rfl rfl ?_
 refine R_run hg.ok 1000 rfl rfl ?_
 refine R_call hg.ok (k15b_ctr) rfl rfl rfl rfl rfl rfl ?_
 refine R_run hg.ok 1000 rfl rfl ?_
 refine R_call hg.ok (k15_compile) rfl rfl rfl rfl rfl rfl ?_
 refine R_run hg.ok 1000 rfl rfl ?_
 repeat
  first
  | (refine R_if rfl rfl (fun h=>absurd h (by decide +kernel)) (fun _=>?_); refine R_run hg.ok 1000 rfl rfl ?_)
  | (refine R_if rfl rfl (fun _=>?_) (fun h=>absurd h (by decide +kernel)); refine R_run hg.ok 1000 rfl rfl ?_)
  | (refine R_index hg.ok rfl rfl rfl rfl rfl rfl (by decide) rfl rfl ?_; refine R_run hg.ok 1000 rfl rfl ?_)
 refine R_eqlV hg.ok [.int .i64 1,.int .i64 0,.int .i64 0,.string e0] [.int .i64 1,.int .i64 0,.int .i64 0,.string e0] true rfl rfl rfl rfl (fun w=>by rw [← show isEqB (Is.mk 1 0 0 e0) (Is.mk 1 0 0 e0)=true by decide +kernel]; exact isEql _ _ (Is.mk 1 0 0 e0) (Is.mk 1 0 0 e0) w) ?_
 refine R_run hg.ok 1000 rfl rfl ?_
 repeat
  first
  | (refine R_if rfl rfl (fun _=>?_) (fun h=>absurd h (by decide +kernel)); refine R_run hg.ok 1000 rfl rfl ?_)
  | (refine R_index hg.ok rfl rfl rfl rfl rfl rfl (by decide) rfl rfl ?_; refine R_run hg.ok 1000 rfl rfl ?_)
 refine R_eqlV hg.ok [.int .i64 8,.int .i64 0,.int .i64 0,.string (Tx [97])] [.int .i64 8,.int .i64 0,.int .i64 0,.string ⟨#[97]⟩] true rfl rfl rfl rfl (fun w=>by rw [← show isEqB (Is.mk 8 0 0 (Tx [97])) (Is.mk 8 0 0 ⟨#[97]⟩)=true by decide +kernel]; exact isEql _ _ (Is.mk 8 0 0 (Tx [97])) (Is.mk 8 0 0 ⟨#[97]⟩) w) ?_
 refine R_run hg.ok 1000 rfl rfl ?_
 repeat
  first
  | (refine R_if rfl rfl (fun _=>?_) (fun h=>absurd h (by decide +kernel)); refine R_run hg.ok 1000 rfl rfl ?_)
  | (refine R_index hg.ok rfl rfl rfl rfl rfl rfl (by decide) rfl rfl ?_; refine R_run hg.ok 1000 rfl rfl ?_)
 refine R_eqlV hg.ok [.int .i64 9,.int .i64 0,.int .i64 2,.string (Tx [113])] [.int .i64 9,.int .i64 0,.int .i64 2,.string ⟨#[113]⟩] true rfl rfl rfl rfl (fun w=>by rw [← show isEqB (Is.mk 9 0 2 (Tx [113])) (Is.mk 9 0 2 ⟨#[113]⟩)=true by decide +kernel]; exact isEql _ _ (Is.mk 9 0 2 (Tx [113])) (Is.mk 9 0 2 ⟨#[113]⟩) w) ?_
 refine R_run hg.ok 1000 rfl rfl ?_
 repeat
  first
  | (refine R_if rfl rfl (fun _=>?_) (fun h=>absurd h (by decide +kernel)); refine R_run hg.ok 1000 rfl rfl ?_)
  | (refine R_index hg.ok rfl rfl rfl rfl rfl rfl (by decide) rfl rfl ?_; refine R_run hg.ok 1000 rfl rfl ?_)
 refine R_eqlV hg.ok [.int .i64 3,.int .i64 0,.string (Tx [98])] [.int .i64 3,.int .i64 0,.string ⟨#[98]⟩] true rfl rfl rfl rfl (fun w=>by rw [← show kyEqB (Ky.mk 3 0 (Tx [98])) (Ky.mk 3 0 ⟨#[98]⟩)=true by decide +kernel]; exact kyEql _ _ (Ky.mk 3 0 (Tx [98])) (Ky.mk 3 0 ⟨#[98]⟩) w) ?_
 refine R_run hg.ok 1000 rfl rfl ?_
 repeat
  first
  | (refine R_if rfl rfl (fun _=>?_) (fun h=>absurd h (by decide +kernel)); refine R_run hg.ok 1000 rfl rfl ?_)
 refine R_split 94 (b:=true) rfl (fun _=>?_) (fun h=>absurd h (by decide))
 refine R_run hg.ok 1000 rfl rfl ?_
 refine R_ret hg 5 rfl rfl ?_
 rfl

set_option maxRecDepth 100000 in
theorem same15_ok (m:List Is) (d:Int) (hm:m.length≤100000000) (hj:∀ x∈m,x.op=14∨x.op=16→-1000000000≤x.n+d∧x.n+d≤1000000000):PCtr Tryz.prog 13 [.d (.sl (Is.rows (m.map (mvIs d)))),.d (.sl (Is.rows m)),iV d] (bV true):=by
 have hl:(m.map (mvIs d)).length=m.length:=List.length_map _
 refine PCtr.of_R (pf:=fun _=>.still) tyOk mixed Tryz.func13 rfl (by kernel_rfl) (by kernel_rfl) (by simp [Tryz.ntmps13]) fun w S hg=>?_
 refine R_run hg.ok 1000 rfl rfl ?_
 refine R_if rfl rfl (fun h=>absurd h (by simp [Is.rows_len])) (fun _=>?_) <;> refine R_run hg.ok 1000 rfl rfl ?_
 refine R_loop (fun i:Nat=>([(0,.d (.sl (Is.rows (m.map (mvIs d))))),(1,.d (.sl (Is.rows m))),(2,iV d),(7,iV i)],[])) (fun i=>i≤m.length) (fun i=>m.length - i) 0 (Nat.zero_le _) ⟨.refl _,.refl _,.refl _,.refl _,trivial⟩ rfl ?_
 rintro i hi
 refine R_run hg.ok 1000 rfl rfl ?_
 refine R_if rfl rfl (fun h=>?_) (fun h=>?_) <;> refine R_run hg.ok 1000 rfl rfl ?_
 ·have hi1:i<m.length:=lt_dec h (by rw [Is.rows_len,hl])
  have e1:m[i]? = some m[i]:=List.getElem?_eq_getElem hi1
  have hmem:=List.getElem_mem hi1
  have e2:(m.map (mvIs d))[i]? = some (mvIs d m[i]):=by rw [List.getElem?_map,e1]; rfl
  obtain ⟨f1,f2,f3,f4⟩:=mvIs_facts d m[i]
  have hjx:=hj _ hmem
  generalize m[i]=x at *
  generalize mvIs d x=y at *
  have hss:strEq y.s x.s=true:=Tm.strEq_iff.2 f3
  refine R_index hg.ok rfl rfl rfl rfl rfl rfl (Int.natCast_nonneg _) (Is.rows_get e1) rfl ?_
  refine R_run hg.ok 1000 rfl rfl ?_
  refine R_index hg.ok rfl rfl rfl rfl rfl rfl (Int.natCast_nonneg _) (Is.rows_get e1) rfl ?_
  refine R_run hg.ok 1000 rfl rfl ?_
  by_cases o14:x.op=14
  ·rw [if_pos (.inl o14)] at f4
   refine R_if rfl rfl (fun _=>?_) (fun h=>absurd h (by simp [o14])) <;> refine R_run hg.ok 1000 rfl rfl ?_
   rw [w64 (n:=x.n+d) (by have:=hjx (.inl o14); omega) (by have:=hjx (.inl o14); omega)]
   refine R_index hg.ok rfl rfl rfl rfl rfl rfl (Int.natCast_nonneg _) (Is.rows_get e2) rfl ?_
   refine R_run hg.ok 1000 rfl rfl ?_
   refine R_index hg.ok rfl rfl rfl rfl rfl rfl (Int.natCast_nonneg _) (Is.rows_get e1) rfl ?_
   refine R_run hg.ok 1000 rfl rfl ?_
   refine R_if rfl rfl (fun h=>absurd h (by simp [f1])) (fun _=>?_) <;> refine R_run hg.ok 1000 rfl rfl ?_
   refine R_index hg.ok rfl rfl rfl rfl rfl rfl (Int.natCast_nonneg _) (Is.rows_get e2) rfl ?_
   refine R_run hg.ok 1000 rfl rfl ?_
   refine R_index hg.ok rfl rfl rfl rfl rfl rfl (Int.natCast_nonneg _) (Is.rows_get e1) rfl ?_
   refine R_run hg.ok 1000 rfl rfl ?_
   refine R_if rfl rfl (fun h=>absurd h (by simp [f2])) (fun _=>?_) <;> refine R_run hg.ok 1000 rfl rfl ?_
   refine R_index hg.ok rfl rfl rfl rfl rfl rfl (Int.natCast_nonneg _) (Is.rows_get e2) rfl ?_
   refine R_run hg.ok 1000 rfl rfl ?_
   refine R_if rfl rfl (fun h=>absurd h (by simp [f4])) (fun _=>?_) <;> refine R_run hg.ok 1000 rfl rfl ?_
   refine R_index hg.ok rfl rfl rfl rfl rfl rfl (Int.natCast_nonneg _) (Is.rows_get e2) rfl ?_
   refine R_run hg.ok 1000 rfl rfl ?_
   refine R_index hg.ok rfl rfl rfl rfl rfl rfl (Int.natCast_nonneg _) (Is.rows_get e1) rfl ?_
   refine R_run hg.ok 1000 rfl rfl ?_
   refine R_if rfl rfl (fun h=>absurd h (by simp [hss])) (fun _=>?_) <;> refine R_run hg.ok 1000 rfl rfl ?_
   exact R_next (i+1) hi1 (by omega) ⟨.refl _,.refl _,.refl _,Ent.wrap (by omega) (by omega) (by omega),trivial⟩ rfl
  refine R_if rfl rfl (fun h=>absurd h (by simp [o14])) (fun _=>?_) <;> refine R_run hg.ok 1000 rfl rfl ?_
  refine R_index hg.ok rfl rfl rfl rfl rfl rfl (Int.natCast_nonneg _) (Is.rows_get e1) rfl ?_
  refine R_run hg.ok 1000 rfl rfl ?_
  by_cases o16:x.op=16
  ·rw [if_pos (.inr o16)] at f4
   refine R_if rfl rfl (fun _=>?_) (fun h=>absurd h (by simp [o16])) <;> refine R_run hg.ok 1000 rfl rfl ?_
   rw [w64 (n:=x.n+d) (by have:=hjx (.inr o16); omega) (by have:=hjx (.inr o16); omega)]
   refine R_index hg.ok rfl rfl rfl rfl rfl rfl (Int.natCast_nonneg _) (Is.rows_get e2) rfl ?_
   refine R_run hg.ok 1000 rfl rfl ?_
   refine R_index hg.ok rfl rfl rfl rfl rfl rfl (Int.natCast_nonneg _) (Is.rows_get e1) rfl ?_
   refine R_run hg.ok 1000 rfl rfl ?_
   refine R_if rfl rfl (fun h=>absurd h (by simp [f1])) (fun _=>?_) <;> refine R_run hg.ok 1000 rfl rfl ?_
   refine R_index hg.ok rfl rfl rfl rfl rfl rfl (Int.natCast_nonneg _) (Is.rows_get e2) rfl ?_
   refine R_run hg.ok 1000 rfl rfl ?_
   refine R_index hg.ok rfl rfl rfl rfl rfl rfl (Int.natCast_nonneg _) (Is.rows_get e1) rfl ?_
   refine R_run hg.ok 1000 rfl rfl ?_
   refine R_if rfl rfl (fun h=>absurd h (by simp [f2])) (fun _=>?_) <;> refine R_run hg.ok 1000 rfl rfl ?_
   refine R_index hg.ok rfl rfl rfl rfl rfl rfl (Int.natCast_nonneg _) (Is.rows_get e2) rfl ?_
   refine R_run hg.ok 1000 rfl rfl ?_
   refine R_if rfl rfl (fun h=>absurd h (by simp [f4])) (fun _=>?_) <;> refine R_run hg.ok 1000 rfl rfl ?_
   refine R_index hg.ok rfl rfl rfl rfl rfl rfl (Int.natCast_nonneg _) (Is.rows_get e2) rfl ?_
   refine R_run hg.ok 1000 rfl rfl ?_
   refine R_index hg.ok rfl rfl rfl rfl rfl rfl (Int.natCast_nonneg _) (Is.rows_get e1) rfl ?_
   refine R_run hg.ok 1000 rfl rfl ?_
   refine R_if rfl rfl (fun h=>absurd h (by simp [hss])) (fun _=>?_) <;> refine R_run hg.ok 1000 rfl rfl ?_
   exact R_next (i+1) hi1 (by omega) ⟨.refl _,.refl _,.refl _,Ent.wrap (by omega) (by omega) (by omega),trivial⟩ rfl
  refine R_if rfl rfl (fun h=>absurd h (by simp [o16])) (fun _=>?_) <;> refine R_run hg.ok 1000 rfl rfl ?_
  rw [if_neg (by omega)] at f4
  refine R_index hg.ok rfl rfl rfl rfl rfl rfl (Int.natCast_nonneg _) (Is.rows_get e2) rfl ?_
  refine R_run hg.ok 1000 rfl rfl ?_
  refine R_index hg.ok rfl rfl rfl rfl rfl rfl (Int.natCast_nonneg _) (Is.rows_get e1) rfl ?_
  refine R_run hg.ok 1000 rfl rfl ?_
  refine R_if rfl rfl (fun h=>absurd h (by simp [f1])) (fun _=>?_) <;> refine R_run hg.ok 1000 rfl rfl ?_
  refine R_index hg.ok rfl rfl rfl rfl rfl rfl (Int.natCast_nonneg _) (Is.rows_get e2) rfl ?_
  refine R_run hg.ok 1000 rfl rfl ?_
  refine R_index hg.ok rfl rfl rfl rfl rfl rfl (Int.natCast_nonneg _) (Is.rows_get e1) rfl ?_
  refine R_run hg.ok 1000 rfl rfl ?_
  refine R_if rfl rfl (fun h=>absurd h (by simp [f2])) (fun _=>?_) <;> refine R_run hg.ok 1000 rfl rfl ?_
  refine R_index hg.ok rfl rfl rfl rfl rfl rfl (Int.natCast_nonneg _) (Is.rows_get e2) rfl ?_
  refine R_run hg.ok 1000 rfl rfl ?_
  refine R_if rfl rfl (fun h=>absurd h (by simp [f4])) (fun _=>?_) <;> refine R_run hg.ok 1000 rfl rfl ?_
  refine R_index hg.ok rfl rfl rfl rfl rfl rfl (Int.natCast_nonneg _) (Is.rows_get e2) rfl ?_
  refine R_run hg.ok 1000 rfl rfl ?_
  refine R_index hg.ok rfl rfl rfl rfl rfl rfl (Int.natCast_nonneg _) (Is.rows_get e1) rfl ?_
  refine R_run hg.ok 1000 rfl rfl ?_
  refine R_if rfl rfl (fun h=>absurd h (by simp [hss])) (fun _=>?_) <;> refine R_run hg.ok 1000 rfl rfl ?_
  exact R_next (i+1) hi1 (by omega) ⟨.refl _,.refl _,.refl _,Ent.wrap (by omega) (by omega) (by omega),trivial⟩ rfl
 ·refine R_ret hg 5 rfl rfl ?_
  rfl
end Go.Proofs.YtcgkgofmldhokaaGreat

namespace PSL
open Go Go.RowKit Go.MapKept

mutual
def frzB (i:Nat) (ds:List D):AV→AV
 | .ow j t=>bif Nat.beq j i then .any else .ow j t
 | .el j t r o=>bif Nat.beq j i then .any else .el j t r o
 | .vw j t r=>bif Nat.beq j i then .any else .vw j t r
 | .lo j o=>bif Nat.beq j i then .d (.ptr (ds.drop o)) else .lo j o
 | .mp j=>bif Nat.beq j i then .any else .mp j
 | .yl j=>bif Nat.beq j i then .any else .yl j
 | .agg l=>.agg (frzBL i ds l)
 | .tup l=>.tup (frzBL i ds l)
 | .clo f a c=>.clo f (frzBL i ds a) (frzBL i ds c)
 | .any=>.any
 | .tt=>.tt
 | .ff=>.ff
 | .d x=>.d x
 | .fs r=>.fs r
def frzBL (i:Nat) (ds:List D):List AV→List AV
 | []=>[]
 | x::l=>frzB i ds x::frzBL i ds l
end

mutual
theorem frzB_ok {S S':Nat→Prop} {w:World} {φ φ':List Phy} {i:Nat} {ds:List D} (hk:Keep S w S' w) (hp:∀ j,j≠i→φ'[j]? = φ[j]?) (ho:∀ off v,RV S w φ (.lo i off) v→Rd S' w (.ptr (ds.drop off)) v) :
  ∀ (x:AV) (v:Value),RV S w φ x v→RV S' w φ' (frzB i ds x) v
 | .any,_,_=>by simp [RV,frzB]
 | .tt,_,h=>by simpa [RV,frzB] using h
 | .ff,_,h=>by simpa [RV,frzB] using h
 | .d x,v,h=>by simp only [RV,frzB] at h ⊢; exact h.mono hk
 | .fs rows,v,h=>by simp only [RV,frzB] at h ⊢; exact ⟨h.1.mono hk,h.2⟩
 | .agg l,v,h=>by
  simp only [RV,frzB] at h ⊢
  obtain ⟨cs,h1,h2⟩:=h
  exact ⟨cs,h1,frzBL_ok hk hp ho l cs h2⟩
 | .lo j off,v,h=>by
  simp only [frzB]
  cases hj:Nat.beq j i
  ·have:j≠i:=fun e=>by subst e; simp at hj
   simp only [cond_false]
   simp only [RV] at h ⊢; rw [hp j this]; exact h
  ·have:=natBeq hj; subst this
   simp only [cond_true]
   have:=ho off v h
   simpa only [RV] using this
 | .el j t r o,v,h=>by
  simp only [frzB]
  cases hj:Nat.beq j i
  ·have:j≠i:=fun e=>by subst e; simp at hj
   simp only [RV,cond_false] at h ⊢; rw [hp j this]; exact h
  ·simp [RV]
 | .vw j t r,v,h=>by
  simp only [frzB]
  cases hj:Nat.beq j i
  ·have:j≠i:=fun e=>by subst e; simp at hj
   simp only [RV,cond_false] at h ⊢; rw [hp j this]; exact h
  ·simp [RV]
 | .mp j,v,h=>by
  simp only [frzB]
  cases hj:Nat.beq j i
  ·have:j≠i:=fun e=>by subst e; simp at hj
   simp only [RV,cond_false] at h ⊢; rw [hp j this]; exact h
  ·simp [RV]
 | .yl j,v,h=>by
  simp only [frzB]
  cases hj:Nat.beq j i
  ·have:j≠i:=fun e=>by subst e; simp at hj
   simp only [RV,cond_false] at h ⊢; rw [hp j this]; exact h
  ·simp [RV]
 | .ow j t,v,h=>by
  simp only [frzB]
  cases hj:Nat.beq j i
  ·have:j≠i:=fun e=>by subst e; simp at hj
   simp only [RV,cond_false] at h ⊢; rw [hp j this]; exact h
  ·simp [RV]
 | .tup l,v,h=>by
  simp only [RV,frzB] at h ⊢
  obtain ⟨cs,h1,h2⟩:=h
  exact ⟨cs,h1,frzBL_ok hk hp ho l cs h2⟩
 | .clo f a c,v,h=>by
  simp only [RV,frzB] at h ⊢
  obtain ⟨va,vc,h1,h2,h3⟩:=h
  exact ⟨va,vc,h1,frzBL_ok hk hp ho a va h2,frzBL_ok hk hp ho c vc h3⟩
theorem frzBL_ok {S S':Nat→Prop} {w:World} {φ φ':List Phy} {i:Nat} {ds:List D} (hk:Keep S w S' w) (hp:∀ j,j≠i→φ'[j]? = φ[j]?) (ho:∀ off v,RV S w φ (.lo i off) v→Rd S' w (.ptr (ds.drop off)) v) :
  ∀ (l:List AV) (vs:List Value),RVs S w φ l vs→RVs S' w φ' (frzBL i ds l) vs
 | [],[],_=>by simp [RVs,frzBL]
 | [],_::_,h=>by simp [RVs] at h
 | _::_,[],h=>by simp [RVs] at h
 | a::l,v::vs,h=>by
  simp only [RVs,frzBL] at h ⊢
  exact ⟨frzB_ok hk hp ho a v h.1,frzBL_ok hk hp ho l vs h.2⟩
end
section
variable {g:G} {pf:Nat→Cls} {ops:Array Oper} {Fin:Exit→Act→World→Prop}

theorem R_freezeB (hu:GUp g) {k:List It} {E:Env} {objs:List Ob} (i:Nat) (ds:List D) (hn:g.φ0.length≤i) (ho:nth objs i=some (.box (ds.map AV.d))) (ht:topCode k=true)
  (hr:R g pf Fin k (mapE (frzB i ds) E) (setN (objs.map (mapOb (frzB i ds))) i .dead)) (hdf:g.dfs=[]:=by rfl):R g pf Fin k E objs:=by
 refine R_ghost ht (fun a w hs=>?_) hr
 obtain ⟨φ,h1,h2,h3,h4,h5,h6⟩:=hs
 rw [nth_eq] at ho
 have hil:=(List.getElem?_eq_some_iff.1 ho).1
 have hiφ:i<φ.length:=by rw [h1.len]; exact hil
 have hbl0:∀ b,bls φ b→g.S0 b:=fun b hb=>(h2 b hb).elim (hu.up b) (hu.x b)
 have hbl:∀ b,bls (φ.set i .no) b→bls φ b:=fun b hb=>by
  rcases bls_set hb with ⟨j,q,_,g1,g2⟩ | g1
  ·exact ⟨j,q,g1,g2⟩
  ·simp [Phy.bl] at g1
 have hp:∀ j,j≠i→(φ.set i .no)[j]? = φ[j]? := fun j hj=>List.getElem?_set_ne (fun e=>hj e.symm)
 have hkeep:Keep (SS g.S0 φ) w (SS g.S0 (φ.set i .no)) w:=fun b hb _=>⟨⟨hb.1,fun hc=>hb.2 (hbl b hc)⟩,rfl⟩
 have hph:φ[i]? = some φ[i]:=List.getElem?_eq_getElem hiφ
 -- the object's block is free of objects from now on
 have hrd:∀ off v,RV (SS g.S0 φ) w φ (.lo i off) v→Rd (SS g.S0 (φ.set i .no)) w (.ptr (ds.drop off)) v:=fun off v hv=>by
  simp only [RV] at hv
  obtain ⟨b,hph,rfl⟩:=hv
  have hk:=h1.ok i _ _ hph ho
  simp only [ObOk] at hk
  obtain ⟨cs,T,hheap,hrv⟩:=hk
  have hb:bls φ b:=⟨i,_,hph,rfl⟩
  have hnb:¬ bls (φ.set i .no) b:=fun hc=>by
   rcases bls_set hc with ⟨j,q,hj,g1,g2⟩ | g1
   ·exact hj (h1.dist _ _ _ _ _ g1 hph g2 rfl)
   ·simp [Phy.bl] at g1
  refine Rd.ptr (fun j=>(cs[off+j]?).getD undef) ⟨hbl0 b hb,hnb⟩ hheap (fun j x hj=>?_) (fun j x hj=>?_)
  ·obtain ⟨u,g1,_⟩:=hrv.get (off+j) (x:=.d x) (by rw [List.getElem?_map]; rw [List.getElem?_drop] at hj; rw [hj]; rfl)
   simp [g1]
  ·obtain ⟨u,g1,g2⟩:=hrv.get (off+j) (x:=.d x) (by rw [List.getElem?_map]; rw [List.getElem?_drop] at hj; rw [hj]; rfl)
   rw [g1]
   have:Rd (SS g.S0 φ) w x u:=by simpa [RV] using g2
   simpa using this.mono hkeep
 have hf:=frzB_ok (ds:=ds) hkeep hp hrd
 refine ⟨φ.set i .no,h1.remap (frzB i ds) (by rw [setN_eq]; simp [h1.len]) (fun j p b hj hb=>?_) (fun j ob' hj=>?_) hf,fun b hb=>h2 b (hbl b hb),fun u=>?_,h4,Mks.phs hdf h5 hbl,h6.phs (fun j l I B h=>⟨B,by
  by_cases hji:j=i
  ·subst hji; rw [List.getElem?_set_self hiφ] at h; cases h
  ·rw [hp j hji] at h; exact h⟩) (fun j p hi=>by
  obtain ⟨p',h7,h8⟩:=h6.le j p hi
  by_cases hji:j=i
  ·subst hji
   have:=(List.getElem?_eq_some_iff.1 hi).1
   omega
  ·exact ⟨p',by rw [hp j hji]; exact h7,h8⟩)⟩
 ·by_cases hji:j=i
  ·subst hji; rw [List.getElem?_set_self hiφ] at hj; cases hj; exact hb.elim
  ·rw [hp j hji] at hj; exact ⟨p,hj,hb⟩
 ·rw [setN_eq] at hj
  by_cases hji:j=i
  ·subst hji; rw [List.getElem?_set_self (by simpa using hil)] at hj; cases hj; exact .inl rfl
  ·rw [List.getElem?_set_ne (fun e=>hji e.symm),List.getElem?_map] at hj
   cases ho:objs[j]? with
   | none=>rw [ho] at hj; cases hj
   | some ob=>rw [ho] at hj; exact .inr (.inl ⟨ob,rfl,hp j hji,by simpa using hj.symm⟩)
 ·rcases lk_mapE (f:=frzB i ds) E u with h | h
  ·rw [h]; exact hf _ _ (h3 u)
  ·rw [h]; simp [RV]
end
end PSL

namespace Go.Proofs.YtcgkgofmldhokaaGreat
open Go PSL Go.Proofs

set_option maxRecDepth 100000 in
theorem refFair14_ok (q:Cs) (l:List Cs) (hq:SmC q) (hl:∀ c∈l,SmC c) (hlen:l.length≤1000000):PCtr Tryz.prog 11 [q.av,prV l] (bV (fairQ q l)):=by
 have hs:=hq.head.1
 have hr:=refRight_ok q.head (by omega) hq.head.2
 have hv:=(refVars_ok [q.head] (by simp [Tm.sizeL]; omega)).one
 have hc:=refClause_ok (pfC hayS q) (smC_atom hay_own.1 hq)
 rw [← cls_same,← cls_qh] at hc
 have ht:=refThere_ok l hlen q.body hq.size
 have hf:fairQ q l=(((checkR l).2==0)&&(q.head.k==3)&&strEq q.head.s ⟨#[63]⟩&&q.head.rightB&&(Tm.withVL [] [q.head]).all (fun x=>decide (x<q.vars))&&clsB (pfC qryS q)&&thereL (hasH l) q.body):=by
  unfold fairQ
  cases h:q.head.rightB with
  | false=>simp
  | true=>rw [varsT_with [q.head] (Tm.fairL_plain _ (fairL_of (by simpa using h)))]
 rw [hf]
 clear hf
 have hvl:(Tm.withVL [] [q.head]).length≤1000000:=by
  have:=Tm.withVL_len [q.head] []
  simp [Tm.sizeL] at this; omega
 generalize Tm.withVL [] [q.head]=V at *
 refine PCtr.of_R (pf:=fun _=>.still) tyOk mixed Tryz.func11 rfl (by kernel_rfl) (by kernel_rfl) (by simp [Tryz.ntmps11]) fun w S hg=>?_
 refine R_run hg.ok 1000 rfl rfl ?_
 refine R_call hg.ok (refCheck_ok l hl hlen) rfl rfl rfl rfl rfl rfl ?_
 refine R_run hg.ok 1000 rfl rfl ?_
 refine R_if rfl rfl (fun h1=>?_) (fun h1=>?_) <;> refine R_run hg.ok 1000 rfl rfl ?_
 ·refine R_ret hg 5 rfl rfl ?_
  rw [show ((checkR l).2==0)=false by simpa using h1]; rfl
 rw [show ((checkR l).2==0)=true by simpa using h1,Bool.true_and]
 refine R_if rfl rfl (fun h2=>?_) (fun h2=>?_) <;> refine R_run hg.ok 1000 rfl rfl ?_
 ·refine R_ret hg 5 rfl rfl ?_
  rw [show (q.head.k==3)=false by simpa using h2]; rfl
 rw [show (q.head.k==3)=true by simpa using h2,Bool.true_and]
 refine R_if rfl rfl (fun h3=>?_) (fun h3=>?_) <;> refine R_run hg.ok 1000 rfl rfl ?_
 ·refine R_ret hg 5 rfl rfl ?_
  rw [show strEq q.head.s ⟨#[63]⟩=false by simpa using h3]; rfl
 rw [show strEq q.head.s ⟨#[63]⟩=true by simpa using h3,Bool.true_and]
 refine R_call hg.ok (hr) rfl rfl rfl rfl rfl rfl ?_
 refine R_run hg.ok 1000 rfl rfl ?_
 refine R_if rfl rfl (fun h4=>?_) (fun h4=>?_) <;> refine R_run hg.ok 1000 rfl rfl ?_
 ·refine R_ret hg 5 rfl rfl ?_
  rw [show q.head.rightB=false by simpa using h4]; rfl
 rw [show q.head.rightB=true by simpa using h4,Bool.true_and]
 refine R_call hg.ok (hv) rfl rfl rfl rfl rfl rfl ?_
 refine R_run hg.ok 1000 rfl rfl ?_
 refine R_loop (fun k:Nat=>([(2,.lo 0 0),(3,.lo 1 0),(7,.d (.sl (irows V))),(8,iV k)],[csBox q,.box [.d (.sl (Cs.rows l))]])) (fun k=>k≤V.length∧V.all (fun x=>decide (x<q.vars))=(V.drop k).all fun x=>decide (x<q.vars)) (fun k=>V.length - k) 0 ⟨Nat.zero_le _,rfl⟩ ⟨.refl _,.refl _,.refl _,.refl _,trivial⟩ rfl ?_
 rintro k ⟨hk,hm⟩
 refine R_run hg.ok 1000 rfl rfl ?_
 refine R_if rfl rfl (fun h=>?_) (fun h=>?_) <;> refine R_run hg.ok 1000 rfl rfl ?_
 ·have hk1:k<V.length:=lt_dec h (by rw [irows_length])
  have e1:V[k]? = some V[k]:=List.getElem?_eq_getElem hk1
  rw [List.drop_eq_getElem_cons hk1,List.all_cons] at hm
  generalize V[k]=x at e1 hm
  refine R_index hg.ok rfl rfl rfl rfl rfl rfl (Int.natCast_nonneg _) (irows_get e1) rfl ?_
  refine R_run hg.ok 1000 rfl rfl ?_
  refine R_if rfl rfl (fun h=>?_) (fun h=>?_) <;> refine R_run hg.ok 1000 rfl rfl ?_
  ·refine R_ret hg 5 rfl rfl ?_
   rw [hm,show decide (x<q.vars)=false by simpa using h]; rfl
  ·exact R_next (k+1) ⟨hk1,by rw [hm,show decide (x<q.vars)=true by simpa using h,Bool.true_and]⟩ (by omega) ⟨.refl _,.refl _,.refl _,Ent.wrap (by omega) (by omega) (by omega),trivial⟩ rfl
 ·have hk1:V.length≤k:=ge_dec h (by rw [irows_length])
  rw [hm,List.drop_eq_nil_of_le hk1]
  refine R_call hg.ok (hc) rfl rfl rfl rfl rfl rfl ?_
  refine R_run hg.ok 1000 rfl rfl ?_
  refine R_if rfl rfl (fun h5=>?_) (fun h5=>?_) <;> refine R_run hg.ok 1000 rfl rfl ?_
  ·refine R_call hg.ok (ht) rfl rfl rfl rfl rfl rfl ?_
   refine R_run hg.ok 1000 rfl rfl ?_
   refine R_ret hg 5 rfl rfl ?_
   rw [h5]; rfl
  ·refine R_ret hg 5 rfl rfl ?_
   rw [h5]; rfl
end Go.Proofs.YtcgkgofmldhokaaGreat

namespace PSL
open Go
section
variable {ty:Nat→Option Ty} {T TT TG TS B:Nat} {n:Nat} {τ:Ty} {row:List D} {a:AV}

theorem arg_progB {TC TP s:Nat} {τs τc:Ty} (hT:IsTerm ty TT) (hG:IsGoal ty TG TT) (hC:IsClause ty TC TT TG) (hB:B≤140737488355328) (hτ:ty TP=some τ) (hsh:τ.sh=.struct [(0,s)]) (hs:ty s=some τs) (hss:τs.sh=.slice TC) (hc:ty TC=some τc) (h:HasTy ty B n TP row) (ha:a=avOf τ row):∃ l:List Cs,a=prV l∧(∀ x∈l,x.Ok)∧l.length≤140737488355328∧l.length * τc.bytes≤B:=by
 obtain ⟨l,h1,h2,h3⟩:=arg_prog hT hG hC hB hτ hsh hs hss h ha
 refine ⟨l,h1,h2,h3,?_⟩
 cases n with
 | zero=>simp [HasTy] at h
 | succ n =>
  simp only [HasTy,hτ,hsh,HasFs] at h
  obtain ⟨_,ra,_,g1,rfl,g2,g3,rfl⟩:=h
  rw [hs] at g1; cases g1
  cases n with
  | zero=>simp [HasTy] at g3
  | succ n =>
   obtain ⟨rows,rfl,hlen,_⟩:=has_slice hs hss g3
   have hb:=hlen τc hc
   have e:a=.agg [.d (.sl rows)]:=by rw [ha]; unfold avOf Ty.agg; rw [hsh]; rfl
   rw [h1] at e
   unfold prV at e
   simp only [AV.agg.injEq,List.cons.injEq,AV.d.injEq,D.sl.injEq,and_true] at e
   rw [← e,Cs.rows_len] at hb
   exact hb
end
end PSL
