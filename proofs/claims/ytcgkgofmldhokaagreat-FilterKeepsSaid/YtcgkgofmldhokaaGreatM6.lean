import Derived.Test.YtcgkgofmldhokaaGreatM5
set_option maxRecDepth 100000
set_option maxHeartbeats 4000000
namespace PSL
open Go Go.RowKit Go.MapKept

mutual
def frzB (i:Nat) (ds:List D):AV→AV
 | .ow j t=>bif Nat.beq j i then .any else .ow j t
 | .el j t r o=>bif Nat.beq j i then .any else .el j t r o
 | .vw j t r=>bif Nat.beq j i then .any else .vw j t r
 | .lo j o=>bif Nat.beq j i then .d (.ptr (ds.drop o)) else .lo j o
 | .mp j=>bif Nat.beq j i then .any else .mp j
 | .yl j=>bif Nat.beq j i then .any else .yl j
 | .agg l=>.agg (frzBL i ds l)
 | .tup l=>.tup (frzBL i ds l)
 | .clo f a c=>.clo f (frzBL i ds a) (frzBL i ds c)
 | .any=>.any
 | .tt=>.tt
 | .ff=>.ff
 | .d x=>.d x
 | .fs r=>.fs r
def frzBL (i:Nat) (ds:List D):List AV→List AV
 |[]=>[]
 |x::l=>frzB i ds x::frzBL i ds l
end

mutual
theorem frzB_ok {S S':Nat→Prop}{w:World}{φ φ':List Phy}{i:Nat}{ds:List D}(hk:Keep S w S' w)(hp:∀j,j≠i→φ'[j]? = φ[j]?)(ho:∀off v,RV S w φ (.lo i off) v→Rd S' w (.ptr (ds.drop off)) v) :
  ∀ (x:AV) (v:Value),RV S w φ x v→RV S' w φ' (frzB i ds x) v
 | .any,_,_=>by simp[RV,frzB]
 | .tt,_,h=>by simpa[RV,frzB]using h
 | .ff,_,h=>by simpa[RV,frzB]using h
 | .d x,v,h=>by simp only[RV,frzB]at h ⊢;exact h.mono hk
 | .fs rows,v,h=>by simp only[RV,frzB]at h ⊢;exact⟨h.1.mono hk,h.2⟩
 | .agg l,v,h=>by
  simp only[RV,frzB]at h ⊢
  obtain⟨cs,h1,h2⟩:=h
  exact⟨cs,h1,frzBL_ok hk hp ho l cs h2⟩
 | .lo j off,v,h=>by
  simp only[frzB]
  cases hj:Nat.beq j i
  ·have:j≠i:=fun e=>by subst e; simp at hj
   simp only[cond_false]
   simp only[RV]at h ⊢;rw[hp j this];exact h
  ·have:=natBeq hj; subst this
   simp only[cond_true]
   have:=ho off v h
   simpa only[RV]using this
 | .el j t r o,v,h=>by
  simp only[frzB]
  cases hj:Nat.beq j i
  ·have:j≠i:=fun e=>by subst e; simp at hj
   simp only[RV,cond_false]at h ⊢;rw[hp j this];exact h
  ·simp[RV]
 | .vw j t r,v,h=>by
  simp only[frzB]
  cases hj:Nat.beq j i
  ·have:j≠i:=fun e=>by subst e; simp at hj
   simp only[RV,cond_false]at h ⊢;rw[hp j this];exact h
  ·simp[RV]
 | .mp j,v,h=>by
  simp only[frzB]
  cases hj:Nat.beq j i
  ·have:j≠i:=fun e=>by subst e; simp at hj
   simp only[RV,cond_false]at h ⊢;rw[hp j this];exact h
  ·simp[RV]
 | .yl j,v,h=>by
  simp only[frzB]
  cases hj:Nat.beq j i
  ·have:j≠i:=fun e=>by subst e; simp at hj
   simp only[RV,cond_false]at h ⊢;rw[hp j this];exact h
  ·simp[RV]
 | .ow j t,v,h=>by
  simp only[frzB]
  cases hj:Nat.beq j i
  ·have:j≠i:=fun e=>by subst e; simp at hj
   simp only[RV,cond_false]at h ⊢;rw[hp j this];exact h
  ·simp[RV]
 | .tup l,v,h=>by
  simp only[RV,frzB]at h ⊢
  obtain⟨cs,h1,h2⟩:=h
  exact⟨cs,h1,frzBL_ok hk hp ho l cs h2⟩
 | .clo f a c,v,h=>by
  simp only[RV,frzB]at h ⊢
  obtain⟨va,vc,h1,h2,h3⟩:=h
  exact⟨va,vc,h1,frzBL_ok hk hp ho a va h2,frzBL_ok hk hp ho c vc h3⟩
theorem frzBL_ok {S S':Nat→Prop}{w:World}{φ φ':List Phy}{i:Nat}{ds:List D}(hk:Keep S w S' w)(hp:∀j,j≠i→φ'[j]? = φ[j]?)(ho:∀off v,RV S w φ (.lo i off) v→Rd S' w (.ptr (ds.drop off)) v) :
  ∀ (l:List AV) (vs:List Value),RVs S w φ l vs→RVs S' w φ' (frzBL i ds l) vs
 |[],[],_=>by simp[RVs,frzBL]
 |[],_::_,h=>by simp[RVs]at h
 |_::_,[],h=>by simp[RVs]at h
 |a::l,v::vs,h=>by
  simp only[RVs,frzBL]at h ⊢
  exact⟨frzB_ok hk hp ho a v h.1,frzBL_ok hk hp ho l vs h.2⟩
end
section
variable {g:G} {pf:Nat→Cls} {ops:Array Oper} {Fin:Exit→Act→World→Prop}

theorem R_freezeB (hu:GUp g){k:List It}{E:Env}{objs:List Ob}(i:Nat)(ds:List D)(hn:g.φ0.length≤i)(ho:nth objs i=some (.box (ds.map AV.d)))(ht:topCode k=true)
  (hr:R g pf Fin k (mapE (frzB i ds) E) (setN (objs.map (mapOb (frzB i ds))) i .dead)) (hdf:g.dfs=[]:=by rfl):R g pf Fin k E objs:=by
 refine R_ghost ht (fun a w hs=>?_) hr
 obtain⟨φ,h1,h2,h3,h4,h5,h6⟩:=hs
 rw[nth_eq]at ho
 have hil:=(List.getElem?_eq_some_iff.1 ho).1
 have hiφ:i<φ.length:=by rw[h1.len];exact hil
 have hbl0:∀b,bls φ b→g.S0 b:=fun b hb=>(h2 b hb).elim (hu.up b) (hu.x b)
 have hbl:∀b,bls (φ.set i .no) b→bls φ b:=fun b hb=>by
  rcases bls_set hb with ⟨j,q,_,g1,g2⟩ |g1
  ·exact⟨j,q,g1,g2⟩
  ·simp[Phy.bl]at g1
 have hp:∀j,j≠i→(φ.set i .no)[j]? = φ[j]? := fun j hj=>List.getElem?_set_ne (fun e=>hj e.symm)
 have hkeep:Keep (SS g.S0 φ) w (SS g.S0 (φ.set i .no)) w:=fun b hb _=>⟨⟨hb.1,fun hc=>hb.2 (hbl b hc)⟩,rfl⟩
 have hph:φ[i]? = some φ[i]:=List.getElem?_eq_getElem hiφ
 -- the object's block is free of objects from now on
 have hrd:∀off v,RV (SS g.S0 φ) w φ (.lo i off) v→Rd (SS g.S0 (φ.set i .no)) w (.ptr (ds.drop off)) v:=fun off v hv=>by
  simp only[RV]at hv
  obtain⟨b,hph,rfl⟩:=hv
  have hk:=h1.ok i _ _ hph ho
  simp only[ObOk]at hk
  obtain⟨cs,T,hheap,hrv⟩:=hk
  have hb:bls φ b:=⟨i,_,hph,rfl⟩
  have hnb:¬ bls (φ.set i .no) b:=fun hc=>by
   rcases bls_set hc with ⟨j,q,hj,g1,g2⟩ |g1
   ·exact hj (h1.dist _ _ _ _ _ g1 hph g2 rfl)
   ·simp[Phy.bl]at g1
  refine Rd.ptr (fun j=>(cs[off+j]?).getD undef) ⟨hbl0 b hb,hnb⟩ hheap (fun j x hj=>?_) (fun j x hj=>?_)
  ·obtain ⟨u,g1,_⟩:=hrv.get (off+j) (x:=.d x) (by rw [List.getElem?_map]; rw [List.getElem?_drop] at hj; rw [hj]; rfl)
   simp[g1]
  ·obtain ⟨u,g1,g2⟩:=hrv.get (off+j) (x:=.d x) (by rw [List.getElem?_map]; rw [List.getElem?_drop] at hj; rw [hj]; rfl)
   rw[g1]
   have:Rd (SS g.S0 φ) w x u:=by simpa[RV]using g2
   simpa using this.mono hkeep
 have hf:=frzB_ok (ds:=ds) hkeep hp hrd
 refine⟨φ.set i .no,h1.remap (frzB i ds) (by rw[setN_eq];simp[h1.len]) (fun j p b hj hb=>?_) (fun j ob' hj=>?_) hf,fun b hb=>h2 b (hbl b hb),fun u=>?_,h4,Mks.phs hdf h5 hbl,h6.phs (fun j l I B h=>⟨B,by
  by_cases hji:j=i
  ·subst hji;rw[List.getElem?_set_self hiφ]at h;cases h
  ·rw[hp j hji]at h;exact h⟩) (fun j p hi=>by
  obtain⟨p',h7,h8⟩:=h6.le j p hi
  by_cases hji:j=i
  ·subst hji
   have:=(List.getElem?_eq_some_iff.1 hi).1
   omega
  ·exact⟨p',by rw[hp j hji];exact h7,h8⟩)⟩
 ·by_cases hji:j=i
  ·subst hji;rw[List.getElem?_set_self hiφ]at hj;cases hj;exact hb.elim
  ·rw[hp j hji]at hj;exact⟨p,hj,hb⟩
 ·rw [setN_eq] at hj
  by_cases hji:j=i
  ·subst hji;rw[List.getElem?_set_self (by simpa using hil)]at hj;cases hj;exact .inl rfl
  ·rw [List.getElem?_set_ne (fun e=>hji e.symm),List.getElem?_map] at hj
   cases ho:objs[j]? with
   |none=>rw[ho]at hj;cases hj
   |some ob=>rw[ho]at hj;exact .inr (.inl ⟨ob,rfl,hp j hji,by simpa using hj.symm⟩)
 ·rcases lk_mapE (f:=frzB i ds) E u with h | h
  ·rw[h];exact hf _ _ (h3 u)
  ·rw[h];simp[RV]
end
end PSL

namespace Go.Proofs.YtcgkgofmldhokaaGreat
open Go PSL Go.Proofs
end Go.Proofs.YtcgkgofmldhokaaGreat

namespace PSL
open Go
section
variable {ty:Nat→Option Ty} {T TT TG TS B:Nat} {n:Nat} {τ:Ty} {row:List D} {a:AV}

theorem arg_progB {TC TP s:Nat}{τs τc:Ty}(hT:IsTerm ty TT)(hG:IsGoal ty TG TT)(hC:IsClause ty TC TT TG)(hB:B≤140737488355328)(hτ:ty TP=some τ)(hsh:τ.sh=.struct [(0,s)])(hs:ty s=some τs)(hss:τs.sh=.slice TC)(hc:ty TC=some τc)(h:HasTy ty B n TP row)(ha:a=avOf τ row):∃l:List Cs,a=prV l∧(∀x∈l,x.Ok)∧l.length≤140737488355328∧l.length * τc.bytes≤B:=by
 obtain⟨l,h1,h2,h3⟩:=arg_prog hT hG hC hB hτ hsh hs hss h ha
 refine⟨l,h1,h2,h3,?_⟩
 cases n with
 |zero=>simp[HasTy]at h
 |succ n =>
  simp only[HasTy,hτ,hsh,HasFs]at h
  obtain⟨_,ra,_,g1,rfl,g2,g3,rfl⟩:=h
  rw[hs]at g1;cases g1
  cases n with
  |zero=>simp[HasTy]at g3
  |succ n =>
   obtain⟨rows,rfl,hlen,_⟩:=has_slice hs hss g3
   have hb:=hlen τc hc
   have e:a=.agg [.d (.sl rows)]:=by rw[ha];unfold avOf Ty.agg;rw[hsh];rfl
   rw[h1]at e
   unfold prV at e
   simp only[AV.agg.injEq,List.cons.injEq,AV.d.injEq,D.sl.injEq,and_true]at e
   rw[← e,Cs.rows_len]at hb
   exact hb
end
end PSL

namespace Go.Proofs.YtcgkgofmldhokaaGreat
open Go PSL Go.Proofs
def zbT:Ob:=.box [iV 0,.d (.v (.string ByteArray.empty)),iV 0,.d (.v (.slice none 0 0))]
def glz (g:Gl)(t:Tm)(a b c:List Gl):Ob:=.box [.d (.v (.int .i64 g.k)),.d (.v (.int .i64 t.k)),.d (.v (.string t.s)),.d (.v (.int .i64 t.n)),.d (.sl (Tm.rows t.l)),.d (.sl (Gl.rows a)),.d (.sl (Gl.rows b)),.d (.sl (Gl.rows c))]
end Go.Proofs.YtcgkgofmldhokaaGreat

namespace PSL
open Go
section
variable {σ:Type} (F:σ→Int→Tm→σ × Tm)

mutual
def tnG:σ→Gl→σ × Gl
 |s,.mk k t a b c =>
  let r:=if k=1∨k=2 then F s k t else (s,t)
  let x:=tnL r.1 a
  let y:=tnL x.1 b
  let z:=tnL y.1 c
  (z.1,.mk k r.2 x.2 y.2 z.2)
def tnL:σ→List Gl→σ × List Gl
 |s,[]=>(s,[])
 |s,g::r =>
  let x:=tnG s g
  let y:=tnL x.1 r
  (y.1,x.2::y.2)
end
def tnS (s:σ)(g:Gl):σ × Tm:=if g.k=1∨g.k=2 then F s g.k g.t else (s,g.t)
theorem tnG_eq (s:σ)(g:Gl):tnG F s g=((tnL F (tnL F (tnL F (tnS F s g).1 g.a).1 g.b).1 g.c).1,.mk g.k (tnS F s g).2 (tnL F (tnS F s g).1 g.a).2 (tnL F (tnL F (tnS F s g).1 g.a).1 g.b).2 (tnL F (tnL F (tnL F (tnS F s g).1 g.a).1 g.b).1 g.c).2):=by cases g;rw[tnG];rfl
theorem tnL_cons (s:σ)(g:Gl)(r:List Gl):tnL F s (g::r)=((tnL F (tnG F s g).1 r).1,(tnG F s g).2::(tnL F (tnG F s g).1 r).2):=by rw[tnL]
end

mutual
def trcG:Gl→Nat
 | .mk k _ a b c=>(if k=1∨k=2 then 1 else 0)+trcL a+trcL b+trcL c
def trcL:List Gl→Nat
 |[]=>0
 |g::r=>trcG g+trcL r
end
theorem trcG_eq (g:Gl):trcG g=(if g.k=1∨g.k=2 then 1 else 0)+trcL g.a+trcL g.b+trcL g.c:=by cases g;rw[trcG];rfl

theorem tn_pre {σ:Type}{F:σ→Int→Tm→σ × Tm}{P:σ→Nat→Prop}(hP:∀s k t n,P s (n+1)→P (F s k t).1 n)(l:List Gl):∀ (s:σ) (m:Nat),P s (trcL l+m)→P (tnL F s l).1 m:=by
 refine Gl.indL (p:=fun l=>∀ (s:σ) (m:Nat),P s (trcL l+m)→P (tnL F s l).1 m) (fun l hsub=>?_) l
 induction l with
 |nil=>intro s m h;rw[trcL,Nat.zero_add]at h;rw[tnL];exact h
 |cons g r ih =>
  intro s m h
  obtain⟨ha,hb,hc⟩:=hsub g (by simp)
  rw[tnL_cons]
  refine ih (fun x hx=>hsub x (by simp[hx])) _ _ ?_
  rw[tnG_eq]
  refine hc _ _ (hb _ _ (ha _ _ ?_))
  rw[trcL,trcG_eq]at h
  unfold tnS
  by_cases hk:g.k=1∨g.k=2
  ·rw [if_pos hk] at h ⊢
   refine hP _ _ _ _ ?_
   rw[show trcL g.a+(trcL g.b+(trcL g.c+(trcL r+m)))+1=1+trcL g.a+trcL g.b+trcL g.c+trcL r+m by omega];exact h
  ·rw [if_neg hk] at h ⊢
   rw[show trcL g.a+(trcL g.b+(trcL g.c+(trcL r+m)))=0+trcL g.a+trcL g.b+trcL g.c+trcL r+m by omega];exact h

mutual
theorem trcG_size:∀g:Gl,trcG g≤g.size
 | .mk k t a b c=>by
  have h1:=trcL_size a
  have h2:=trcL_size b
  have h3:=trcL_size c
  have h4:=Gl.size_eq (.mk k t a b c)
  rw[trcG]
  simp only[Gl.a,Gl.b,Gl.c,Gl.t]at h4
  have:=Tm.size_eq t
  split<;>omega
theorem trcL_size:∀l:List Gl,trcL l≤Gl.sizeL l
 |[]=>by rw[trcL];omega
 |g::r=>by
  have h1:=trcG_size g
  have h2:=trcL_size r
  rw[trcL,Gl.sizeL];omega
end

def pickAt (l:List Tm):List Int→List Tm
 |[]=>[]
 |i::r=>(if 0≤i then (l[i.toNat]?).toList else [])++pickAt l r

def shK:List Kp→Tm→Tm
 |[],t=>t
 |x::r,t=>if t.k=3∧t.s=x.s∧(t.l.length:Int)=x.n then .mk t.k t.s t.n (pickAt t.l x.at_) else shK r t

def seeF (s:List Tm × Nat)(_:Int)(t:Tm):(List Tm × Nat) × Tm:=((s.1++[t],s.2+1),t)
def nextF (L:List Tm)(i:Nat)(_:Int)(t:Tm):Nat × Tm:=(i+1,(L[i+1]?).getD t)
def shF20 (K:List Kp)(_:Unit)(k:Int)(t:Tm):Unit × Tm:=((),if k=1 then shK K t else t)

theorem tm_row_snoc (l:List Tm)(x:Tm):Tm.rows l++[[.v (.int .i64 x.k),.v (.string x.s),.v (.int .i64 x.n),.sl (Tm.rows x.l)]]=Tm.rows (l++[x]):=by
 rw[Tm.rows_eq (l++[x]),List.map_append,Tm.rows_eq l]
 cases x;rfl

theorem gl_row_snoc (l:List Gl)(x:Gl):Gl.rows l++[Gl.row x]=Gl.rows (l++[x]):=by
 rw[Gl.rows_eq,Gl.rows_eq,List.map_append];rfl
def preS (s:List Tm × Nat)(n:Nat):Prop:=s.1.length+n≤100000000
def preN (L:List Tm)(i n:Nat):Prop:=i+n<L.length∧L.length≤100000000
def preG (_:Unit)(_:Nat):Prop:=True

theorem preS_next (s:List Tm × Nat)(k:Int)(t:Tm)(n:Nat)(h:preS s (n+1)):preS (seeF s k t).1 n:=by
 unfold preS at *;simp[seeF];omega

theorem preN_next (L:List Tm)(i:Nat)(k:Int)(t:Tm)(n:Nat)(h:preN L i (n+1)):preN L (nextF L i k t).1 n:=by
 unfold preN at *;simp[nextF];omega
theorem preG_next (K:List Kp)(s:Unit)(k:Int)(t:Tm)(n:Nat)(h:preG s (n+1)):preG (shF20 K s k t).1 n:=trivial
theorem preS_le (s:List Tm × Nat)(n m:Nat)(h:preS s (n+m)):preS s n:=by unfold preS at *;omega
theorem preN_le (L:List Tm)(i n m:Nat)(h:preN L i (n+m)):preN L i n:=by unfold preN at *;omega
theorem preG_le (s:Unit)(n m:Nat)(h:preG s (n+m)):preG s n:=trivial

theorem tn_pres {σ:Type}{F:σ→Int→Tm→σ × Tm}{P:σ→Nat→Prop}(hP:∀s k t n,P s (n+1)→P (F s k t).1 n)(hM:∀s n m,P s (n+m)→P s n)(s:σ)(g:Gl)(r:List Gl)(h:P s (trcL (g::r))) :
  (g.k=1∨g.k=2→∃n,P s (n+1))∧P (tnS F s g).1 (trcL g.a)∧P (tnL F (tnS F s g).1 g.a).1 (trcL g.b)∧P (tnL F (tnL F (tnS F s g).1 g.a).1 g.b).1 (trcL g.c)∧P (tnL F (tnL F (tnL F (tnS F s g).1 g.a).1 g.b).1 g.c).1 (trcL r):=by
 rw[trcL,trcG_eq]at h
 have h1:P (tnS F s g).1 (trcL g.a+(trcL g.b+(trcL g.c+trcL r))):=by
  unfold tnS
  by_cases hk:g.k=1∨g.k=2
  ·rw [if_pos hk] at h ⊢
   refine hP _ _ _ _ ?_
   rw[show trcL g.a+(trcL g.b+(trcL g.c+trcL r))+1=1+trcL g.a+trcL g.b+trcL g.c+trcL r by omega];exact h
  ·rw [if_neg hk] at h ⊢
   rw[show trcL g.a+(trcL g.b+(trcL g.c+trcL r))=0+trcL g.a+trcL g.b+trcL g.c+trcL r by omega];exact h
 have h2:=tn_pre hP g.a _ _ h1
 have h3:=tn_pre hP g.b _ _ h2
 have h4:=tn_pre hP g.c _ _ h3
 refine⟨fun hk=>?_,hM _ _ _ h1,hM _ _ _ h2,hM _ _ _ h3,h4⟩
 rw[if_pos hk]at h
 exact⟨trcL g.a+trcL g.b+trcL g.c+trcL r,by rw[show trcL g.a+trcL g.b+trcL g.c+trcL r+1=1+trcL g.a+trcL g.b+trcL g.c+trcL r by omega];exact h⟩

def golK (K:List Kp)(l:List Gl):List Gl:=(tnL (shF20 K) () l).2
def seeC (c:Cs):(List Tm × Nat) × List Gl:=tnL seeF ([c.head],0) c.body
def numC (c:Cs):Cs:=if (numberT (seeC c).1.1).2.2=0 then ⟨((numberT (seeC c).1.1).1[0]?).getD c.head,(tnL (nextF (numberT (seeC c).1.1).1) 0 c.body).2,(numberT (seeC c).1.1).2.1⟩ else c
def filC (K:List Kp)(c:Cs):Cs:=numC ⟨shK K c.head,golK K c.body,c.vars⟩

mutual
def trmG:Gl→List Tm
 | .mk k t a b c=>(if k=1∨k=2 then [t] else [])++trmL a++trmL b++trmL c
def trmL:List Gl→List Tm
 |[]=>[]
 |g::r=>trmG g++trmL r
end

mutual
theorem trmG_len:∀g:Gl,(trmG g).length=trcG g
 | .mk k t a b c=>by
  rw[trmG,trcG,← trmL_len a,← trmL_len b,← trmL_len c]
  simp only[List.length_append]
  split<;>simp
theorem trmL_len:∀l:List Gl,(trmL l).length=trcL l
 |[]=>by rw[trmL,trcL];rfl
 |g::r=>by rw[trmL,trcL,List.length_append,trmG_len g,trmL_len r]
end

theorem sizeL_app2 (l m:List Tm):Tm.sizeL (l++m)=Tm.sizeL l+Tm.sizeL m:=by
 induction l with
 |nil=>simp[Tm.sizeL]
 |cons x r ih=>simp only[List.cons_append,Tm.sizeL,ih];omega

mutual
theorem trmG_size:∀g:Gl,Tm.sizeL (trmG g)≤g.size
 | .mk k t a b c=>by
  have h1:=trmL_size a
  have h2:=trmL_size b
  have h3:=trmL_size c
  have h4:=Gl.size_eq (.mk k t a b c)
  rw[trmG]
  simp only[Gl.a,Gl.b,Gl.c,Gl.t]at h4
  simp only[sizeL_app2]
  split<;>simp[Tm.sizeL]<;>omega
theorem trmL_size:∀l:List Gl,Tm.sizeL (trmL l)≤Gl.sizeL l
 |[]=>by rw[trmL];simp[Tm.sizeL]
 |g::r=>by
  have h1:=trmG_size g
  have h2:=trmL_size r
  rw[trmL,Gl.sizeL,sizeL_app2];omega
end

mutual
theorem see_trmG:∀ (g:Gl) (s:List Tm × Nat),(tnG seeF s g)=((s.1++trmG g,s.2+(trmG g).length),g)
 | .mk k t a b c,s=>by
  by_cases hk:k=1∨k=2
  ·have hS:tnS seeF s (.mk k t a b c)=((s.1++[t],s.2+1),t):=if_pos hk
   rw[tnG_eq,hS]
   simp only[see_trmL a,see_trmL b,see_trmL c,Gl.a,Gl.b,Gl.c,Gl.k]
   rw[trmG,if_pos hk]
   simp only[List.append_assoc,List.length_append,List.length_cons,List.length_nil,Prod.mk.injEq,true_and,and_true]
   omega
  ·have hS:tnS seeF s (.mk k t a b c)=(s,t):=if_neg hk
   rw[tnG_eq,hS]
   simp only[see_trmL a,see_trmL b,see_trmL c,Gl.a,Gl.b,Gl.c,Gl.k]
   rw[trmG,if_neg hk]
   simp only[List.append_assoc,List.length_append,List.length_nil,List.nil_append,Prod.mk.injEq,true_and,and_true]
   omega
theorem see_trmL:∀ (l:List Gl) (s:List Tm × Nat),(tnL seeF s l)=((s.1++trmL l,s.2+(trmL l).length),l)
 |[],s=>by rw[tnL,trmL];simp
 |g::r,s=>by
  rw[tnL_cons,see_trmG g,see_trmL r,trmL]
  simp[Nat.add_assoc]
end
theorem seeC_eq (c:Cs):(seeC c).1.1=c.head::trmL c.body:=by rw[seeC,see_trmL];rfl
def hdR (t:Tm):List (List D):=[[.v (.int .i64 t.k),.v (.string t.s),.v (.int .i64 t.n),.sl (Tm.rows t.l)]]
theorem hdR_eq (t:Tm):hdR t=Tm.rows [t]:=by cases t;rfl
def shrC (K:List Kp)(c:Cs):Cs:=⟨shK K c.head,golK K c.body,c.vars⟩
def filP (K:List Kp)(l:List Cs):List Cs × Int:=if (checkR l).2≠0 then ([],1) else if (checkR (l.map (filC K))).2≠0 then ([],1) else (l.map (filC K),0)
end PSL

namespace Go.Proofs.YtcgkgofmldhokaaGreat
open Go PSL Go.Proofs
def kpB (x:Kp):Ob:=.box [.d (.v (.string x.s)),.d (.v (.int .i64 x.n)),.d (.sl (irows x.at_))]

theorem shrink_ok (K:List Kp)(t:Tm)(hK:K.length≤1000000)(ha:∀x∈K,x.at_.length≤1000000)(ht:t.size≤100000000):PCtr Tryz.prog 53 [.d (.sl (kpR K)),t.av] (shK K t).av:=by
 have hrl:=kpR_len K
 have hrt:=Tm.rows_length t.l
 have hse:=Tm.size_eq t
 have hll:=tml_len t.l
 refine PCtr.of_R (pf:=pfB) tyOk mixed Tryz.func53 rfl (by kernel_rfl) (by kernel_rfl) (by simp[Tryz.ntmps53]) fun w S hg=>?_
 refine R_k hg.ok rfl rfl ?_
 refine R_loop (fun k:Nat=>([(3,.lo 0 0),(4,.lo 1 0),(10,.d (.sl (kpR K))),(11,iV K.length),(12,iV k)],[boxR t,zbT])) (fun k=>k≤K.length∧shK K t=shK (K.drop k) t) (fun k=>K.length - k) 0 ⟨Nat.zero_le _,rfl⟩ ⟨.refl _,.refl _,.refl _,by rw[hrl];exact .refl _,.refl _,trivial⟩ rfl ?_
 rintro k ⟨hk,hm⟩
 refine R_k hg.ok rfl rfl ?_
 refine R_if rfl rfl (fun h=>?_) (fun h=>?_)<;>refine R_k hg.ok rfl rfl ?_
 rotate_left
 ·have hk1:K.length≤k:=ge_dec h rfl
  rw[List.drop_eq_nil_of_le hk1,shK]at hm
  rw[hm]
  refine R_ret hg 5 rfl rfl ?_
  rfl
 have hk1:k<K.length:=lt_dec h rfl
 have e1:K[k]? = some K[k]:=List.getElem?_eq_getElem hk1
 have hal:=ha _ (List.getElem_mem hk1)
 rw[List.drop_eq_getElem_cons hk1,shK]at hm
 generalize K[k]=x at e1 hm hal
 refine R_index hg.ok rfl rfl rfl rfl rfl rfl (Int.natCast_nonneg _) (kpR_get e1) rfl ?_
 refine R_k hg.ok rfl rfl ?_
 have hnx:¬ (t.k=3∧t.s=x.s∧(t.l.length:Int)=x.n)→(k+1≤K.length∧shK K t=shK (K.drop (k+1)) t):=fun hn=>⟨hk1,by rw[hm,if_neg hn]⟩
 refine R_if rfl rfl (fun h2=>?_) (fun h2=>?_)<;>refine R_k hg.ok rfl rfl ?_
 ·have h2:¬ t.k=3:=by simpa using h2
  refine R_dropO 2 [boxR t,zbT] (Nat.zero_le _) rfl rfl ?_
  exact R_next (k+1) (hnx fun h=>h2 h.1) (by omega) ⟨.refl _,.refl _,.refl _,.refl _,Ent.wrap (by omega) (by omega) (by omega),trivial⟩ rfl
 have h2:t.k=3:=by simpa using h2
 refine R_if rfl rfl (fun h3=>?_) (fun h3=>?_)<;>refine R_k hg.ok rfl rfl ?_
 ·have h3:¬ t.s=x.s:=fun e=>by rw [Tm.strEq_iff.2 e] at h3; cases h3
  refine R_dropO 2 [boxR t,zbT] (Nat.zero_le _) rfl rfl ?_
  exact R_next (k+1) (hnx fun h=>h3 h.2.1) (by omega) ⟨.refl _,.refl _,.refl _,.refl _,Ent.wrap (by omega) (by omega) (by omega),trivial⟩ rfl
 have h3:t.s=x.s:=by
  refine Tm.strEq_iff.1 ?_
  cases hq:strEq t.s x.s with
  |true=>rfl
  |false=>rw[hq]at h3;simp at h3
 refine R_if rfl rfl (fun h4=>?_) (fun h4=>?_)<;>refine R_k hg.ok rfl rfl ?_
 ·have h4:¬ (t.l.length:Int)=x.n:=by rw [hrt] at h4; simpa using h4
  refine R_dropO 2 [boxR t,zbT] (Nat.zero_le _) rfl rfl ?_
  exact R_next (k+1) (hnx fun h=>h4 h.2.2) (by omega) ⟨.refl _,.refl _,.refl _,.refl _,Ent.wrap (by omega) (by omega) (by omega),trivial⟩ rfl
 have h4:(t.l.length:Int)=x.n:=by rw[hrt]at h4;simpa using h4
 rw[if_pos ⟨h2,h3,h4⟩]at hm
 have hirl:=irows_length x.at_
 refine R_ownB 0 3 4 rfl rfl rfl ?_
 refine R_loop (fun y:Nat × List Tm=>([(3,.lo 0 0),(4,.lo 1 0),(7,.d (.sl (Tm.rows t.l))),(38,.d (.sl (irows x.at_))),(39,iV x.at_.length),(40,iV y.1)],[.box [iV t.k,.d (.v (.string t.s)),iV t.n,.ow 3 y.2.length],zbT,kpB x,.arr 4 y.2.length (Tm.rows y.2)])) (fun y=>y.1≤x.at_.length∧y.2.length≤y.1∧pickAt t.l x.at_=y.2++pickAt t.l (x.at_.drop y.1)) (fun y=>x.at_.length - y.1) (0,[]) ⟨Nat.zero_le _,Nat.le_refl _,rfl⟩ ⟨.refl _,.refl _,.refl _,.refl _,by rw[hirl];exact .refl _,.refl _,trivial⟩ rfl ?_
 rintro⟨j,out⟩ ⟨hj,hoj,hm2⟩
 simp only at hj hoj hm2
 refine R_k hg.ok rfl rfl ?_
 refine R_if rfl rfl (fun h5=>?_) (fun h5=>?_)<;>refine R_k hg.ok rfl rfl ?_
 rotate_left
 ·have hj1:x.at_.length≤j:=ge_dec h5 rfl
  rw[List.drop_eq_nil_of_le hj1,pickAt,List.append_nil]at hm2
  rw[hm,hm2]
  refine R_ret hg 5 rfl (sealA_term rfl rfl rfl rfl) ?_
  rfl
 have hj1:j<x.at_.length:=lt_dec h5 rfl
 have e2:x.at_[j]? = some x.at_[j]:=List.getElem?_eq_getElem hj1
 rw[List.drop_eq_getElem_cons hj1,pickAt]at hm2
 generalize x.at_[j]=i at e2 hm2
 refine R_index hg.ok rfl rfl rfl rfl rfl rfl (Int.natCast_nonneg _) (irows_get e2) rfl ?_
 refine R_k hg.ok rfl rfl ?_
 have hor:=Tm.rows_length out
 have hno:(if 0≤i then (t.l[i.toNat]?).toList else [])=[]→(j+1≤x.at_.length∧out.length≤j+1∧pickAt t.l x.at_=out++pickAt t.l (x.at_.drop (j+1))):=fun hn=>⟨hj1,by omega,by rw[hm2,hn];rfl⟩
 refine R_if rfl rfl (fun h6=>?_) (fun h6=>?_)<;>refine R_k hg.ok rfl rfl ?_
 rotate_left
 ·have h6:¬ 0≤i:=by simpa using h6
  exact R_next (j+1,out) (hno (by rw[if_neg h6])) (by show x.at_.length - (j+1)<x.at_.length - j;omega) ⟨.refl _,.refl _,.refl _,.refl _,.refl _,Ent.wrap (by omega) (by omega) (by omega),trivial⟩ rfl
 have h6:0≤i:=by simpa using h6
 refine R_if rfl rfl (fun h7=>?_) (fun h7=>?_)<;>refine R_k hg.ok rfl rfl ?_
 rotate_left
 ·have h7:¬ i<t.l.length:=by rw [hrt] at h7; simpa using h7
  exact R_next (j+1,out) (hno (by rw[if_pos h6,List.getElem?_eq_none (by omega)];rfl)) (by show x.at_.length - (j+1)<x.at_.length - j;omega) ⟨.refl _,.refl _,.refl _,.refl _,.refl _,Ent.wrap (by omega) (by omega) (by omega),trivial⟩ rfl
 have h7:i<t.l.length:=by rw[hrt]at h7;simpa using h7
 have e3:t.l[i.toNat]? = some (t.l[i.toNat]'(by omega)):=List.getElem?_eq_getElem (by omega)
 rw[if_pos h6,e3]at hm2
 generalize t.l[i.toNat]'(by omega)=z at e3 hm2
 refine R_index hg.ok rfl rfl rfl rfl rfl rfl h6 (Tm.rows_get e3) rfl ?_
 refine R_k hg.ok rfl rfl ?_
 refine R_appendO hg.ok (Tm.rows (out++[z])) rfl rfl rfl rfl rfl rfl rfl rfl rfl (by simp) (by simp[one1]) (tm_row_snoc out z) (by rw[hor];simp;omega) (by rw[hor];simp;omega) ?_
 refine R_k hg.ok rfl rfl ?_
 have hsn:(out++[z]).length=Nat.succ out.length:=by simp
 exact R_next (j+1,out++[z]) ⟨hj1,by show (out++[z]).length≤j+1;omega,by rw[hm2];simp⟩ (by show x.at_.length - (j+1)<x.at_.length - j;omega) ⟨.refl _,.refl _,.refl _,.refl _,.refl _,Ent.wrap (by omega) (by omega) (by omega),trivial⟩ (by rw[hsn];rfl)
def kpX (K:List Kp):List Ob:=[.box [.d (.sl (kpR K))]]
def seeX (s:List Tm × Nat):List Ob:=[.box [.ow 1 s.2],.arr 4 s.2 (Tm.rows s.1)]
def zrD:List D:=[.v (.int .i64 0),.v (.string ByteArray.empty),.v (.int .i64 0),.v (.slice none 0 0)]
def pfSee:Nat→Cls:=fun f=>bif Nat.beq f 4000000006 then .turn 201 else bif Nat.beq f 4000200001 then .turn 10000 else bif Nat.beq f 4900100001 then .turn 100 else .eff
def nxtX (_:List Tm)(i:Nat):List Ob:=[.box [iV i]]

theorem goals1_ok (Y:YP)(K:List Kp)(t:Tm)(hK:K.length≤1000000)(ha:∀x∈K,x.at_.length≤1000000)(ht:t.size≤100000000):SCtr Tryz.prog Y 85 [t.av,.lo 0 0] (kpX K) (shK K t).av (kpX K):=by
 refine SCtr.of_R (pf:=fun _=>.eff) tyOk mixed Tryz.func85 rfl (by kernel_rfl) (by kernel_rfl) (by simp[Tryz.ntmps85]) (by simp[kpX]) fun w S φ hg=>?_
 refine R_k hg.ok rfl rfl ?_
 refine R_call hg.ok (shrink_ok K t hK ha ht) rfl rfl rfl rfl rfl rfl ?_
 refine R_k hg.ok rfl rfl ?_
 exact R_retS hg 1 5 (Nat.le_refl _) rfl rfl rfl

theorem goals2_ok (Y:YP)(t:Tm):SCtr Tryz.prog Y 86 [t.av] [] t.av []:=by
 refine SCtr.of_R (pf:=fun _=>.eff) tyOk mixed Tryz.func86 rfl (by kernel_rfl) (by kernel_rfl) (by simp[Tryz.ntmps86]) (by simp[kpX]) fun w S φ hg=>?_
 refine R_k hg.ok rfl rfl ?_
 exact R_retS hg 0 5 (Nat.le_refl _) rfl rfl rfl

theorem see_ok (Y:YP)(s:List Tm × Nat)(t:Tm)(hs:s.1.length≤100000000):SCtr Tryz.prog Y 110 [t.av,.lo 0 0] (seeX s) t.av (seeX (seeF s 0 t).1):=by
 obtain⟨l,n⟩:=s
 simp only at hs
 have hrl:=Tm.rows_length l
 refine SCtr.of_R (pf:=pfSee) tyOk mixed Tryz.func110 rfl (by kernel_rfl) (by kernel_rfl) (by simp[Tryz.ntmps110]) (by simp[seeX]) fun w S φ hg=>?_
 refine R_k hg.ok rfl rfl ?_
 refine R_pair4 hg.ok 6 7 (by kernel_rfl) (by kernel_rfl) ?_ ?_
 ·refine R_run hg.ok 1000 rfl rfl ?_
  refine R_lenO hg.ok rfl rfl rfl rfl rfl (n:=(l.length:Int)) (by rw[hrl]) ?_
  refine R_k hg.ok rfl rfl ?_
  refine R_appendO hg.ok (Tm.rows l++[zrD]) rfl rfl rfl rfl rfl rfl rfl rfl rfl (by simp) (by simp[one1]) rfl (by rw[hrl];simp;omega) (by rw[hrl];simp;omega) ?_
  refine R_k hg.ok rfl rfl ?_
  refine R_indexOJ hg.ok 10000 rfl rfl rfl (by unfold mayO;simp[Ob.isBox,Ob.lvl]) rfl rfl rfl rfl rfl rfl (by omega) (by simp[hrl]) ?_
  refine R_k hg.ok rfl rfl ?_
  refine R_storeEO hg.ok (Tm.rows (l++[t])) rfl rfl rfl rfl rfl (row:=zrD) (by rw[List.getElem?_append_right (by rw[hrl];simp)];simp[hrl]) rfl rfl rfl (by decide) (by rw[List.set_append_right _ _ (by rw[hrl];simp),← tm_row_snoc l t];simp[hrl];rfl) ?_
  refine R_k hg.ok rfl rfl ?_
  refine R_storeB hg.ok rfl rfl rfl rfl rfl rfl rfl rfl rfl ?_
  refine R_k hg.ok rfl rfl ?_
  exact R_retS hg 2 5 (Nat.le_refl _) rfl rfl rfl
 ·refine R_run hg.ok 1000 rfl rfl ?_
  refine R_lenO hg.ok rfl rfl rfl rfl rfl (n:=(l.length:Int)) (by rw[hrl]) ?_
  refine R_k hg.ok rfl rfl ?_
  refine R_appendO hg.ok (Tm.rows l++[zrD]) rfl rfl rfl rfl rfl rfl rfl rfl rfl (by simp) (by simp[one1]) rfl (by rw[hrl];simp;omega) (by rw[hrl];simp;omega) ?_
  refine R_k hg.ok rfl rfl ?_
  refine R_indexOJ hg.ok 10000 rfl rfl rfl (by unfold mayO;simp[Ob.isBox,Ob.lvl]) rfl rfl rfl rfl rfl rfl (by omega) (by simp[hrl]) ?_
  refine R_k hg.ok rfl rfl ?_
  refine R_storeB hg.ok rfl rfl rfl rfl rfl rfl rfl rfl rfl ?_
  refine R_k hg.ok rfl rfl ?_
  refine R_storeEO hg.ok (Tm.rows (l++[t])) rfl rfl rfl rfl rfl (row:=zrD) (by rw[List.getElem?_append_right (by rw[hrl];simp)];simp[hrl]) rfl rfl rfl (by decide) (by rw[List.set_append_right _ _ (by rw[hrl];simp),← tm_row_snoc l t];simp[hrl];rfl) ?_
  refine R_k hg.ok rfl rfl ?_
  exact R_retS hg 2 5 (Nat.le_refl _) rfl rfl rfl

theorem next_ok (Y:YP)(L:List Tm)(i:Nat)(x t:Tm)(hi:i+1<100000000)(hx:L[i+1]? = some x):SCtr Tryz.prog Y 112 [t.av,.lo 0 0,.d (.ptr [.sl (Tm.rows L)])] (nxtX L i) x.av (nxtX L (i+1)):=by
 refine SCtr.of_R (pf:=fun _=>.eff) tyOk mixed Tryz.func112 rfl (by kernel_rfl) (by kernel_rfl) (by simp[Tryz.ntmps112]) (by simp[nxtX]) fun w S φ hg=>?_
 refine R_k hg.ok rfl rfl ?_
 have hw:IntKind.i64.wrap ((i:Int)+1)=((i+1:Nat):Int):=by rw[w64 (by omega) (by omega)];push_cast;rfl
 rw[hw]
 refine R_index hg.ok rfl rfl rfl rfl rfl rfl (Int.natCast_nonneg _) (Tm.rows_get hx) rfl ?_
 refine R_k hg.ok rfl rfl ?_
 exact R_retS hg 1 5 (Nat.le_refl _) rfl rfl rfl
def kpU (K:List Kp)(_:Unit):List Ob:=kpX K
theorem seeP_ok (Y:YP)(s:List Tm × Nat)(k:Int)(t:Tm)(n:Nat)(h:preS s (n+1)):SCtr Tryz.prog Y 110 [t.av,.lo 0 0] (seeX s) (seeF s k t).2.av (seeX (seeF s k t).1):=see_ok Y s t (by unfold preS at h;omega)

theorem nextP_ok (Y:YP)(L:List Tm)(i:Nat)(k:Int)(t:Tm)(n:Nat)(h:preN L i (n+1)):SCtr Tryz.prog Y 112 [t.av,.lo 0 0,.d (.ptr [.sl (Tm.rows L)])] (nxtX L i) (nextF L i k t).2.av (nxtX L (nextF L i k t).1):=by
 unfold preN at h
 have hx:L[i+1]? = some (L[i+1]'(by omega)):=List.getElem?_eq_getElem (by omega)
 have:=next_ok Y L i (L[i+1]'(by omega)) t (by omega) hx
 rw[nextF,hx]
 exact this
theorem goals1P_ok (Y:YP)(K:List Kp)(s:Unit)(t:Tm)(hK:K.length≤1000000)(ha:∀x∈K,x.at_.length≤1000000)(ht:t.size≤100000000):SCtr Tryz.prog Y 85 [t.av,.lo 0 0] (kpU K s) (shF20 K s 1 t).2.av (kpU K (shF20 K s 1 t).1):=goals1_ok Y K t hK ha ht
theorem goals2P_ok (Y:YP)(K:List Kp)(s:Unit)(t:Tm):SCtr Tryz.prog Y 86 [t.av] [] (shF20 K s 2 t).2.av []:=goals2_ok Y t
def pfTn:Nat→Cls:=fun f=>bif Nat.beq f 4000100032 then .look 4 else bif Nat.beq f 4000100037 then .look 4 else bif Nat.beq f 4000100042 then .look 4 else bif Nat.beq f 84 then .turn 3 else .eff

theorem turned20S_ok (Y:YP)(_:Unit)(l:List Gl):∀s:List Tm × Nat,Gl.sizeL l≤100000000→preS s (trcL l)→SCtr Tryz.prog Y 84 [.d (.sl (Gl.rows l)),.clo 110 [] [.lo 0 0],.clo 110 [] [.lo 0 0]] (seeX s) (.d (.sl (Gl.rows (tnL seeF s l).2))) (seeX (tnL seeF s l).1):=by
 refine Gl.indL (p:=fun l=>∀s:List Tm × Nat,Gl.sizeL l≤100000000→preS s (trcL l)→SCtr Tryz.prog Y 84 [.d (.sl (Gl.rows l)),.clo 110 [] [.lo 0 0],.clo 110 [] [.lo 0 0]] (seeX s) (.d (.sl (Gl.rows (tnL seeF s l).2))) (seeX (tnL seeF s l).1)) (fun l hsub=>?_) l
 intro s0 hsz hs0
 have hrl:=Gl.rows_length l
 have hll:=Gl.len_size l
 refine SCtr.of_R (pf:=pfTn) tyOk mixed Tryz.func84 rfl (by kernel_rfl) (by kernel_rfl) (by simp[Tryz.ntmps84]) (by simp[seeX]) fun w S φ hg=>?_
 have hφ:φ.length=2:=hg.hs0.len
 have h01:∀i∈[0,1],i<φ.length:=fun i hi=>by simp at hi;omega
 refine R_k hg.ok rfl rfl ?_
 refine R_own 7 8 rfl rfl ?_
 refine R_loop (fun x:Nat × (List Tm × Nat) × List Gl=>([(1,.clo 110 [] [.lo 0 0]),(2,.clo 110 [] [.lo 0 0]),(7,.ow 2 x.2.2.length),(10,.d (.sl (Gl.rows l))),(11,iV l.length),(12,iV x.1)],seeX x.2.1++[.arr 8 x.2.2.length (Gl.rows x.2.2)])) (fun x=>x.1≤l.length∧x.2.2.length=x.1∧preS x.2.1 (trcL (l.drop x.1))∧tnL seeF s0 l=((tnL seeF x.2.1 (l.drop x.1)).1,x.2.2++(tnL seeF x.2.1 (l.drop x.1)).2)) (fun x=>l.length - x.1) (0,s0,[]) ⟨Nat.zero_le _,rfl,hs0,rfl⟩ ⟨.refl _,.refl _,.refl _,.refl _,by rw[hrl];exact .refl _,.refl _,trivial⟩ rfl ?_
 rintro⟨k,s,out⟩ ⟨hk,hout,hs,hm⟩
 simp only at hk hout hs hm
 refine R_k hg.ok rfl rfl ?_
 refine R_if rfl rfl (fun h=>?_) (fun h=>?_)<;>refine R_k hg.ok rfl rfl ?_
 rotate_left
 ·have hk1:l.length≤k:=ge_dec h rfl
  rw[List.drop_eq_nil_of_le hk1,tnL,List.append_nil]at hm
  rw[hm]
  exact R_retS hg 2 5 (Nat.le_refl _) rfl (sealT_ow rfl rfl) rfl
 have hk1:k<l.length:=lt_dec h rfl
 have e1:l[k]? = some l[k]:=List.getElem?_eq_getElem hk1
 rw[List.drop_eq_getElem_cons hk1]at hm hs
 rw[tnL_cons]at hm
 have hmem:=List.getElem_mem hk1
 have hgs:=Gl.size_mem hmem
 obtain⟨sa,sb,sc⟩:=hsub _ hmem
 generalize l[k]=g at e1 hm hs hmem hgs sa sb sc
 have hge:=Gl.size_eq g
 have htp:=Gl.tmPos g.t
 obtain⟨hs0',hs1,hs2,hs3,hs4⟩:=tn_pres (F:=seeF) (P:=preS) preS_next preS_le s g _ hs
 have hG:=tnG_eq seeF s g
 refine R_index hg.ok rfl rfl rfl rfl rfl rfl (Int.natCast_nonneg _) (Gl.rows_get e1) rfl ?_
 refine R_k hg.ok rfl rfl ?_
 refine R_cut2 (fun x:(List Tm × Nat) × Tm=>([(1,.clo 110 [] [.lo 0 0]),(2,.clo 110 [] [.lo 0 0]),(7,.ow 2 out.length),(9,.lo 3 0),(10,.d (.sl (Gl.rows l))),(11,iV l.length),(12,iV k)],seeX x.1++[.arr 8 out.length (Gl.rows out),glz g x.2 g.a g.b g.c])) (fun x=>x=tnS seeF s g) rfl ?_ ?_
 ·by_cases k1:g.k=1
  ·refine R_if rfl rfl (fun _=>?_) (fun h=>absurd h (by simp [k1])) <;> refine R_run hg.ok 1000 rfl rfl ?_
   obtain⟨n0,hn0⟩:=hs0' (.inl k1)
   refine R_callSO hg.ok hg.gup hg.wide hg.Y [0,1] (seeX (seeF s 1 g.t).1++[.arr 8 out.length (Gl.rows out),glz g g.t g.a g.b g.c]) (seeP_ok Y s 1 g.t n0 hn0) (fun _=>rfl) rfl rfl rfl rfl rfl rfl rfl rfl ?_
   refine R_k hg.ok rfl rfl ?_
   exact R_to (seeF s 1 g.t) (by rw[tnS,if_pos (.inl k1),k1]) ⟨.refl _,.refl _,.refl _,.refl _,.refl _,.refl _,.refl _,trivial⟩ rfl
  refine R_if rfl rfl (fun h=>absurd h (by simp[k1])) (fun _=>?_)<;>refine R_k hg.ok rfl rfl ?_
  by_cases k2:g.k=2
  ·refine R_if rfl rfl (fun _=>?_) (fun h=>absurd h (by simp [k2])) <;> refine R_run hg.ok 1000 rfl rfl ?_
   obtain⟨n0,hn0⟩:=hs0' (.inr k2)
   refine R_callSO hg.ok hg.gup hg.wide hg.Y [0,1] (seeX (seeF s 2 g.t).1++[.arr 8 out.length (Gl.rows out),glz g g.t g.a g.b g.c]) (seeP_ok Y s 2 g.t n0 hn0) (fun _=>rfl) rfl rfl rfl rfl rfl rfl rfl rfl ?_
   refine R_k hg.ok rfl rfl ?_
   exact R_to (seeF s 2 g.t) (by rw[tnS,if_pos (.inr k2),k2]) ⟨.refl _,.refl _,.refl _,.refl _,.refl _,.refl _,.refl _,trivial⟩ rfl
  refine R_if rfl rfl (fun h=>absurd h (by simp[k2])) (fun _=>?_)<;>refine R_k hg.ok rfl rfl ?_
  exact R_to (s,g.t) (by rw[tnS,if_neg (by omega)]) ⟨.refl _,.refl _,.refl _,.refl _,.refl _,.refl _,.refl _,trivial⟩ rfl
 rintro⟨s1,t1⟩ hst
 rw[← hst]at hG hs1 hs2 hs3 hs4
 simp only at hG hs1 hs2 hs3 hs4
 refine R_k hg.ok rfl rfl ?_
 refine R_load4 hg.ok (by show φ.length≤3;omega) rfl rfl rfl rfl rfl rfl rfl ?_
 refine R_k hg.ok rfl rfl ?_
 have ha:=sa s1 (by omega) hs1
 generalize tnL seeF s1 g.a=A at ha hG hs2 hs3 hs4
 refine R_callS3 hg.ok hg.gup hg.wide hg.Y [0,1] (seeX A.1++[.arr 8 out.length (Gl.rows out),glz g t1 g.a g.b g.c]) ha (fun _=>rfl) h01 rfl rfl rfl rfl rfl rfl rfl rfl ?_
 refine R_k hg.ok rfl rfl ?_
 refine R_load4 hg.ok (by show φ.length≤3;omega) rfl rfl rfl rfl rfl rfl rfl ?_
 refine R_k hg.ok rfl rfl ?_
 have hb:=sb A.1 (by omega) hs2
 generalize tnL seeF A.1 g.b=B at hb hG hs3 hs4
 refine R_callS3 hg.ok hg.gup hg.wide hg.Y [0,1] (seeX B.1++[.arr 8 out.length (Gl.rows out),glz g t1 g.a g.b g.c]) hb (fun _=>rfl) h01 rfl rfl rfl rfl rfl rfl rfl rfl ?_
 refine R_k hg.ok rfl rfl ?_
 refine R_load4 hg.ok (by show φ.length≤3;omega) rfl rfl rfl rfl rfl rfl rfl ?_
 refine R_k hg.ok rfl rfl ?_
 have hc:=sc B.1 (by omega) hs3
 generalize tnL seeF B.1 g.c=C at hc hG hs4
 refine R_callS3 hg.ok hg.gup hg.wide hg.Y [0,1] (seeX C.1++[.arr 8 out.length (Gl.rows out),glz g t1 g.a g.b g.c]) hc (fun _=>rfl) h01 rfl rfl rfl rfl rfl rfl rfl rfl ?_
 refine R_k hg.ok rfl rfl ?_
 have hor:=Gl.rows_length out
 rw[hG]at hm
 simp only at hm
 refine R_appendO hg.ok (Gl.rows (out++[Gl.mk g.k t1 A.2 B.2 C.2])) rfl rfl rfl rfl rfl rfl rfl rfl rfl (by simp) (by simp[one1]) (gl_row_snoc out (Gl.mk g.k t1 A.2 B.2 C.2)) (by rw[hor];simp;omega) (by rw[hor];simp;omega) ?_
 refine R_k hg.ok rfl rfl ?_
 have hsn:(out++[Gl.mk g.k t1 A.2 B.2 C.2]).length=Nat.succ out.length:=by simp
 refine R_dropO 3 (seeX C.1++[.arr 8 (Nat.succ out.length) (Gl.rows (out++[Gl.mk g.k t1 A.2 B.2 C.2]))]) (by show φ.length≤3;omega) rfl rfl ?_
 exact R_next (k+1,C.1,out++[Gl.mk g.k t1 A.2 B.2 C.2]) ⟨hk1,by show (out++[Gl.mk g.k t1 A.2 B.2 C.2]).length=k+1;omega,hs4,by rw[hm];simp⟩ (by show l.length - (k+1)<l.length - k;omega) ⟨.refl _,.refl _,by rw[hsn];exact .refl _,.refl _,.refl _,Ent.wrap (by omega) (by omega) (by omega),trivial⟩ (by rw[hsn])

theorem turned20N_ok (Y:YP)(L:List Tm)(l:List Gl):∀s:Nat,Gl.sizeL l≤100000000→(preN L) s (trcL l)→SCtr Tryz.prog Y 84 [.d (.sl (Gl.rows l)),.clo 112 [] [.lo 0 0,.d (.ptr [.sl (Tm.rows L)])],.clo 112 [] [.lo 0 0,.d (.ptr [.sl (Tm.rows L)])]] ((nxtX L) s) (.d (.sl (Gl.rows (tnL (nextF L) s l).2))) ((nxtX L) (tnL (nextF L) s l).1):=by
 refine Gl.indL (p:=fun l=>∀s:Nat,Gl.sizeL l≤100000000→(preN L) s (trcL l)→SCtr Tryz.prog Y 84 [.d (.sl (Gl.rows l)),.clo 112 [] [.lo 0 0,.d (.ptr [.sl (Tm.rows L)])],.clo 112 [] [.lo 0 0,.d (.ptr [.sl (Tm.rows L)])]] ((nxtX L) s) (.d (.sl (Gl.rows (tnL (nextF L) s l).2))) ((nxtX L) (tnL (nextF L) s l).1)) (fun l hsub=>?_) l
 intro s0 hsz hs0
 have hrl:=Gl.rows_length l
 have hll:=Gl.len_size l
 refine SCtr.of_R (pf:=pfTn) tyOk mixed Tryz.func84 rfl (by kernel_rfl) (by kernel_rfl) (by simp[Tryz.ntmps84]) (by simp[nxtX]) fun w S φ hg=>?_
 have hφ:φ.length=1:=hg.hs0.len
 have h01:∀i∈[0],i<φ.length:=fun i hi=>by simp at hi;omega
 refine R_k hg.ok rfl rfl ?_
 refine R_own 7 8 rfl rfl ?_
 refine R_loop (fun x:Nat × (Nat) × List Gl=>([(1,.clo 112 [] [.lo 0 0,.d (.ptr [.sl (Tm.rows L)])]),(2,.clo 112 [] [.lo 0 0,.d (.ptr [.sl (Tm.rows L)])]),(7,.ow 1 x.2.2.length),(10,.d (.sl (Gl.rows l))),(11,iV l.length),(12,iV x.1)],(nxtX L) x.2.1++[.arr 8 x.2.2.length (Gl.rows x.2.2)])) (fun x=>x.1≤l.length∧x.2.2.length=x.1∧(preN L) x.2.1 (trcL (l.drop x.1))∧tnL (nextF L) s0 l=((tnL (nextF L) x.2.1 (l.drop x.1)).1,x.2.2++(tnL (nextF L) x.2.1 (l.drop x.1)).2)) (fun x=>l.length - x.1) (0,s0,[]) ⟨Nat.zero_le _,rfl,hs0,rfl⟩ ⟨.refl _,.refl _,.refl _,.refl _,by rw[hrl];exact .refl _,.refl _,trivial⟩ rfl ?_
 rintro⟨k,s,out⟩ ⟨hk,hout,hs,hm⟩
 simp only at hk hout hs hm
 refine R_k hg.ok rfl rfl ?_
 refine R_if rfl rfl (fun h=>?_) (fun h=>?_)<;>refine R_k hg.ok rfl rfl ?_
 rotate_left
 ·have hk1:l.length≤k:=ge_dec h rfl
  rw[List.drop_eq_nil_of_le hk1,tnL,List.append_nil]at hm
  rw[hm]
  exact R_retS hg 1 5 (Nat.le_refl _) rfl (sealT_ow rfl rfl) rfl
 have hk1:k<l.length:=lt_dec h rfl
 have e1:l[k]? = some l[k]:=List.getElem?_eq_getElem hk1
 rw[List.drop_eq_getElem_cons hk1]at hm hs
 rw[tnL_cons]at hm
 have hmem:=List.getElem_mem hk1
 have hgs:=Gl.size_mem hmem
 obtain⟨sa,sb,sc⟩:=hsub _ hmem
 generalize l[k]=g at e1 hm hs hmem hgs sa sb sc
 have hge:=Gl.size_eq g
 have htp:=Gl.tmPos g.t
 obtain⟨hs0',hs1,hs2,hs3,hs4⟩:=tn_pres (F:=(nextF L)) (P:=(preN L)) (preN_next L) (preN_le L) s g _ hs
 have hG:=tnG_eq (nextF L) s g
 refine R_index hg.ok rfl rfl rfl rfl rfl rfl (Int.natCast_nonneg _) (Gl.rows_get e1) rfl ?_
 refine R_k hg.ok rfl rfl ?_
 refine R_cut2 (fun x:(Nat) × Tm=>([(1,.clo 112 [] [.lo 0 0,.d (.ptr [.sl (Tm.rows L)])]),(2,.clo 112 [] [.lo 0 0,.d (.ptr [.sl (Tm.rows L)])]),(7,.ow 1 out.length),(9,.lo 2 0),(10,.d (.sl (Gl.rows l))),(11,iV l.length),(12,iV k)],(nxtX L) x.1++[.arr 8 out.length (Gl.rows out),glz g x.2 g.a g.b g.c])) (fun x=>x=tnS (nextF L) s g) rfl ?_ ?_
 ·by_cases k1:g.k=1
  ·refine R_if rfl rfl (fun _=>?_) (fun h=>absurd h (by simp [k1])) <;> refine R_run hg.ok 1000 rfl rfl ?_
   obtain⟨n0,hn0⟩:=hs0' (.inl k1)
   refine R_callSO hg.ok hg.gup hg.wide hg.Y [0] ((nxtX L) ((nextF L) s 1 g.t).1++[.arr 8 out.length (Gl.rows out),glz g g.t g.a g.b g.c]) (nextP_ok Y L s 1 g.t n0 hn0) (fun _=>rfl) rfl rfl rfl rfl rfl rfl rfl rfl ?_
   refine R_k hg.ok rfl rfl ?_
   exact R_to ((nextF L) s 1 g.t) (by rw[tnS,if_pos (.inl k1),k1]) ⟨.refl _,.refl _,.refl _,.refl _,.refl _,.refl _,.refl _,trivial⟩ rfl
  refine R_if rfl rfl (fun h=>absurd h (by simp[k1])) (fun _=>?_)<;>refine R_k hg.ok rfl rfl ?_
  by_cases k2:g.k=2
  ·refine R_if rfl rfl (fun _=>?_) (fun h=>absurd h (by simp [k2])) <;> refine R_run hg.ok 1000 rfl rfl ?_
   obtain⟨n0,hn0⟩:=hs0' (.inr k2)
   refine R_callSO hg.ok hg.gup hg.wide hg.Y [0] ((nxtX L) ((nextF L) s 2 g.t).1++[.arr 8 out.length (Gl.rows out),glz g g.t g.a g.b g.c]) (nextP_ok Y L s 2 g.t n0 hn0) (fun _=>rfl) rfl rfl rfl rfl rfl rfl rfl rfl ?_
   refine R_k hg.ok rfl rfl ?_
   exact R_to ((nextF L) s 2 g.t) (by rw[tnS,if_pos (.inr k2),k2]) ⟨.refl _,.refl _,.refl _,.refl _,.refl _,.refl _,.refl _,trivial⟩ rfl
  refine R_if rfl rfl (fun h=>absurd h (by simp[k2])) (fun _=>?_)<;>refine R_k hg.ok rfl rfl ?_
  exact R_to (s,g.t) (by rw[tnS,if_neg (by omega)]) ⟨.refl _,.refl _,.refl _,.refl _,.refl _,.refl _,.refl _,trivial⟩ rfl
 rintro⟨s1,t1⟩ hst
 rw[← hst]at hG hs1 hs2 hs3 hs4
 simp only at hG hs1 hs2 hs3 hs4
 refine R_k hg.ok rfl rfl ?_
 refine R_load4 hg.ok (by show φ.length≤2;omega) rfl rfl rfl rfl rfl rfl rfl ?_
 refine R_k hg.ok rfl rfl ?_
 have ha:=sa s1 (by omega) hs1
 generalize tnL (nextF L) s1 g.a=A at ha hG hs2 hs3 hs4
 refine R_callS3 hg.ok hg.gup hg.wide hg.Y [0] ((nxtX L) A.1++[.arr 8 out.length (Gl.rows out),glz g t1 g.a g.b g.c]) ha (fun _=>rfl) h01 rfl rfl rfl rfl rfl rfl rfl rfl ?_
 refine R_k hg.ok rfl rfl ?_
 refine R_load4 hg.ok (by show φ.length≤2;omega) rfl rfl rfl rfl rfl rfl rfl ?_
 refine R_k hg.ok rfl rfl ?_
 have hb:=sb A.1 (by omega) hs2
 generalize tnL (nextF L) A.1 g.b=B at hb hG hs3 hs4
 refine R_callS3 hg.ok hg.gup hg.wide hg.Y [0] ((nxtX L) B.1++[.arr 8 out.length (Gl.rows out),glz g t1 g.a g.b g.c]) hb (fun _=>rfl) h01 rfl rfl rfl rfl rfl rfl rfl rfl ?_
 refine R_k hg.ok rfl rfl ?_
 refine R_load4 hg.ok (by show φ.length≤2;omega) rfl rfl rfl rfl rfl rfl rfl ?_
 refine R_k hg.ok rfl rfl ?_
 have hc:=sc B.1 (by omega) hs3
 generalize tnL (nextF L) B.1 g.c=C at hc hG hs4
 refine R_callS3 hg.ok hg.gup hg.wide hg.Y [0] ((nxtX L) C.1++[.arr 8 out.length (Gl.rows out),glz g t1 g.a g.b g.c]) hc (fun _=>rfl) h01 rfl rfl rfl rfl rfl rfl rfl rfl ?_
 refine R_k hg.ok rfl rfl ?_
 have hor:=Gl.rows_length out
 rw[hG]at hm
 simp only at hm
 refine R_appendO hg.ok (Gl.rows (out++[Gl.mk g.k t1 A.2 B.2 C.2])) rfl rfl rfl rfl rfl rfl rfl rfl rfl (by simp) (by simp[one1]) (gl_row_snoc out (Gl.mk g.k t1 A.2 B.2 C.2)) (by rw[hor];simp;omega) (by rw[hor];simp;omega) ?_
 refine R_k hg.ok rfl rfl ?_
 have hsn:(out++[Gl.mk g.k t1 A.2 B.2 C.2]).length=Nat.succ out.length:=by simp
 refine R_dropO 2 ((nxtX L) C.1++[.arr 8 (Nat.succ out.length) (Gl.rows (out++[Gl.mk g.k t1 A.2 B.2 C.2]))]) (by show φ.length≤2;omega) rfl rfl ?_
 exact R_next (k+1,C.1,out++[Gl.mk g.k t1 A.2 B.2 C.2]) ⟨hk1,by show (out++[Gl.mk g.k t1 A.2 B.2 C.2]).length=k+1;omega,hs4,by rw[hm];simp⟩ (by show l.length - (k+1)<l.length - k;omega) ⟨.refl _,.refl _,by rw[hsn];exact .refl _,.refl _,.refl _,Ent.wrap (by omega) (by omega) (by omega),trivial⟩ (by rw[hsn])

theorem turned20G_ok (Y:YP)(K:List Kp)(hK:K.length≤1000000)(ha:∀x∈K,x.at_.length≤1000000)(l:List Gl):∀s:Unit,Gl.sizeL l≤100000000→preG s (trcL l)→SCtr Tryz.prog Y 84 [.d (.sl (Gl.rows l)),.clo 85 [] [.lo 0 0],.clo 86 [] []] ((kpU K) s) (.d (.sl (Gl.rows (tnL (shF20 K) s l).2))) ((kpU K) (tnL (shF20 K) s l).1):=by
 refine Gl.indL (p:=fun l=>∀s:Unit,Gl.sizeL l≤100000000→preG s (trcL l)→SCtr Tryz.prog Y 84 [.d (.sl (Gl.rows l)),.clo 85 [] [.lo 0 0],.clo 86 [] []] ((kpU K) s) (.d (.sl (Gl.rows (tnL (shF20 K) s l).2))) ((kpU K) (tnL (shF20 K) s l).1)) (fun l hsub=>?_) l
 intro s0 hsz hs0
 have hrl:=Gl.rows_length l
 have hll:=Gl.len_size l
 refine SCtr.of_R (pf:=pfTn) tyOk mixed Tryz.func84 rfl (by kernel_rfl) (by kernel_rfl) (by simp[Tryz.ntmps84]) (by simp[kpU,kpX]) fun w S φ hg=>?_
 have hφ:φ.length=1:=hg.hs0.len
 have h01:∀i∈[0],i<φ.length:=fun i hi=>by simp at hi;omega
 refine R_k hg.ok rfl rfl ?_
 refine R_own 7 8 rfl rfl ?_
 refine R_loop (fun x:Nat × (Unit) × List Gl=>([(1,.clo 85 [] [.lo 0 0]),(2,.clo 86 [] []),(7,.ow 1 x.2.2.length),(10,.d (.sl (Gl.rows l))),(11,iV l.length),(12,iV x.1)],(kpU K) x.2.1++[.arr 8 x.2.2.length (Gl.rows x.2.2)])) (fun x=>x.1≤l.length∧x.2.2.length=x.1∧preG x.2.1 (trcL (l.drop x.1))∧tnL (shF20 K) s0 l=((tnL (shF20 K) x.2.1 (l.drop x.1)).1,x.2.2++(tnL (shF20 K) x.2.1 (l.drop x.1)).2)) (fun x=>l.length - x.1) (0,s0,[]) ⟨Nat.zero_le _,rfl,hs0,rfl⟩ ⟨.refl _,.refl _,.refl _,.refl _,by rw[hrl];exact .refl _,.refl _,trivial⟩ rfl ?_
 rintro⟨k,s,out⟩ ⟨hk,hout,hs,hm⟩
 simp only at hk hout hs hm
 refine R_k hg.ok rfl rfl ?_
 refine R_if rfl rfl (fun h=>?_) (fun h=>?_)<;>refine R_k hg.ok rfl rfl ?_
 rotate_left
 ·have hk1:l.length≤k:=ge_dec h rfl
  rw[List.drop_eq_nil_of_le hk1,tnL,List.append_nil]at hm
  rw[hm]
  exact R_retS hg 1 5 (Nat.le_refl _) rfl (sealT_ow rfl rfl) rfl
 have hk1:k<l.length:=lt_dec h rfl
 have e1:l[k]? = some l[k]:=List.getElem?_eq_getElem hk1
 rw[List.drop_eq_getElem_cons hk1]at hm hs
 rw[tnL_cons]at hm
 have hmem:=List.getElem_mem hk1
 have hgs:=Gl.size_mem hmem
 obtain⟨sa,sb,sc⟩:=hsub _ hmem
 generalize l[k]=g at e1 hm hs hmem hgs sa sb sc
 have hge:=Gl.size_eq g
 have htp:=Gl.tmPos g.t
 obtain⟨hs0',hs1,hs2,hs3,hs4⟩:=tn_pres (F:=(shF20 K)) (P:=preG) (preG_next K) preG_le s g _ hs
 have hG:=tnG_eq (shF20 K) s g
 refine R_index hg.ok rfl rfl rfl rfl rfl rfl (Int.natCast_nonneg _) (Gl.rows_get e1) rfl ?_
 refine R_k hg.ok rfl rfl ?_
 refine R_cut2 (fun x:(Unit) × Tm=>([(1,.clo 85 [] [.lo 0 0]),(2,.clo 86 [] []),(7,.ow 1 out.length),(9,.lo 2 0),(10,.d (.sl (Gl.rows l))),(11,iV l.length),(12,iV k)],(kpU K) x.1++[.arr 8 out.length (Gl.rows out),glz g x.2 g.a g.b g.c])) (fun x=>x=tnS (shF20 K) s g) rfl ?_ ?_
 ·by_cases k1:g.k=1
  ·refine R_if rfl rfl (fun _=>?_) (fun h=>absurd h (by simp [k1])) <;> refine R_run hg.ok 1000 rfl rfl ?_
   obtain⟨n0,hn0⟩:=hs0' (.inl k1)
   refine R_callSO hg.ok hg.gup hg.wide hg.Y [0] ((kpU K) ((shF20 K) s 1 g.t).1++[.arr 8 out.length (Gl.rows out),glz g g.t g.a g.b g.c]) (goals1P_ok Y K s g.t hK ha (by omega)) (fun _=>rfl) rfl rfl rfl rfl rfl rfl rfl rfl ?_
   refine R_k hg.ok rfl rfl ?_
   exact R_to ((shF20 K) s 1 g.t) (by rw[tnS,if_pos (.inl k1),k1]) ⟨.refl _,.refl _,.refl _,.refl _,.refl _,.refl _,.refl _,trivial⟩ rfl
  refine R_if rfl rfl (fun h=>absurd h (by simp[k1])) (fun _=>?_)<;>refine R_k hg.ok rfl rfl ?_
  by_cases k2:g.k=2
  ·refine R_if rfl rfl (fun _=>?_) (fun h=>absurd h (by simp [k2])) <;> refine R_run hg.ok 1000 rfl rfl ?_
   obtain⟨n0,hn0⟩:=hs0' (.inr k2)
   refine R_callSO hg.ok hg.gup hg.wide hg.Y [] ((kpU K) ((shF20 K) s 2 g.t).1++[.arr 8 out.length (Gl.rows out),glz g g.t g.a g.b g.c]) (goals2P_ok Y K s g.t) (fun _=>rfl) rfl rfl rfl rfl rfl rfl rfl rfl ?_
   refine R_k hg.ok rfl rfl ?_
   exact R_to ((shF20 K) s 2 g.t) (by rw[tnS,if_pos (.inr k2),k2]) ⟨.refl _,.refl _,.refl _,.refl _,.refl _,.refl _,.refl _,trivial⟩ rfl
  refine R_if rfl rfl (fun h=>absurd h (by simp[k2])) (fun _=>?_)<;>refine R_k hg.ok rfl rfl ?_
  exact R_to (s,g.t) (by rw[tnS,if_neg (by omega)]) ⟨.refl _,.refl _,.refl _,.refl _,.refl _,.refl _,.refl _,trivial⟩ rfl
 rintro⟨s1,t1⟩ hst
 rw[← hst]at hG hs1 hs2 hs3 hs4
 simp only at hG hs1 hs2 hs3 hs4
 refine R_k hg.ok rfl rfl ?_
 refine R_load4 hg.ok (by show φ.length≤2;omega) rfl rfl rfl rfl rfl rfl rfl ?_
 refine R_k hg.ok rfl rfl ?_
 have ha:=sa s1 (by omega) hs1
 generalize tnL (shF20 K) s1 g.a=A at ha hG hs2 hs3 hs4
 refine R_callS3 hg.ok hg.gup hg.wide hg.Y [0] ((kpU K) A.1++[.arr 8 out.length (Gl.rows out),glz g t1 g.a g.b g.c]) ha (fun _=>rfl) h01 rfl rfl rfl rfl rfl rfl rfl rfl ?_
 refine R_k hg.ok rfl rfl ?_
 refine R_load4 hg.ok (by show φ.length≤2;omega) rfl rfl rfl rfl rfl rfl rfl ?_
 refine R_k hg.ok rfl rfl ?_
 have hb:=sb A.1 (by omega) hs2
 generalize tnL (shF20 K) A.1 g.b=B at hb hG hs3 hs4
 refine R_callS3 hg.ok hg.gup hg.wide hg.Y [0] ((kpU K) B.1++[.arr 8 out.length (Gl.rows out),glz g t1 g.a g.b g.c]) hb (fun _=>rfl) h01 rfl rfl rfl rfl rfl rfl rfl rfl ?_
 refine R_k hg.ok rfl rfl ?_
 refine R_load4 hg.ok (by show φ.length≤2;omega) rfl rfl rfl rfl rfl rfl rfl ?_
 refine R_k hg.ok rfl rfl ?_
 have hc:=sc B.1 (by omega) hs3
 generalize tnL (shF20 K) B.1 g.c=C at hc hG hs4
 refine R_callS3 hg.ok hg.gup hg.wide hg.Y [0] ((kpU K) C.1++[.arr 8 out.length (Gl.rows out),glz g t1 g.a g.b g.c]) hc (fun _=>rfl) h01 rfl rfl rfl rfl rfl rfl rfl rfl ?_
 refine R_k hg.ok rfl rfl ?_
 have hor:=Gl.rows_length out
 rw[hG]at hm
 simp only at hm
 refine R_appendO hg.ok (Gl.rows (out++[Gl.mk g.k t1 A.2 B.2 C.2])) rfl rfl rfl rfl rfl rfl rfl rfl rfl (by simp) (by simp[one1]) (gl_row_snoc out (Gl.mk g.k t1 A.2 B.2 C.2)) (by rw[hor];simp;omega) (by rw[hor];simp;omega) ?_
 refine R_k hg.ok rfl rfl ?_
 have hsn:(out++[Gl.mk g.k t1 A.2 B.2 C.2]).length=Nat.succ out.length:=by simp
 refine R_dropO 2 ((kpU K) C.1++[.arr 8 (Nat.succ out.length) (Gl.rows (out++[Gl.mk g.k t1 A.2 B.2 C.2]))]) (by show φ.length≤2;omega) rfl rfl ?_
 exact R_next (k+1,C.1,out++[Gl.mk g.k t1 A.2 B.2 C.2]) ⟨hk1,by show (out++[Gl.mk g.k t1 A.2 B.2 C.2]).length=k+1;omega,hs4,by rw[hm];simp⟩ (by show l.length - (k+1)<l.length - k;omega) ⟨.refl _,.refl _,by rw[hsn];exact .refl _,.refl _,.refl _,Ent.wrap (by omega) (by omega) (by omega),trivial⟩ (by rw[hsn])

theorem goals20_ok (K:List Kp)(l:List Gl)(hK:K.length≤1000000)(ha:∀x∈K,x.at_.length≤1000000)(hl:Gl.sizeL l≤100000000):PCtr Tryz.prog 55 [.d (.sl (kpR K)),.d (.sl (Gl.rows l))] (.d (.sl (Gl.rows (golK K l)))):=by
 refine PCtr.of_R (pf:=fun _=>.eff) tyOk mixed Tryz.func55 rfl (by kernel_rfl) (by kernel_rfl) (by simp[Tryz.ntmps55]) fun w S hg=>?_
 refine R_k hg.ok rfl rfl ?_
 refine R_callSO hg.ok hg.gup ⟨rfl,rfl⟩ (fun _ _ _ _ h=>by cases h) [0] (kpX K) (turned20G_ok ⟨[],fun _=>true⟩ K hK ha l () hl trivial) (fun _=>rfl) rfl rfl rfl rfl rfl rfl rfl rfl ?_
 refine R_k hg.ok rfl rfl ?_
 refine R_ret hg 5 rfl rfl ?_
 rfl
def pfNb:Nat→Cls:=fun f=>bif Nat.beq f 4800100000 then .turn 100 else bif Nat.beq f 4000000005 then .turn 0 else bif Nat.beq f 4000100005 then .look 200 else bif Nat.beq f 4000000006 then .turn 200 else bif Nat.beq f 4000100030 then .look 200 else .eff

theorem numbered20_ok (c:Cs)(hsz:c.head.size+Gl.sizeL c.body≤10000000)(hns:∀t∈(seeC c).1.1,∀e∈t.els 1,e.2.s.size<1000000000):PCtr Tryz.prog 83 [c.av] (numC c).av:=by
 have hse:=seeC_eq c
 have htl:=trmL_len c.body
 have hts:=trmL_size c.body
 have hcs:=trcL_size c.body
 have hcp:=Gl.tmPos c.head
 have hlen:(seeC c).1.1.length=1+trcL c.body:=by rw[hse,List.length_cons,htl];omega
 have hsum:Tm.sizeL (seeC c).1.1≤10000000:=by rw[hse,Tm.sizeL];omega
 refine PCtr.of_R (pf:=pfNb) tyOk mixed Tryz.func83 rfl (by kernel_rfl) (by kernel_rfl) (by simp[Tryz.ntmps83]) fun w S hg=>?_
 refine R_k hg.ok rfl rfl ?_
 refine R_buildO hg.ok (hdR c.head) rfl rfl rfl rfl rfl rfl rfl rfl (by simp) (by simp) ?_
 rw[hdR_eq]
 refine R_k hg.ok rfl rfl ?_
 have hcall:SCtr Tryz.prog ⟨[],fun _=>true⟩ 84 [.d (.sl (Gl.rows c.body)),.clo 110 [] [.lo 0 0],.clo 110 [] [.lo 0 0]] (seeX ([c.head],0)) (.d (.sl (Gl.rows (seeC c).2))) (seeX (seeC c).1):=turned20S_ok ⟨[],fun _=>true⟩ () c.body ([c.head],0) (by omega) (by unfold preS;simp;omega)
 have hnum:=termNumber_ok (seeC c).1.1 (by omega) hns
 have hnc:numC c=if (numberT (seeC c).1.1).2.2=0 then ⟨((numberT (seeC c).1.1).1[0]?).getD c.head,(tnL (nextF (numberT (seeC c).1.1).1) 0 c.body).2,(numberT (seeC c).1.1).2.1⟩ else c:=rfl
 have hNl:(numberT (seeC c).1.1).2.2=0→(numberT (seeC c).1.1).1.length=(seeC c).1.1.length:=fun h=>by
  unfold numberT at h ⊢
  split at h
  ·rename_i hh;rw[if_pos hh,Tm.turnTL_map,List.length_map]
  ·simp at h
 generalize hS:seeC c=Z at *
 obtain⟨⟨z,n⟩,zz⟩:=Z
 simp only at hcall hnum hnc hNl hlen hsum
 generalize numberT z=N at hnum hnc hNl
 obtain⟨L,v,e⟩:=N
 simp only at hnum hnc hNl
 refine R_callSO hg.ok hg.gup ⟨rfl,rfl⟩ (fun _ _ _ _ h=>by cases h) [3,2] [csBox c,.box [iV 0,.d (.v (.string ByteArray.empty)),iV 0,.d (.v (.slice none 0 0)),.d (.v (.slice none 0 0)),iV 0],.arr 4 n (Tm.rows z),.box [.ow 2 n]] hcall (fun _=>rfl) rfl rfl rfl rfl rfl rfl rfl rfl ?_
 first
 |(refine R_run hg.ok 1 rfl rfl ?_;refine R_freezeO hg.gup 2 [(1,.lo 0 0),(2,.lo 1 0),(3,.lo 3 0)] [csBox c,.box [iV 0,.d (.v (.string ByteArray.empty)),iV 0,.d (.v (.slice none 0 0)),.d (.v (.slice none 0 0)),iV 0],.dead,.box [.d (.sl (Tm.rows z))]] rfl rfl ⟨.refl _,.refl _,.refl _,trivial⟩ ⟨ObIn.refl _,ObIn.refl _,by simp[ObIn],⟨Ent.frz 2 _ _,trivial⟩,trivial⟩ ?_)
 |(refine R_run hg.ok 2 rfl rfl ?_;refine R_freezeO hg.gup 2 [(1,.lo 0 0),(2,.lo 1 0),(3,.lo 3 0)] [csBox c,.box [iV 0,.d (.v (.string ByteArray.empty)),iV 0,.d (.v (.slice none 0 0)),.d (.v (.slice none 0 0)),iV 0],.dead,.box [.d (.sl (Tm.rows z))]] rfl rfl ⟨.refl _,.refl _,.refl _,trivial⟩ ⟨ObIn.refl _,ObIn.refl _,by simp[ObIn],⟨Ent.frz 2 _ _,trivial⟩,trivial⟩ ?_)
 |(refine R_run hg.ok 3 rfl rfl ?_;refine R_freezeO hg.gup 2 [(1,.lo 0 0),(2,.lo 1 0),(3,.lo 3 0)] [csBox c,.box [iV 0,.d (.v (.string ByteArray.empty)),iV 0,.d (.v (.slice none 0 0)),.d (.v (.slice none 0 0)),iV 0],.dead,.box [.d (.sl (Tm.rows z))]] rfl rfl ⟨.refl _,.refl _,.refl _,trivial⟩ ⟨ObIn.refl _,ObIn.refl _,by simp[ObIn],⟨Ent.frz 2 _ _,trivial⟩,trivial⟩ ?_)
 |(refine R_run hg.ok 4 rfl rfl ?_;refine R_freezeO hg.gup 2 [(1,.lo 0 0),(2,.lo 1 0),(3,.lo 3 0)] [csBox c,.box [iV 0,.d (.v (.string ByteArray.empty)),iV 0,.d (.v (.slice none 0 0)),.d (.v (.slice none 0 0)),iV 0],.dead,.box [.d (.sl (Tm.rows z))]] rfl rfl ⟨.refl _,.refl _,.refl _,trivial⟩ ⟨ObIn.refl _,ObIn.refl _,by simp[ObIn],⟨Ent.frz 2 _ _,trivial⟩,trivial⟩ ?_)
 |(refine R_run hg.ok 5 rfl rfl ?_;refine R_freezeO hg.gup 2 [(1,.lo 0 0),(2,.lo 1 0),(3,.lo 3 0)] [csBox c,.box [iV 0,.d (.v (.string ByteArray.empty)),iV 0,.d (.v (.slice none 0 0)),.d (.v (.slice none 0 0)),iV 0],.dead,.box [.d (.sl (Tm.rows z))]] rfl rfl ⟨.refl _,.refl _,.refl _,trivial⟩ ⟨ObIn.refl _,ObIn.refl _,by simp[ObIn],⟨Ent.frz 2 _ _,trivial⟩,trivial⟩ ?_)
 |(refine R_run hg.ok 6 rfl rfl ?_;refine R_freezeO hg.gup 2 [(1,.lo 0 0),(2,.lo 1 0),(3,.lo 3 0)] [csBox c,.box [iV 0,.d (.v (.string ByteArray.empty)),iV 0,.d (.v (.slice none 0 0)),.d (.v (.slice none 0 0)),iV 0],.dead,.box [.d (.sl (Tm.rows z))]] rfl rfl ⟨.refl _,.refl _,.refl _,trivial⟩ ⟨ObIn.refl _,ObIn.refl _,by simp[ObIn],⟨Ent.frz 2 _ _,trivial⟩,trivial⟩ ?_)
 refine R_k hg.ok rfl rfl ?_
 refine R_call hg.ok (hnum) rfl rfl rfl rfl rfl rfl ?_
 refine R_k hg.ok rfl rfl ?_
 refine R_if rfl rfl (fun h=>?_) (fun h=>?_)
 ·refine R_run hg.ok 1000 rfl rfl ?_
  have h:¬ e=0:=by simpa using h
  refine R_ret hg 5 rfl rfl ?_
  rw[hnc,if_neg h];rfl
 have h:e=0:=by simpa using h
 rw[if_pos h]at hnc
 have hLl:=hNl h
 refine R_freezeB hg.gup 4 [.sl (Tm.rows L)] (Nat.zero_le _) rfl rfl ?_
 refine R_k hg.ok rfl rfl ?_
 have e0:L[0]? = some (L[0]'(by omega)):=List.getElem?_eq_getElem (by omega)
 rw[e0]at hnc
 generalize L[0]'(by omega)=x0 at e0 hnc
 refine R_loadD hg.ok rfl rfl rfl rfl rfl ?_
 refine R_k hg.ok rfl rfl ?_
 refine R_index hg.ok rfl rfl rfl rfl rfl rfl (by decide) (Tm.rows_get e0) rfl ?_
 refine R_k hg.ok rfl rfl ?_
 refine R_loadD hg.ok rfl rfl rfl rfl rfl ?_
 refine R_k hg.ok rfl rfl ?_
 refine R_callSO hg.ok hg.gup ⟨rfl,rfl⟩ (fun _ _ _ _ h=>by cases h) [5] ([csBox c,.box [iV 0,.d (.v (.string ByteArray.empty)),iV 0,.d (.v (.slice none 0 0)),.d (.v (.slice none 0 0)),iV 0],.dead,.box [.d (.sl (Tm.rows z))],.dead]++nxtX L (tnL (nextF L) 0 c.body).1) (turned20N_ok ⟨[],fun _=>true⟩ L c.body 0 (by omega) (by unfold preN;omega)) (fun _=>rfl) rfl rfl rfl rfl rfl rfl rfl rfl ?_
 refine R_k hg.ok rfl rfl ?_
 refine R_ret hg 5 rfl rfl ?_
 rw[hnc];rfl

theorem filter20_ok (K:List Kp)(l:List Cs)(hl:l.length≤1000000)(hsm:∀c∈l,SmC c)(hK:K.length≤1000000)(ha:∀x∈K,x.at_.length≤1000000)(h1:∀c∈l,(shrC K c).head.size+Gl.sizeL (shrC K c).body≤10000000∧∀t∈(seeC (shrC K c)).1.1,∀e∈t.els 1,e.2.s.size<1000000000)(h2:∀c∈l,SmC (filC K c)):PCtr Tryz.prog 52 [prV l,.d (.sl (kpR K))] (.tup [prV (filP K l).1,iV (filP K l).2]):=by
 have hrl:=Cs.rows_len l
 have hfp:filP K l=if (checkR l).2≠0 then ([],1) else if (checkR (l.map (filC K))).2≠0 then ([],1) else (l.map (filC K),0):=rfl
 refine PCtr.of_R (pf:=pfB) tyOk mixed Tryz.func52 rfl (by kernel_rfl) (by kernel_rfl) (by simp[Tryz.ntmps52]) fun w S hg=>?_
 refine R_k hg.ok rfl rfl ?_
 refine R_call hg.ok (check_ok l hsm) rfl rfl rfl rfl rfl rfl ?_
 refine R_k hg.ok rfl rfl ?_
 by_cases he:(checkR l).2≠0
 ·rw [if_pos he] at hfp
  refine R_if rfl rfl (fun _=>?_) (fun h=>absurd h (by simp[he]))<;>refine R_k hg.ok rfl rfl ?_
  refine R_ret hg 5 rfl rfl ?_
  rw[hfp];rfl
 rw[if_neg he]at hfp
 have he:(checkR l).2=0:=Decidable.not_not.1 he
 refine R_if rfl rfl (fun h=>absurd h (by simp[he])) (fun _=>?_)<;>refine R_k hg.ok rfl rfl ?_
 refine R_ownB 2 0 6 rfl rfl rfl ?_
 refine R_loop (fun k:Nat=>([(1,.d (.sl (kpR K))),(4,.lo 1 0),(8,.lo 2 0),(22,.d (.sl (Cs.rows l))),(23,iV l.length),(24,iV k)],[.box [.d (.sl (Cs.rows l))],.box [.d (.v (.slice none 0 0))],.box [.ow 3 k],.arr 6 k (Cs.rows ((l.take k).map (filC K)))])) (fun k=>k≤l.length) (fun k=>l.length - k) 0 (Nat.zero_le _) ⟨.refl _,.refl _,.refl _,.refl _,by rw[hrl];exact .refl _,.refl _,trivial⟩ rfl ?_
 rintro k hk
 refine R_k hg.ok rfl rfl ?_
 refine R_if rfl rfl (fun h=>?_) (fun h=>?_)
 rotate_left
 ·have hk1:l.length≤k:=ge_dec h rfl
  rw[List.take_of_length_le hk1]
  refine R_freezeO hg.gup 3 [(4,.lo 1 0),(8,.lo 2 0),(25,.ff)] [.box [.d (.sl (Cs.rows l))],.box [.d (.v (.slice none 0 0))],.box [.d (.sl (Cs.rows (l.map (filC K))))],.dead] rfl rfl ⟨.refl _,.refl _,.refl _,trivial⟩ ⟨ObIn.refl _,ObIn.refl _,⟨Ent.frz 3 k _,trivial⟩,trivial,trivial⟩ ?_
  refine R_k hg.ok rfl rfl ?_
  refine R_call hg.ok (check_ok (l.map (filC K)) (fun x hx=>by obtain⟨c,hc,rfl⟩:=List.mem_map.1 hx;exact h2 c hc)) rfl rfl rfl rfl rfl rfl ?_
  refine R_k hg.ok rfl rfl ?_
  by_cases hce:(checkR (l.map (filC K))).2≠0
  ·rw [if_pos hce] at hfp
   refine R_if rfl rfl (fun _=>?_) (fun h=>absurd h (by simp[hce]))<;>refine R_k hg.ok rfl rfl ?_
   refine R_ret hg 5 rfl rfl ?_
   rw[hfp];rfl
  ·rw [if_neg hce] at hfp
   refine R_if rfl rfl (fun h=>absurd h (by simp at hce;simp[hce])) (fun _=>?_)<;>refine R_k hg.ok rfl rfl ?_
   refine R_ret hg 5 rfl rfl ?_
   rw[hfp];rfl
 refine R_k hg.ok rfl rfl ?_
 have hk1:k<l.length:=lt_dec h rfl
 have e1:l[k]? = some l[k]:=List.getElem?_eq_getElem hk1
 have hmem:=List.getElem_mem hk1
 have hso:=hsm _ hmem
 obtain⟨h1a,h1b⟩:=h1 _ hmem
 have hhs:=hso.head.1
 have hbs:=hso.size
 have htk:Cs.rows ((l.take k).map (filC K))++[(filC K l[k]).row]=Cs.rows ((l.take (k+1)).map (filC K)):=by
  rw[Cs.rows_snoc,List.take_add_one,e1,List.map_append];rfl
 have hrk:(Cs.rows ((l.take k).map (filC K))).length=k:=by rw[Cs.rows_len,List.length_map,List.length_take];omega
 generalize l[k]=c at e1 hmem hso h1a h1b hhs hbs htk
 refine R_index hg.ok rfl rfl rfl rfl rfl rfl (Int.natCast_nonneg _) (Cs.rows_get e1) rfl ?_
 refine R_k hg.ok rfl rfl ?_
 refine R_call hg.ok (shrink_ok K c.head hK ha (by omega)) rfl rfl rfl rfl rfl rfl ?_
 refine R_k hg.ok rfl rfl ?_
 refine R_call hg.ok (goals20_ok K c.body hK ha (by omega)) rfl rfl rfl rfl rfl rfl ?_
 refine R_k hg.ok rfl rfl ?_
 refine R_call hg.ok (numbered20_ok (shrC K c) h1a h1b) rfl rfl rfl rfl rfl rfl ?_
 refine R_k hg.ok rfl rfl ?_
 refine R_appendO hg.ok (Cs.rows ((l.take (k+1)).map (filC K))) rfl rfl rfl rfl rfl rfl rfl rfl rfl (by simp) (by simp[one1]) htk (by rw[hrk];simp;omega) (by rw[hrk];simp;omega) ?_
 refine R_k hg.ok rfl rfl ?_
 refine R_dropO 4 [.box [.d (.sl (Cs.rows l))],.box [.d (.v (.slice none 0 0))],.box [.ow 3 (Nat.succ k)],.arr 6 (Nat.succ k) (Cs.rows ((l.take (k+1)).map (filC K)))] (Nat.zero_le _) rfl rfl ?_
 exact R_next (k+1) (by omega) (by omega) ⟨.refl _,.refl _,.refl _,.refl _,.refl _,Ent.wrap (by omega) (by omega) (by omega),trivial⟩ rfl

theorem fun20_ok (s:ByteArray)(l:List Tm):PCtr Tryz.prog 54 [.d (.v (.string s)),.d (.sl (Tm.rows l))] (Tm.mk 3 s 0 l).av:=by
 refine PCtr.of_R (pf:=fun _=>.still) tyOk mixed Tryz.func54 rfl (by kernel_rfl) (by kernel_rfl) (by simp[Tryz.ntmps54]) fun w S hg=>?_
 refine R_k hg.ok rfl rfl ?_
 refine R_ret hg 5 rfl rfl ?_
 rfl
def k20T:Bs:=[112,40,88,44,32,89,41,32,58,45,32,113,40,88,44,32,89,41,46,32,113,40,97,44,32,90,41,46]
def k20C:List Clau:=[(fnT [58,45] [fnT [112] [Tm.vT 0,Tm.vT 1],fnT [113] [Tm.vT 0,Tm.vT 1]],[[88],[89]]),(fnT [113] [fnT [97] [],Tm.vT 0],[[90]])]
def k20P:List Cs:=[⟨fnT [112] [Tm.vT 0,Tm.vT 1],[.mk 1 (fnT [113] [Tm.vT 0,Tm.vT 1]) [] [] []],2⟩,⟨fnT [113] [fnT [97] [],Tm.vT 0],[],1⟩]
def k20K:List Kp:=[⟨Tx [112],2,[0]⟩,⟨Tx [113],2,[0]⟩]
def k20F:List Cs:=[⟨fnT [112] [Tm.vT 0],[.mk 1 (fnT [113] [Tm.vT 0]) [] [] []],1⟩,⟨fnT [113] [fnT [97] []],[],0⟩]
theorem k20_read:clauR rightT false k20T=some (k20C,0,0):=by rw[rightT_fun];kernel_rfl
theorem k20_load:loadL k20C 0 []=(k20P,0,0):=by kernel_rfl

theorem k20_ctr:PCtr Tryz.prog 29 [txA k20T] (.tup [prV k20P,iV 0,iV 0]):=by
 have h:=load_ok k20T (by decide) k20_read (List.all_eq_true.1 (show (k20C.all fun x=>noCh x.1)=true by kernel_rfl))
 rw[if_neg (by decide),k20_load]at h
 exact h
theorem k20_med:Med k20P:=(som14_all (l:=k20P) (q:=⟨fnT [112] [],[],0⟩) (by kernel_rfl)).1.sub (List.sublist_append_left _ _)
theorem k20_keeps:keepsR k20P=(k20K,0):=by kernel_rfl
theorem k20_filter:filP k20K k20P=(k20F,0):=by kernel_rfl
theorem k20_fils:k20P.map (filC k20K)=k20F:=by kernel_rfl
theorem k20_med2:Med k20F:=(som14_all (l:=k20F) (q:=⟨fnT [112] [],[],0⟩) (by kernel_rfl)).1.sub (List.sublist_append_left _ _)

theorem k20k_ok:PCtr Tryz.prog 23 [prV k20P] (.tup [.d (.sl (kpR k20K)),iV 0]):=by
 have h:=keeps_ok k20P (by decide) k20_med.sm (by decide +kernel)
 rw[k20_keeps]at h
 exact h
theorem k20_at:∀x∈k20K,x.at_.length≤1000000:=by decide +kernel
theorem k20_shr:∀c∈k20P,(shrC k20K c).head.size+Gl.sizeL (shrC k20K c).body≤10000000∧∀t∈(seeC (shrC k20K c)).1.1,∀e∈t.els 1,e.2.s.size<1000000000:=by decide +kernel

theorem k20f_ok:PCtr Tryz.prog 52 [prV k20P,.d (.sl (kpR k20K))] (.tup [prV k20F,iV 0]):=by
 have h:=filter20_ok k20K k20P (by decide) k20_med.sm (by decide) k20_at k20_shr (fun c hc=>k20_med2.sm _ (by rw[← k20_fils];exact List.mem_map_of_mem hc))
 rw[k20_filter]at h
 exact h

theorem knows20_ok:PCtr Tryz.prog 22 [] (bV true):=by
 refine PCtr.of_R (pf:=fun _=>.still) tyOk mixed Tryz.func22 rfl (by kernel_rfl) (by kernel_rfl) (by simp[Tryz.ntmps22]) fun w S hg=>?_
 refine R_k hg.ok rfl rfl ?_
 refine R_call hg.ok (k20_ctr) rfl rfl rfl rfl rfl rfl ?_
 refine R_k hg.ok rfl rfl ?_
 refine R_call hg.ok (k20k_ok) rfl rfl rfl rfl rfl rfl ?_
 refine R_k hg.ok rfl rfl ?_
 refine R_call hg.ok (k20f_ok) rfl rfl rfl rfl rfl rfl ?_
 refine R_k hg.ok rfl rfl ?_
 refine R_callN hg.ok (fun20_ok ⟨#[98]⟩ []) rfl rfl rfl rfl (by kernel_rfl) rfl rfl ?_
 refine R_k hg.ok rfl rfl ?_
 refine R_callN hg.ok (fun20_ok ⟨#[99]⟩ []) rfl rfl rfl rfl (by kernel_rfl) rfl rfl ?_
 refine R_k hg.ok rfl rfl ?_
 refine R_callN hg.ok (fun20_ok ⟨#[113]⟩ [.mk 3 ⟨#[98]⟩ 0 [],.mk 3 ⟨#[99]⟩ 0 []]) rfl rfl rfl rfl (by kernel_rfl) rfl rfl ?_
 refine R_k hg.ok rfl rfl ?_
 refine R_call hg.ok (shrink_ok k20K (.mk 3 ⟨#[113]⟩ 0 [.mk 3 ⟨#[98]⟩ 0 [],.mk 3 ⟨#[99]⟩ 0 []]) (by decide) k20_at (by decide +kernel)) rfl rfl rfl rfl rfl rfl ?_
 refine R_k hg.ok rfl rfl ?_
 repeat
  first
  |(refine R_if rfl rfl (fun h=>absurd h (by decide +kernel)) (fun _=>?_);refine R_k hg.ok rfl rfl ?_)
  |(refine R_if rfl rfl (fun _=>?_) (fun h=>absurd h (by decide +kernel));refine R_k hg.ok rfl rfl ?_)
  |(refine R_index hg.ok rfl rfl rfl rfl rfl rfl (by decide) rfl rfl ?_;refine R_k hg.ok rfl rfl ?_)
 refine R_callN hg.ok (goals20_ok k20K [.mk 0 zeroT [] [] []] (by decide) k20_at (by decide +kernel)) rfl rfl rfl rfl (by kernel_rfl) rfl rfl ?_
 refine R_k hg.ok rfl rfl ?_
 refine R_ret hg 5 rfl rfl ?_
 rfl
def zc20:Cs:=⟨zeroT,[],0⟩

theorem zc20_ok:zc20.Ok:=⟨⟨fun d e he=>by
  simp only[zc20,zeroT,Tm.els,Tm.elsL,List.mem_singleton]at he
  subst he;exact⟨Nat.zero_le _,by show (0:Nat)≤_;omega⟩,fun d e he=>by
  simp only[zc20,zeroT,Tm.els,Tm.elsL,List.mem_singleton]at he
  subst he;exact⟨(by unfold I64;decide:I64 0),(by unfold I64;decide:I64 0)⟩⟩,⟨by decide,by decide⟩,Nat.zero_le _,fun g h=>by cases h⟩
theorem som14_h20 {l:List Cs}{q:Cs}(h:som14 l q=true):Med l∧l.length≤60:=⟨(som14_all h).1.sub (List.sublist_append_left l [q]),(som14_all h).2⟩

theorem filterKeeps_ok (l:List Cs)(hok:∀c∈l,c.Ok)(hb:l.length * 88≤140737488351232):PCtr Tryz.prog 7 [prV l] (bV true):=by
 have hs:=refSome14_ok l zc20 hok zc20_ok hb
 refine PCtr.of_R (pf:=fun _=>.still) tyOk mixed Tryz.func7 rfl (by kernel_rfl) (by kernel_rfl) (by simp[Tryz.ntmps7]) fun w S hg=>?_
 refine R_k hg.ok rfl rfl ?_
 cases hp:som14 l zc20 with
 |false =>
  rw[hp]at hs
  refine R_call hg.ok (hs) rfl rfl rfl rfl rfl rfl ?_
  refine R_k hg.ok rfl rfl ?_
  refine R_if rfl rfl (fun _=>?_) (fun h=>absurd h (by simp))<;>refine R_k hg.ok rfl rfl ?_
  refine R_call hg.ok (knows20_ok) rfl rfl rfl rfl rfl rfl ?_
  refine R_k hg.ok rfl rfl ?_
  refine R_ret hg 5 rfl rfl ?_
  rfl
 |true =>
  rw[hp]at hs
  obtain⟨hm,h60⟩:=som14_h20 hp
  have hbd:∀c∈l,c.head.size+Gl.sizeL c.body≤1000000:=fun c hc=>by
   have h1:=hm.size
   have h2:=Cs.size_mem hc
   unfold Cs.size at h2;omega
  have hhl:∀c∈l,c.head.l.length≤1000000:=fun c hc=>by have:=hbd c hc;have:=Tm.size_eq c.head;have:=tml_len c.head.l;omega
  refine R_call hg.ok (hs) rfl rfl rfl rfl rfl rfl ?_
  refine R_k hg.ok rfl rfl ?_
  refine R_if rfl rfl (fun h=>absurd h (by simp)) (fun _=>?_)<;>refine R_k hg.ok rfl rfl ?_
  refine R_call hg.ok (keeps_ok l (by omega) hm.sm hbd) rfl rfl rfl rfl rfl rfl ?_
  refine R_k hg.ok rfl rfl ?_
  refine R_call hg.ok (refCheck_ok l hm.sm (by omega)) rfl rfl rfl rfl rfl rfl ?_
  refine R_k hg.ok rfl rfl ?_
  by_cases h0':(checkR l).2=0
  ·refine R_if rfl rfl (fun h=>absurd h (by simp [h0'])) (fun _=>?_) <;> refine R_run hg.ok 1000 rfl rfl ?_
   refine R_call hg.ok (refSingle_ok l (by omega) hhl) rfl rfl rfl rfl rfl rfl ?_
   refine R_k hg.ok rfl rfl ?_
   cases hsg:singP [] l with
   |false =>
    have hk:keepsR l=([],1):=by rw[keepsR,if_neg (by rw[hsg];simp)]
    rw[hk]
    refine R_if rfl rfl (fun _=>?_) (fun h=>absurd h (by simp))<;>refine R_k hg.ok rfl rfl ?_
    refine R_if rfl rfl (fun _=>?_) (fun h=>absurd h (by simp[kpR]))<;>refine R_k hg.ok rfl rfl ?_
    refine R_if rfl rfl (fun _=>?_) (fun h=>absurd h (by simp))<;>refine R_k hg.ok rfl rfl ?_
    refine R_call hg.ok (knows20_ok) rfl rfl rfl rfl rfl rfl ?_
    refine R_k hg.ok rfl rfl ?_
    refine R_ret hg 5 rfl rfl ?_
    rfl
   |true =>
    have hk:keepsR l=(keepL l,0):=by rw[keepsR,if_pos ⟨h0',hsg⟩]
    rw[hk]
    refine R_if rfl rfl (fun h=>absurd h (by simp)) (fun _=>?_)<;>refine R_k hg.ok rfl rfl ?_
    refine R_call hg.ok (refKeeps_ok l (by omega) hsg hbd) rfl rfl rfl rfl rfl rfl ?_
    refine R_k hg.ok rfl rfl ?_
    rw[keeps_same h0' hsg]
    have hKl:(keepL l).length≤l.length:=by
     unfold keepL;exact keepF_len _ _ _
    have hKa:∀x∈keepL l,x.at_.length≤1000000:=by
     have h0:OkK l (initK [] l):=init_ok l [] (fun _ h=>h) ⟨by simp[shp],by simp,by simp⟩
     rw[← keeps_same h0' hsg]
     exact(OkK.ref hsg (unK (initK [] l) l+1) h0).1.at_len hhl
    generalize keepL l=K at hKl hKa
    have hrl:=kpR_len K
    refine R_if rfl rfl (fun h=>absurd h (by simp)) (fun _=>?_)<;>refine R_k hg.ok rfl rfl ?_
    refine R_if rfl rfl (fun h=>absurd h (by simp)) (fun _=>?_)<;>refine R_k hg.ok rfl rfl ?_
    refine R_loop (fun k:Nat=>([(3,.d (.sl (kpR K))),(7,.d (.sl (kpR K))),(8,iV k)],[.box [.d (.sl (Cs.rows l))]])) (fun k=>k≤K.length) (fun k=>K.length - k) 0 (Nat.zero_le _) ⟨.refl _,.refl _,.refl _,trivial⟩ rfl ?_
    rintro k hk
    refine R_k hg.ok rfl rfl ?_
    refine R_if rfl rfl (fun h=>?_) (fun h=>?_)<;>refine R_k hg.ok rfl rfl ?_
    ·have hk1:k<K.length:=lt_dec h (by rw [hrl])
     have e1:K[k]? = some K[k]:=List.getElem?_eq_getElem hk1
     have hax:=hKa _ (List.getElem_mem hk1)
     generalize K[k]=x at e1 hax
     have hss:strEq x.s x.s=true:=Tm.strEq_iff.2 rfl
     refine R_index hg.ok rfl rfl rfl rfl rfl rfl (Int.natCast_nonneg _) (kpR_get e1) rfl ?_
     refine R_k hg.ok rfl rfl ?_
     refine R_index hg.ok rfl rfl rfl rfl rfl rfl (Int.natCast_nonneg _) (kpR_get e1) rfl ?_
     refine R_k hg.ok rfl rfl ?_
     refine R_if rfl rfl (fun h=>absurd h (by simp[hss])) (fun _=>?_)<;>refine R_k hg.ok rfl rfl ?_
     refine R_index hg.ok rfl rfl rfl rfl rfl rfl (Int.natCast_nonneg _) (kpR_get e1) rfl ?_
     refine R_k hg.ok rfl rfl ?_
     refine R_index hg.ok rfl rfl rfl rfl rfl rfl (Int.natCast_nonneg _) (kpR_get e1) rfl ?_
     refine R_k hg.ok rfl rfl ?_
     refine R_if rfl rfl (fun h=>absurd h (by simp)) (fun _=>?_)<;>refine R_k hg.ok rfl rfl ?_
     refine R_index hg.ok rfl rfl rfl rfl rfl rfl (Int.natCast_nonneg _) (kpR_get e1) rfl ?_
     refine R_k hg.ok rfl rfl ?_
     refine R_index hg.ok rfl rfl rfl rfl rfl rfl (Int.natCast_nonneg _) (kpR_get e1) rfl ?_
     refine R_k hg.ok rfl rfl ?_
     refine R_call hg.ok (numbers_ok x.at_ x.at_ (by omega)) rfl rfl rfl rfl rfl rfl ?_
     refine R_k hg.ok rfl rfl ?_
     refine R_if rfl rfl (fun h=>absurd h (by simp)) (fun _=>?_)<;>refine R_k hg.ok rfl rfl ?_
     exact R_next (k+1) hk1 (by omega) ⟨.refl _,.refl _,Ent.wrap (by omega) (by omega) (by omega),trivial⟩ rfl
    ·refine R_call hg.ok (knows20_ok) rfl rfl rfl rfl rfl rfl ?_
     refine R_k hg.ok rfl rfl ?_
     refine R_ret hg 5 rfl rfl ?_
     rfl
  ·have hk:keepsR l=([],1):=by rw [keepsR,if_neg (fun h=>h0' h.1)]
   rw[hk]
   refine R_if rfl rfl (fun _=>?_) (fun h=>absurd h (by simp[h0']))<;>refine R_k hg.ok rfl rfl ?_
   refine R_if rfl rfl (fun _=>?_) (fun h=>absurd h (by simp[kpR]))<;>refine R_k hg.ok rfl rfl ?_
   refine R_if rfl rfl (fun _=>?_) (fun h=>absurd h (by simp))<;>refine R_k hg.ok rfl rfl ?_
   refine R_call hg.ok (knows20_ok) rfl rfl rfl rfl rfl rfl ?_
   refine R_k hg.ok rfl rfl ?_
   refine R_ret hg 5 rfl rfl ?_
   rfl
end Go.Proofs.YtcgkgofmldhokaaGreat
