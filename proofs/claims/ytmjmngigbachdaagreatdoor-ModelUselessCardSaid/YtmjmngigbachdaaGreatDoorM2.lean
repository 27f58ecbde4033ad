import Derived.Test.YtmjmngigbachdaaGreatDoorM1
import Derived.Test.YtmjmngigbachdaaGreatDoorRows
import Derived.ProofKit
import Derived.Handed
import Derived.HandedShaped
import Derived.Shelf.Vars
import Derived.OpenShut
import Derived.Lay
import Derived.LaidMore
import Derived.LaidHandle
import Derived.MakeChecks
import Derived.ChangeArms
import Derived.Lib.ItoaNum
import Derived.Lib.AppendStr
import Derived.Lib.UnsafeStr
import Derived.Lib.Builder
import Derived.Test.YtmjmngigbachdaaGreatDoorShf
import Derived.Lib.Replace
import Derived.Lib.Join
set_option maxRecDepth 100000
set_option maxHeartbeats 4000000
namespace ax
open Go
abbrev an:=List (Int×Tm)
def H0 (b:Int×Tm):List D:=.v (.int .i64 b.1)::Tm.row b.2
def cW (l:an):List (List D):=l.map H0
theorem fF (l:an):(cW l).length=l.length:=by simp[cW]
theorem mV {l:an}{i:Nat}{x:Int×Tm}(h:l[i]? = some x):(cW l)[i]? = some (H0 x):=by simp[cW,h]
def eN (l:an)(v:Int):Int:=ux (l.map (·.1)) v 0
def ba (l:an)(v:Int):Option Tm:=(l.find? (λb=>b.1==v)).map (·.2)
theorem Ll:∀(l:an) (v:Int) (i:Int),0<=i->(ux (l.map (·.1)) v i<0/\ba l v=none)\/(∃(k:Nat) (t:Tm),ux (l.map (·.1)) v i=i+k/\l[k]? = some (v,t)/\ba l v=some t)
 |[],v,i,h=>.inl ⟨by simp[ux],rfl⟩
 |b::l,v,i,h=>by
  by_cases hb:b.1=v;refine .inr ⟨0,b.2,by simp[ux,hb],by simp[<-hb],by simp[ba,hb]⟩;have hf:ba (b::l) v=ba l v:=by simp only[ba,List.find?_cons,show(b.1==v)=false by simpa using hb]
  simp only[bM,ux,if_neg hb,hf];rcases Ll l v (i+1) aq with ⟨h1,h2⟩|⟨k,t,h1,h2,h3⟩
  simp_all;exact .inr ⟨k+1,t,by rw[h1];omega,by simpa using h2,h3⟩
theorem fN (l:an)(v:Int):(eN l v<0/\ba l v=none)\/(∃(k:Nat) (t:Tm),eN l v=k/\l[k]? = some (v,t)/\ba l v=some t):=by
 rcases Ll l v 0 (kH _)with h|⟨k,t,h1,h2,h3⟩
 exact .inl h;exact .inr ⟨k,t,by unfold eN;omega,h2,h3⟩
namespace Tm
def differ (p t:Tm):Bool:=decide (p.k≠t.k)||decide (p.n≠t.n)||!aX p.s t.s||decide (p.l.length≠t.l.length)
mutual
def collect:Tm->Tm->an×Bool
 |mk k s n l,t=>
  if k=1 then([(n,t)],true)
  else if differ (mk k s n l) t then([],false)else sH l t.l []
def sH:List Tm->List Tm->an->an×Bool|x::a,y::b,B=>if(collect x y).2 then sH a b (B++(collect x y).1)else([],false)|_,_,B=>(B,true)
end
end Tm
namespace Tm
end Tm
namespace Tm
end Tm
namespace Tm
end Tm
end ax
namespace ax
open Go
namespace Tm
mutual
def acR (B:an):Tm->Tm|mk k s n l=>if k=1 then(ba B n).getD (mk k s n (xm B l))else mk k s n (xm B l)
def xm (B:an):List Tm->List Tm|[]=>[]|x::r=>acR B x::xm B r
end
theorem Ga (B:an):∀l,xm B l=l.map (acR B)|[]=>rfl|x::r=>by simp only[xm,bM,Ga B r]
end Tm
end ax
namespace ax
open Go
namespace Tm
theorem du {B:an}{n:Int}{t:Tm}(h:ba B n=some t):(n,t)∈B:=by unfold ba at h;obtain⟨z,hz,rfl⟩:=ahB.1 h;grind
mutual
theorem Ui (B:an)(hB:∀b∈B,bA b.2=true):∀(p:Tm),bA p=true->bA (acR B p)=true
 |mk k s n l,h=>by
  have hl:=p6 h;simp only[acR];by_cases hk:k=1;rw [if_pos hk];cases hf:ba B n with
  |some t=>exact hB _ (du hf)
  |none=>obtain⟨rfl,rfl⟩:=hl.2 hk;simpa[xm]using h
  rw [if_neg hk];have ih:=Ck B hB l hl.1;have a8:(xm B l).length=l.length:=by rw[Ga];simp
  simp only[bA,aV]at h ⊢;simp_all
theorem Ck (B:an)(hB:∀b∈B,bA b.2=true):∀(l:List Tm),cv l=true->cv (xm B l)=true|[],_=>rfl|x::r,h=>by simp only[cv,aV]at h;simp only[xm,cv,Ui B hB x h.1,Ck B hB r h.2,Fq]
end
end Tm
end ax
namespace ax
open Go
namespace Tm
mutual
def cj (σ:Int->Tm):Tm->Tm|mk k s n l=>if k=1 then σ n else mk k s n (dv σ l)
def dv (σ:Int->Tm):List Tm->List Tm|[]=>[]|x::r=>cj σ x::dv σ r
end
theorem p7 (σ:Int->Tm):∀l,(dv σ l).length=l.length|[]=>rfl|x::r=>by simp only[dv,dx,p7 σ r]
mutual
theorem nS {σ τ:Int->Tm}:∀(p:Tm),(∀v∈cF p,σ v=τ v)->cj σ p=cj τ p|mk k s n l,h=>by simp only[cj];simp only[cF]at h;by_cases hk:k=1;simp_all;simp only[if_neg hk]at h ⊢;rw[zz l h]
theorem zz {σ τ:Int->Tm}:∀(l:List Tm),(∀v∈ep l,σ v=τ v)->dv σ l=dv τ l|[],_=>rfl|x::r,h=>by simp only[ep,cu]at h;simp only[dv,nS x (λv hv=>h v (.inl hv)),zz r (λv hv=>h v (.inr hv))]
end
def vT (n:Int):Tm:=mk 1 ByteArray.empty n []
theorem Oz {p t:Tm}:differ p t=false↔p.k=t.k/\p.n=t.n/\p.s=t.s/\p.l.length=t.l.length:=by simp[differ,bn,and_assoc]
mutual
theorem Lm (σ:Int->Tm):∀(p:Tm),collect p (cj σ p)=((cF p).map λv=>(v,σ v),true)|mk k s n l=>by simp only[collect,cj,cF];by_cases hk:k=1;simp[hk];simp only [if_neg hk];have hd:differ (mk k s n l) (mk k s n (dv σ l))=false:=Oz.2 ⟨rfl,rfl,rfl,(p7 σ l).symm⟩;rw[hd];simp only[lq,if_false];exact xn σ l []
theorem xn (σ:Int->Tm):∀(l:List Tm) (B:an),sH l (dv σ l) B=(B++(ep l).map λv=>(v,σ v),true)|[],B=>by simp[sH,ep]|x::r,B=>by simp only[dv,sH,ep,Lm σ x,if_true,xn σ r,eR,List.append_assoc]
end
end Tm
end ax
namespace ax
open Go
namespace Tm
mutual
theorem Gb (σ τ:Int->Tm):∀(p:Tm),cj τ (cj σ p)=cj (λv=>cj τ (σ v)) p|mk k s n l=>by simp only[cj];by_cases hk:k=1;simp[hk];simp only[if_neg hk,cj,Cm σ τ l]
theorem Cm (σ τ:Int->Tm):∀(l:List Tm),dv τ (dv σ l)=dv (λv=>cj τ (σ v)) l|[]=>rfl|x::r=>by simp only[dv,Gb σ τ x,Cm σ τ r]
end
mutual
theorem sI (g:Int->Int):∀(p:Tm),bA p=true->gi g p=cj (λv=>vT (g v)) p|mk k s n l,h=>by have hl:=p6 h;simp only[gi,cj];by_cases hk:k=1;obtain ⟨rfl,rfl⟩:=hl.2 hk;subst hk;simp[dp,vT];rw[if_neg hk,if_neg hk,Gc g l hl.1]
theorem Gc (g:Int->Int):∀(l:List Tm),cv l=true->dp g l=dv (λv=>vT (g v)) l|[],_=>rfl|x::r,h=>by simp only[cv,aV]at h;simp only[dp,dv,sI g x h.1,Gc g r h.2]
end
theorem YK (p:Tm)(h:bA p=true):cj vT p=p:=by have:=sI (λn=>n) p h;rw[F6]at this;exact this.symm
end Tm
end ax
namespace ax
open Go
namespace Tm
end Tm
end ax
namespace ax
open Go
namespace Tm
end Tm
end ax

namespace ax
open Go
def Cn:List Int->Int->List (Int×AV)->List (Int×AV)|[],_,A=>A|v::r,i,A=>Cn r (i+1) (if(iT A v).isSome then A else A++[(v,iV i)])
def zg (V:List Int):List (Int×AV):=Cn V 0 []
theorem Ln:∀(A B:List (Int×AV)) (v:Int),iT (A++B) v=match iT A v with|some x=>some x|none=>iT B v
 |[],B,v=>rfl
 |p::A,B,v=>by simp only[jo,iT];split;rfl;exact Ln A B v
theorem Gd:∀(V:List Int) (i:Int) (A:List (Int×AV)) (v:Int),0<=i->iT (Cn V i A) v=match iT A v with|some x=>some x|none=>if ux V v i<0 then none else some (iV (ux V v i))
 |[],i,A,v,_=>by simp only[Cn,ux];grind
 |u::V,i,A,v,h=>by
  simp only[Cn,ux];rw[Gd V (i+1) _ v aq];by_cases hu:(iT A u).isSome=true;grind;rw [if_neg hu,Ln];cases hv:iT A v with
  |some x=>rfl
  |none=>simp only[iT];grind
theorem R3 (V:List Int)(v:Int):iT (zg V) v=if ux V v 0<0 then none else some (iV (ux V v 0)):=by unfold zg;rw[Gd V 0 [] v (kH _)];rfl
theorem Ge:∀(V:List Int) (i:Int) (A:List (Int×AV)),(Cn V i A).map (·.1)=V.foldl jC (A.map (·.1))
 |[],i,A=>rfl
 |u::V,i,A=>by
  simp only[Cn,wC];rw[Ge V (i+1)];congr 1
  have key:∀(A:List (Int×AV)),(iT A u).isSome=(A.map (·.1)).contains u:=by
   intro A;induction A with
   |nil=>rfl
   |cons p A ih=>
    simp only[iT,bM,Ke];by_cases h:p.1=u;rw[if_pos h];simp[h];rw [if_neg h,ih];have:(u==p.1)=false:=by simp;exact λe=>h e.symm
    rw[this,uq]
  unfold jC;grind
theorem acS (V:List Int):(zg V).length=(Tm.once V).length:=by have:=congrArg List.length (Ge V 0 []);simpa[zg,Tm.once]using this
theorem Gf:∀(l a:List Int),(l.foldl jC a).length<=a.length+l.length/\((l.foldl jC a).length=a.length+l.length->l.Nodup/\∀x∈l,x ∉ a)
 |[],a=>by simp
 |x::l,a=>by
  have h:=Gf l (jC a x);have h2:=Tm.FV a x;simp only[wC,dx];refine⟨by omega,λhe=>?_⟩;have h3:(jC a x).length=a.length+1:=by omega
  have hx:x ∉ a:=λhm=>by unfold jC at h3;rw[if_pos (by simpa using hm)]at h3;omega
  obtain⟨h4,h5⟩:=h.2 aq;have h6:jC a x=a++[x]:=by unfold jC;rw[if_neg (by simpa using hx)]
  grind
theorem YL {V:List Int}:((Tm.once V).length<V.length)↔¬ V.Nodup:=by
 have h:=Gf V [];unfold Tm.once;constructor;intro h1 h2
 have key:∀(l a:List Int),l.Nodup->(∀x∈l,x ∉ a)->(l.foldl jC a).length=a.length+l.length:=by
  intro l;induction l with
  |nil=>intro a _ _;simp
  |cons x l ih=>
   intro a hn hd;have hx:jC a x=a++[x]:=by unfold jC;rw[if_neg (by simpa using hd x aD)]
   rw[wC,hx,ih _ (Bo.1 hn).2 λy hy=>?_];simp;omega;simp only [cu,eu,not_or];exact⟨hd y iS,λe=>(Bo.1 hn).1 (e ▸ hy)⟩
 have:=key V [] h2 aD;simp at this;omega;grind
def my (g:Nat->List Int->Bool×List Int):List Nat->List Int->Bool×List Int|[],st=>(true,st)|k::r,st=>if(g k st).1 then my g r (g k st).2 else(false,(g k st).2)
def gp (fR:Nat->List Nat):Nat->Nat->List Int->Bool×List Int|0,_,st=>(false,st)| f+1,i,st=>if st.getD i 0≠0 then(decide (st.getD i 0=2),st)else if(my (gp fR f) (fR i) (st.set i 1)).1 then(true,(my (gp fR f) (fR i) (st.set i 1)).2.set i 2)else(false,(my (gp fR f) (fR i) (st.set i 1)).2)
def kl (st:List Int):Nat:=st.countP (· == 0)
theorem p8:∀(st:List Int) (i:Nat) (x:Int),x≠0->kl (st.set i x)<=kl st/\(i<st.length->st.getD i 0=0->kl (st.set i x)+1=kl st)|[],i,x,_=>by simp[kl]|y::st,0,x,hx=>by simp only[kl,ahz,Q8];simp_all|y::st,i+1,x,hx=>by have h:=p8 st i x hx;simp only[kl,Xc,Q8]at h ⊢;grind
theorem p9 (fR:Nat->List Nat):∀(f i:Nat) (st:List Int),(gp fR f i st).2.length=st.length/\kl (gp fR f i st).2<=kl st:=by
 intro f;induction f with
 |zero=>intro i st;exact⟨rfl,eT _⟩
 |succ f ih=>
  intro i st
  have hL:∀(L:List Nat) (st:List Int),(my (gp fR f) L st).2.length=st.length/\kl (my (gp fR f) L st).2<=kl st:=by
   intro L;induction L with
   |nil=>intro st;exact⟨rfl,eT _⟩
   |cons k r Ug=>intro st;have h1:=ih k st;have h2:=Ug (gp fR f k st).2;simp only[my];grind
  have h1:=hL (fR i) (st.set i 1);have h2:=p8 st i 1 aq;simp only[gp];split;simp_all;split;have h3:=p8 (my (gp fR f) (fR i) (st.set i 1)).2 i 2 aq;exact⟨by simp[h1.1],by simp only;omega⟩;grind
inductive xq (fR:Nat->List Nat):Nat->Nat->Prop
 |mk {m i:Nat} (h:∀k∈fR i,xq fR m k):xq fR (m+1) i
theorem xq.mono {fR:Nat->List Nat}:∀{m i:Nat},xq fR m i->∀{m':Nat},m<=m'->xq fR m' i:=by
 intro m;induction m with
 |zero=>intro i h;cases h
 |succ m ih=>
  intro i h m' hm;cases h with
  |mk h=>obtain⟨q,rfl⟩:∃q,m'=q+1:=⟨m'-1,by omega⟩;exact .mk λk hk=>ih (h k hk) aq
theorem xq.all {fR:Nat->List Nat}:∀{L:List Nat},(∀k∈L,∃m,xq fR m k)->∃m,∀k∈L,xq fR m k
 |[],_=>⟨0,by simp⟩
 |k::L,h=>by
  obtain⟨m,h1⟩:=h k aD;obtain⟨m',h2⟩:=xq.all (L:=L) λk hk=>h k Ew
  refine⟨m+m',λx hx=>?_⟩;rcases cE.1 hx with rfl|hx
  exact h1.mono aq;exact(h2 x hx).mono aq
theorem Uj (fR:Nat->List Nat):∀(f i:Nat) (st:List Int),(∀j,st.getD j 0=2->∃m,xq fR m j)->(∀j,(gp fR f i st).2.getD j 0=2->∃m,xq fR m j)/\((gp fR f i st).1=true->∃m,xq fR m i):=by
 intro f;induction f with
 |zero=>intro i st h;exact⟨h,λh=>by cases h⟩
 |succ f ih=>
  intro i st h
  have hL:∀(L:List Nat) (st:List Int),(∀j,st.getD j 0=2->∃m,xq fR m j)->(∀j,(my (gp fR f) L st).2.getD j 0=2->∃m,xq fR m j)/\((my (gp fR f) L st).1=true->∀k∈L,∃m,xq fR m k):=by
   intro L;induction L with
   |nil=>intro st h;exact⟨h,by simp⟩
   |cons k r Ug=>
    intro st h;obtain⟨h1,h2⟩:=ih k st h;obtain⟨h3,h4⟩:=Ug _ h1;simp only[my];split;rename_i hk;refine⟨h3,λhr x hx=>?_⟩;rcases cE.1 hx with rfl|hx
    exact h2 hk;exact h4 hr x hx;exact⟨h1,λh=>by cases h⟩
  have lr:∀(st:List Int) (x:Int),(∀j,st.getD j 0=2->∃m,xq fR m j)->(x=2->∃m,xq fR m i)->∀j,(st.set i x).getD j 0=2->∃m,xq fR m j:=λst x cY hx j hj=>by
   by_cases e:j=i;subst e;rcases qE j st.length with hl|hl
   rw [List.getD_eq_getElem?_getD,u7 hl]at hj;exact hx (by simpa using hj);rw [List.getD_eq_getElem?_getD,Xl Q3]at hj;simp at hj;rw [List.getD_eq_getElem?_getD,wB (λh=>e h.symm),<-List.getD_eq_getElem?_getD]at hj;exact cY j hj
  obtain⟨h1,h2⟩:=hL (fR i) (st.set i 1) (lr st 1 h aq);have hi:(my (gp fR f) (fR i) (st.set i 1)).1=true->∃m,xq fR m i:=λhr=>by obtain⟨m,hm⟩:=xq.all (h2 hr);exact⟨m+1,.mk hm⟩
  simp only[gp];grind
def gq (l:an)(i:Nat):List Nat:=match l[i]? with|some b=>(bP [b.2]).filterMap λv=>if eN l v<0 then none else some (eN l v).toNat|none=>[]
def kP (fR:Nat->List Nat) (n:Nat):List Nat->List Int->Bool|[],_=>true|i::r,st=>if(gp fR (n+1) i st).1 then kP fR n r (gp fR (n+1) i st).2 else false
def qd (l:an):Bool:=l.all λb=>decide (0<=b.1)&&decide (b.1<1000000)&&b.2.bB
def jI (l:an):Bool:=!decide ((zg (l.map (·.1))).length<l.length)&&qd l&&kP (gq l) l.length (List.range l.length) (List.replicate l.length 0)
theorem xr {fR:Nat->List Nat}{n:Nat}:∀(L:List Nat) (st:List Int),(∀j,st.getD j 0=2->∃m,xq fR m j)->kP fR n L st=true->∀i∈L,∃m,xq fR m i|[],st,_,_=>by simp|i::r,st,h,hr=>by simp only[kP]at hr;obtain⟨h1,h2⟩:=Uj fR (n+1) i st h;split at hr;rename_i hi;have h3:=xr r _ h1 hr;simp_all;cases hr
end ax
namespace ax
open Go
theorem R4:∀(V:List Int) (i:Int) (A:List (Int×AV)),(∀p∈A,∃n,p.2=iV n)->∀p∈Cn V i A,∃n,p.2=iV n|[],_,_,h=>h|u::V,i,A,h=>R4 V (i+1) _ (by grind)
theorem Wx (V:List Int):∀p∈zg V,∃n,p.2=iV n:=R4 V 0 [] aD
theorem Lo {f:AV->AV}(h:∀n,f (iV n)=iV n){A:List (Int×AV)}(hA:∀p∈A,∃n,p.2=iV n):aR f (.map (ct A))=.map (ct A):=by
 simp only[aR,ct,kn];congr 1;refine Kb λp hp=>?_
 grind
theorem placesOf {l:an}{i:Nat}{b:Int×Tm}(h:l[i]? = some b):gq l i=(bP [b.2]).filterMap λv=>if eN l v<0 then none else some (eN l v).toNat:=by unfold gq;rw[h]
theorem Gg {st:List Int}{i:Nat}{x:Int}:(cD st).set i [.v (.int .i64 x)]=cD (st.set i x):=by simp[cD,HO,List.map_set]
end ax
namespace ax
open Go
theorem R5:∀{A:List (Int×AV)} {v:Int} {x:AV},(∀p∈A,∃n,p.2=iV n)->iT A v=some x->∃n,x=iV n
 |[],v,x,_,h=>by cases h
 |p::A,v,x,hA,h=>by simp only[iT]at h;split at h;simp_all;exact R5 (λq hq=>hA q Fk) h
end ax

namespace ax
open Go
variable{B:an}{t x:Tm}{M:Nat}{v:Int}
namespace Tm
mutual
theorem Gi{σ:Int->Tm}:∀(p:Tm),bA p=true->(∀v∈cF p,bA (σ v)=true)->bA (cj σ p)=true|mk k s n l,h,hs=>by have hf:=p6 h;simp only[cF]at hs;simp only[cj];by_cases hk:k=1;simp_all;rw [if_neg hk]at hs ⊢;simp only[bA,aV]at h ⊢;exact⟨⟨h.1.1,Co l h.1.2 hs⟩,by rw[p7];exact h.2⟩
theorem Co{σ:Int->Tm}:∀(l:List Tm),cv l=true->(∀v∈ep l,bA (σ v)=true)->cv (dv σ l)=true|[],_,_=>rfl|x::l,h,hs=>by simp only[cv,aV]at h;simp only[ep,cu]at hs;simp only[dv,cv,aV];exact⟨Gi x h.1 λv hv=>hs v (.inl hv),Co l h.2 λv hv=>hs v (.inr hv)⟩
end
mutual
theorem xt{σ:Int->Tm}:∀(p:Tm) (u:Int),u∈cF (cj σ p)->∃v∈cF p,u∈cF (σ v)|mk k s n l,u,h=>by simp only[cj]at h;simp only[cF];by_cases hk:k=1;simp_all;rw [if_neg hk]at h ⊢;simp only[cF,if_neg hk]at h;exact Gj l u h
theorem Gj{σ:Int->Tm}:∀(l:List Tm) (u:Int),u∈ep (dv σ l)->∃v∈ep l,u∈cF (σ v)
 |[],u,h=>by simp[dv,ep]at h
 |x::l,u,h=>by
  simp only[dv,ep,cu]at h;simp only[ep,cu];rcases h with h|h
  obtain⟨v,h1,h2⟩:=xt x u h;grind;obtain⟨v,h1,h2⟩:=Gj l u h;grind
end
theorem YM{n:Int}(h0:0<=n)(h1:n<1000000):bA (vT n)=true:=by have e:aX ByteArray.empty ⟨#[]⟩=true:=bn.2 rfl;have e2:ByteArray.empty.data.toList.all gG=true:=rfl;simp only[vT,bA,cv,l8,e,e2];simp;omega
theorem Gk(σ:Int->Tm):∀l,dv σ l=l.map (cj σ)|[]=>rfl|x::l=>by simp only[dv,bM,Gk σ l]
theorem YN{σ:Int->Tm}(p:Tm)(h:bA p=true)(hs:∀v∈cF p,σ v=vT v):cj σ p=p:=by rw[nS p hs,YK p h]
end Tm
def bu (B:an):Nat->Tm->Tm|0,t=>t|m+1,t=>Tm.cj (λv=>match ba B v with|some x=>bu B m x|none=>Tm.vT v) t
def Uk (B:an)(m:Nat)(t:Tm):Prop:=∀v∈Tm.cF t,0<=eN B v->xq (gq B) m (eN B v).toNat
theorem YO{m:Nat}(hx:x.bA=true)(h:ba B v=some x)(ho:xq (gq B) m (eN B v).toNat):∃q,m=q+1/\Uk B q x:=by
 cases ho with
 |@mk q _ ho=>
  refine⟨q,rfl,λu hu hp=>ho _ ?_⟩;rcases fN B v with ⟨_,h2⟩|⟨k,t,h1,h2,h3⟩
  simp_all;rw [h3]at h; cases h;rw[h1];simp only[zk,gq,h2,yo];refine⟨u,?_,by simp_all⟩;rw[Ch (Ci hx)];simp[Tm.ep,Tm.Lh,hu]
section
variable {B:an} (hB:∀b∈B,b.2.bA=true)
include hB
theorem vG(h:ba B v=some x):x.bA=true:=hB _ (Tm.du h)
theorem Cp{m:Nat}(h:Uk B m t)(hv:v∈Tm.cF t)(hx:ba B v=some x):∃q,m=q+1/\Uk B q x:=by
 refine YO (vG hB hx) hx (h v hv ?_);rcases fN B v with ⟨_,h2⟩|⟨k,t,h1,h2,h3⟩
 simp_all;omega
theorem zA:∀(m:Nat) (t:Tm),t.bA=true->Uk B m t->∀m',m<=m'->bu B m' t=bu B m t:=by
 intro m;induction m with
 |zero=>
  intro t hf hl m' _
  have hn:∀v∈Tm.cF t,ba B v=none:=λv hv=>by
   cases h:ba B v with
   |none=>rfl
   |some x=>obtain⟨q,hq,_⟩:=Cp hB hl hv h;omega
  cases m' with
  |zero=>rfl
  |succ m'=>simp only[bu];exact Tm.YN t hf λv hv=>by rw[hn v hv]
 |succ m ih=>
  intro t hf hl m' hm;obtain⟨q,rfl⟩:∃q,m'=q+1:=⟨m'-1,by omega⟩;simp only[bu];refine Tm.nS t λv hv=>?_
  cases h:ba B v with
  |none=>rfl
  |some x=>obtain⟨r,hr,h2⟩:=Cp hB hl hv h;cases hr;exact ih x (vG hB h) h2 q aq
theorem Ul:∀(m:Nat) (t:Tm),t.bA=true->(∀v∈Tm.cF t,0<=v/\v<1000000)->(bu B m t).bA=true:=by
 intro m;induction m with
 |zero=>intro t h _;exact h
 |succ m ih=>
  intro t h hv;refine Tm.Gi t h λv hm=>?_
  cases hf:ba B v with
  |none=>exact Tm.YM (hv v hm).1 (hv v hm).2
  |some x=>have:=vG hB hf;exact ih x this (Tm.lz x this)
end
structure Sub (B:an) (M:Nat):Prop where
 fair:∀b∈B,b.2.bA=true
 okn:∀i<B.length,xq (gq B) M i
theorem Sub.lev(h:Sub B M)(t:Tm):Uk B M t:=λv _ hp=>h.okn _ (by
 rcases fN B v with ⟨h1,_⟩|⟨k,t,h1,h2,h3⟩
 omega;grind)
theorem Sub.fix(h:Sub B M)(hf:t.bA=true):bu B M t=Tm.cj (λv=>match ba B v with|some x=>bu B M x|none=>Tm.vT v) t :=(zA h.fair M t hf (h.lev t) (M+1) aq).symm
theorem Sub.bound(h:Sub B M)(hf:t.bA=true)(hk:t.k=1)(hx:ba B t.n=some x):bu B M t=bu B M x:=by rw[h.fix hf];obtain⟨k,s,n,l⟩:=t;simp only[Tm.k,Tm.n]at hk hx;simp only[Tm.cj,if_pos hk,hx]
theorem AP(hk:t.k=1):t.n∈Tm.cF t:=by obtain⟨k,s,n,l⟩:=t;simp only[Tm.k]at hk;simp[Tm.cF,hk,Tm.n]
theorem Sub.head(h:Sub B M)(hf:t.bA=true)(hx:t.k=1->ba B t.n=none):bu B M t=.mk t.k t.s t.n (t.l.map (bu B M)):=by
 rw[h.fix hf];obtain⟨k,s,n,l⟩:=t;have h1:=Tm.p6 hf;by_cases hk:k=1;obtain ⟨rfl,rfl⟩:=h1.2 hk;have:=hx hk;simp only[Tm.n]at this;subst hk;simp[Tm.cj,this,Tm.vT,Tm.k,Tm.s,Tm.n,Tm.l];simp only [Tm.cj,if_neg hk,Tm.k,Tm.s,Tm.n,Tm.l,Tm.Gk];congr 1;refine Kb λx hx=>?_
 exact(h.fix (Tm.fz.1 h1.1 x hx)).symm
theorem Sub.Cq(hf:t.bA=true)(hx:x∈t.l):x.bA=true:=by obtain⟨k,s,n,l⟩:=t;exact Tm.fz.1 (Tm.p6 hf).1 x hx
theorem Sub.agr(h:Sub B M)(hf:t.bA=true):(bu B M t).bA=true:=Ul h.fair M t hf (Tm.lz t hf)
namespace Tm
mutual
def lB:Tm->Int->Int->Bool×Int|mk _ _ _ l,left,ak=>if left-1<0\/ak > 100 then(false,left-1)else qe l (left-1) (ak+1)
def qe:List Tm->Int->Int->Bool×Int|[],left,_=>(true,left)|x::r,left,ak=>if(lB x left ak).1 then qe r (lB x left ak).2 ak else(false,(lB x left ak).2)
end
theorem acT(t:Tm)(left ak:Int):lB t left ak=if left-1<0\/ak > 100 then(false,left-1)else qe t.l (left-1) (ak+1):=by cases t;simp only[lB];rfl
mutual
theorem H2:∀(t:Tm) (left ak:Int),0<=left->1<=ak->((lB t left ak).1=true↔(t.size:Int)<=left/\ak+t.depth<=101)/\((lB t left ak).1=true->(lB t left ak).2=left-t.size)/\-1<=(lB t left ak).2/\(lB t left ak).2<=left
 |mk k s n l,left,ak,h0,h1=>by
  have h2:1<=(mk k s n l).depth:=by simp only[depth];omega
  simp only[lB,size,depth];split;grind;rename_i h;obtain⟨h3,h4,h5,h6⟩:=Lp l (left-1) (ak+1) aq aq;refine⟨?_,λhr=>by rw[h4 hr];omega,h5,by omega⟩;rw[h3];constructor;rintro ⟨h7,h8⟩;refine⟨by omega,?_⟩;rcases h8 with h8|h8
  subst h8;simp only[dV];omega;omega;omega
theorem Lp:∀(l:List Tm) (left ak:Int),0<=left->1<=ak->((qe l left ak).1=true↔(aw l:Int)<=left/\(l=[]\/ak+dV l<=101))/\((qe l left ak).1=true->(qe l left ak).2=left-aw l)/\-1<=(qe l left ak).2/\(qe l left ak).2<=left
 |[],left,ak,h0,h1=>by simp only[qe,aw];grind
 |x::r,left,ak,h0,h1=>by
  obtain⟨h2,h3,h4,h5⟩:=H2 x left ak h0 h1;have hx:=size_eq x;simp only[qe,aw,dV];cases hb:(lB x left ak).1 with
  |true=>
   simp only[if_true];have h6:=h3 hb;obtain⟨h7,h8⟩:=h2.1 hb;obtain⟨g1,g2,g3,g4⟩:=Lp r (lB x left ak).2 ak aq h1;refine⟨?_,λhr=>by rw[g2 hr,h6];omega,g3,by omega⟩;rw[g1,h6];constructor;rintro ⟨a,b⟩;refine⟨by omega,.inr ?_⟩;rcases b with b|b
   subst b;simp only[dV];omega;omega;grind
  |false=>grind
end
end Tm
def qX (B:an)(M:Nat)(t:Tm):Tm×Int :=if jI B&&t.bB then(if decide ((bu B M t).size<=3000)&&decide ((bu B M t).depth<=100)then(bu B M t,0)else(aJ,3))else(aJ,1)
end ax
namespace ax
open Go
end ax
namespace ax
open Go
theorem qY (b:Int×Tm)(r:an)(v:Int):ba (b::r) v=if b.1=v then some b.2 else ba r v:=by
 by_cases h:b.1=v;simp[ba,h];have:(b.1==v)=false:=by simpa using h
 simp[ba,this,h]
end ax
namespace ax
open Go
namespace Tm
end Tm
end ax
namespace ax
open Go
def EL (T:Tm):Tm×Int:=if decide (T.size<=3000)&&decide (T.depth<=100)then(T,0)else(aJ,3)
theorem Lq {B:an}{M:Nat}{t:Tm}(h1:jI B=true)(h2:t.bB=true):qX B M t=EL (bu B M t):=by unfold qX EL;simp_all
end ax

namespace ax
open Go
variable{i j:Nat}{B:an}
def jd (C:Nat->Nat->Bool):Nat->Nat->Nat->Bool|0,i,j=>C i j|k+1,i,j=>jd C k i j||(jd C k i k&&jd C k k j)
theorem Um(C:Nat->Nat->Bool)(k i:Nat):jd C (k+1) i k=jd C k i k:=by simp only[jd];simp_all
theorem Un(C:Nat->Nat->Bool)(k j:Nat):jd C (k+1) k j=jd C k k j:=by simp only[jd];simp_all
inductive Way (C:Nat->Nat->Bool):Nat->Nat->Prop
 |one {i j:Nat} (h:C i j=true):Way C i j
 |snoc {i j k:Nat} (h:Way C i j) (h2:C j k=true):Way C i k
theorem Way.trans{C:Nat->Nat->Bool}{i j k:Nat}(h:Way C i j)(h2:Way C j k):Way C i k:=by
 induction h2 with
 |one h3=>exact .snoc h h3
 |snoc _ h3 ih=>exact .snoc ih h3
theorem qf(C:Nat->Nat->Bool):∀(k i j:Nat),jd C k i j=true->Way C i j
 |0,i,j,h=>.one h
 |k+1,i,j,h=>by
  simp only[jd,oy,aV]at h;rcases h with h|⟨h1,h2⟩
  exact qf C k i j h;exact(qf C k i k h1).trans (qf C k k j h2)
theorem Cr(C:Nat->Nat->Bool)(k i j:Nat)(h:C i j=true):jd C k i j=true:=by
 induction k with
 |zero=>exact h
 |succ k ih=>simp[jd,ih]
theorem zC(C:Nat->Nat->Bool):∀(k m i j:Nat),m<k->jd C k i m=true->jd C k m j=true->jd C k i j=true
 |0,m,i,j,h,_,_=>by omega
 |k+1,m,i,j,h,h1,h2=>by
  have ih:=zC C k;by_cases e:m=k;subst e;rw[Um]at h1;rw[Un]at h2;simp[jd,h1,h2];have hm:m<k:=by omega
  simp only[jd,oy,aV]at h1 h2 ⊢;grind
theorem OA{C:Nat->Nat->Bool}{n:Nat}(hC:∀i j,C i j=true->i<n/\j<n)(h:Way C i j):jd C n i j=true:=by
 have hj:∀{i j:Nat},Way C i j->j<n:=λh=>by
  cases h with
  |one h=>grind
  |snoc _ h=>grind
 induction h with
 |one h=>exact Cr C n _ _ h
 |snoc h1 h2 ih=>exact zC C n _ _ _ (hj h1) ih (Cr C n _ _ h2)
def nT (st:List Int)(j:Nat):Prop:=st.getD j 0≠0/\st.getD j 0≠2
def qZ (fR:Nat->List Nat)(i j:Nat):Bool:=(fR i).contains j
theorem Ct{st:List Int}{x:Int}(hi:i<st.length):nT (st.set i x) j↔(if j=i then x≠0/\x≠2 else nT st j):=by unfold nT;grind
theorem YQ(fR:Nat->List Nat)(n:Nat)(Uo:∀i,∀k∈fR i,k<n):∀(f i:Nat) (st:List Int),st.length=n->i<n->kl st<f->(∀j,nT st j->Way (qZ fR) j i) ->
  ((gp fR f i st).1=true/\∀j,nT (gp fR f i st).2 j↔nT st j)\/((gp fR f i st).1=false/\∃c,Way (qZ fR) c c):=by
 intro f;induction f with
 |zero=>omega
 |succ f ih=>
  intro i st hl hi hz hop;simp only[gp];split;rename_i dR;by_cases h2:st.getD i 0=2;simp_all;right;exact⟨by simp_all,i,hop i ⟨dR,h2⟩⟩;rename_i h0;have h0:st.getD i 0=0:=by simpa using h0
  have mG:i<st.length:=by omega
  have Js:=(p8 st i 1 aq).2 mG h0
  have acU:∀j,nT (st.set i 1) j->∀k∈fR i,Way (qZ fR) j k:=λj hj k hk=>by
   have he:qZ fR i k=true:=by simpa[qZ]using hk
   rw[Ct mG]at hj;by_cases e:j=i;subst e;exact .one he;rw[if_neg e]at hj;exact .snoc (hop j hj) he
  have hL:∀(L:List Nat) (JE:List Int),JE.length=n->kl JE<f->(∀k∈L,k∈fR i)->(∀j,nT JE j->∀k∈fR i,Way (qZ fR) j k) ->
    ((my (gp fR f) L JE).1=true/\∀j,nT (my (gp fR f) L JE).2 j↔nT JE j)\/((my (gp fR f) L JE).1=false/\∃c,Way (qZ fR) c c):=by
   intro L;induction L with
   |nil=>intro JE _ _ _ _;exact .inl ⟨rfl,λj=>Iff.rfl⟩
   |cons k r Ug=>
    intro JE Eh Js hk acU;have aI:=hk k aD;have eI:=p9 fR f k JE;simp only[my];rcases ih k JE Eh (Uo i k aI) Js (λj hj=>acU j hj k aI)with ⟨h1,h2⟩|⟨h1,h2⟩
    rw [if_pos h1];rcases Ug (gp fR f k JE).2 (by rw[eI.1,Eh]) aq (λx hx=>hk x oZ) (λj hj=>acU j ((h2 j).1 hj))with ⟨h3,h4⟩|h3
    exact .inl ⟨h3,λj=>(h4 j).trans (h2 j)⟩;exact .inr h3;rw[if_neg Et];exact .inr ⟨rfl,h2⟩
  rcases hL (fR i) (st.set i 1) (by simp[hl]) aq (λ_ h=>h) acU with ⟨h1,h2⟩|⟨h1,h2⟩
  rw [if_pos h1];refine .inl ⟨rfl,λj=>?_⟩
  have a8:((my (gp fR f) (fR i) (st.set i 1)).2).length=n:=by
   have key:∀(L:List Nat) (JE:List Int),JE.length=n->(my (gp fR f) L JE).2.length=n:=by
    intro L;induction L with
    |nil=>intro JE h;exact h
    |cons k r Ug=>intro JE h;have eI:=p9 fR f k JE;simp only[my];split;exact Ug _ (by rw[eI.1,h]);rw[eI.1,h]
   exact key _ _ (by simp[hl])
  rw[Ct aq];by_cases e:j=i;subst e; rw [if_pos rfl];constructor;intro h;exact absurd rfl h.2;intro h;exact absurd h0 h.1;rw[if_neg e,h2 j,Ct mG,if_neg e];simp_all
theorem zD(fR:Nat->List Nat)(n:Nat)(Uo:∀i,∀k∈fR i,k<n):∀(L:List Nat) (st:List Int),st.length=n->(∀i∈L,i<n)->(∀j,¬ nT st j)->kP fR n L st=false->∃c,Way (qZ fR) c c
 |[],st,_,_,_,h=>by cases h
 |i::r,st,hl,hL,hop,h=>by
  have hz:kl st<n+1:=by have:kl st<=st.length:=Kf;omega
  have eI:=p9 fR (n+1) i st;simp only[kP]at h;rcases YQ fR n Uo (n+1) i st hl (hL i aD) hz (λj hj=>absurd hj (hop j))with ⟨h1,h2⟩|⟨_,h2⟩
  rw [if_pos h1]at h;exact zD fR n Uo r _ (by rw[eI.1,hl]) (λx hx=>hL x oZ) (λj hj=>hop j ((h2 j).1 hj)) h;exact h2
theorem acV{fR:Nat->List Nat}(h:Way (qZ fR) i j):∀{m:Nat},xq fR m i->∃q,q<m/\xq fR q j:=by
 induction h with
 |one h=>
  intro m ho;cases ho with
  |@mk q _ ho=>exact⟨q,by omega,ho _ (by simpa[qZ]using h)⟩
 |snoc _ h2 ih=>
  intro m ho;obtain⟨q,h3,h4⟩:=ih ho;cases h4 with
  |@mk q' _ we=>exact⟨q',by omega,we _ (by simpa[qZ]using h2)⟩
theorem Gm{fR:Nat->List Nat}(h:Way (qZ fR) i i):∀{m:Nat},¬ xq fR m i:=by
 intro m;induction m using Nat.strongRecOn with
 |ind m ih=>intro ho;obtain⟨q,h1,h2⟩:=acV h ho;simp_all
theorem R6{i k:Nat}(h:k∈gq B i):k<B.length:=by
 unfold gq at h;split at h;simp only [yo]at h;obtain⟨v,_,h2⟩:=h;split at h2;cases h2;rename_i hp;cases h2;rcases fN B v with ⟨h3,_⟩|⟨j,t,h3,h4,_⟩
 omega;grind;simp at h
theorem YR{i k:Nat}(h:k∈gq B i):i<B.length:=by unfold gq at h;grind
def YS (B:an)(i:Nat):Bool:=match B[i]? with|some b=>decide (0<=b.1)&&decide (b.1<1000000)&&decide (eN B b.1=i)&&b.2.bB|none=>true
def OB (B:an):Bool:=(List.range B.length).all (YS B)&&(List.range B.length).all λi=>!jd (qZ (gq B)) B.length i i
theorem Gn:∀{B:an} {v:Int},ba B v=none->∀b∈B,b.1≠v
 |[],_,_,b,hb=>by simp at hb
 |c::B,v,h,b,hb=>by
  rw[qY]at h;split at h;cases h;rename_i hc;rcases cE.1 hb with rfl|hb
  exact hc;exact Gn h b hb
theorem zE:(B.map (·.1)).Nodup↔∀(i:Nat) (b:Int×Tm),B[i]? = some b->eN B b.1=i:=by
 constructor;intro hn i b hb;rcases fN B b.1 with ⟨_,h2⟩|⟨j,t,h1,h2,_⟩
 exact absurd rfl (Gn h2 b (sq hb));rw [h1];have e1:(B.map (·.1))[i]? = some b.1:=by simp_all
 have e2:(B.map (·.1))[j]? = some b.1:=by simp_all
 obtain⟨l1,e1⟩:=fu.1 e1;obtain⟨l2,e2⟩:=fu.1 e2;have:=(Q6 hn).1 (e2.trans e1.symm);omega;intro h;have hB:∀k,(h:k<B.length)->eN B (B[k]).1=k:=λk hk=>h k _ (dG hk)
 refine List.pairwise_iff_getElem.2 λi j hi hj Up he=>?_
 grind
theorem Uq(B:an):OB B=jI B:=by
 have Uo:∀i,∀k∈gq B i,k<B.length:=λi k hk=>R6 hk
 have hE:∀i j,qZ (gq B) i j=true->i<B.length/\j<B.length:=λi j h=>by
  have h:j∈gq B i:=by simpa[qZ]using h
  exact⟨YR h,R6 h⟩
 have hA:((List.range B.length).all λi=>!jd (qZ (gq B)) B.length i i)=kP (gq B) B.length (List.range B.length) (List.replicate B.length 0):=by
  have h0:∀j,(List.replicate B.length (0:Int)).getD j 0=0:=λj=>by grind
  rw[o5];constructor;intro h;cases hd:kP (gq B) B.length (List.range B.length) (List.replicate B.length 0)with
  |true=>rfl
  |false=>
   obtain⟨c,hc⟩:=zD (gq B) B.length Uo _ _ aD aD (λj hj=>hj.1 (h0 j)) hd
   have dK:c<B.length:=by
    have key:∀{i j:Nat},Way (qZ (gq B)) i j->j<B.length:=λh=>by
     cases h with
     |one h=>grind
     |snoc _ h=>grind
    exact key hc
   have h1:=fB.1 h c (by simpa using dK);rw[OA hE hc]at h1;cases h1
  intro h;rw[fB];intro i hi;obtain⟨m,hm⟩:=xr _ _ (λj hj=>by simp_all) h i hi;cases hw:jd (qZ (gq B)) B.length i i with
  |false=>rfl
  |true=>exact absurd hm (Gm (qf _ _ _ _ hw))
 have hF:(List.range B.length).all (YS B)=(!decide ((zg (B.map (·.1))).length<B.length)&&qd B):=by
  have hn:(!decide ((zg (B.map (·.1))).length<B.length))=true↔(B.map (·.1)).Nodup:=by have:=YL (V:=B.map (·.1));rw[fQ,<-acS]at this;simp_all
  rw[o5,aV,hn,zE,fB,qd,fB];constructor;intro h;have key:∀(i:Nat) (b:Int×Tm),B[i]? = some b->(0<=b.1/\b.1<1000000)/\eN B b.1=i/\b.2.bB=true:=λi b hb=>by have:=h i (by simp;exact(fu.1 hb).1);rw[YS,hb]at this;simp only[aV,decide_eq_true_eq]at this;exact⟨this.1.1,this.1.2,this.2⟩
  refine⟨λi b hb=>(key i b hb).2.1,λb hb=>?_⟩;obtain⟨i,hi⟩:=wD.1 hb;grind;rintro ⟨h1,h2⟩ i hi;have mG:i<B.length:=by simpa using hi
  have hb:B[i]? = some (B[i]'mG):=dG _;have h3:=h2 _ (sq hb);simp only[aV,decide_eq_true_eq]at h3;rw[YS,hb];grind
 rw[OB,hA,hF,jI]
end ax

namespace ax
open Go
abbrev Prs:=List (Tm×Tm)
def H3 (p:Tm×Tm):List D:=Tm.row p.1++Tm.row p.2
def gx (M:Prs):List (List D):=M.map H3
theorem iY (l:Prs):(gx l).length=l.length:=by simp[gx]
theorem Lr {l:Prs}{i:Nat}{x:Tm×Tm}(h:l[i]? = some x):(gx l)[i]? = some (H3 x):=by simp[gx,h]
namespace Tm
end Tm
end ax
namespace ax
open Go
namespace Tm
end Tm
namespace Tm
end Tm
def gd (at_:List Nat)(j:Nat):Int:=((at_.getD j 0:Nat):Int)
end ax
namespace ax
open Go
end ax
namespace ax
open Go
end ax
namespace ax
open Go
end ax
namespace ax
open Go
theorem acW {t:Tm}{m d:Int}(h:-1<=m/\m<0):t.pB m d=-1:=by rw[Tm.Od,if_pos];simp only[Tm.qS];rw[show IntKind.i64.wrap (m-1)=m-1 from pX aq aq,decide_eq_true (by omega:m-1<0)];rfl
theorem Ur (t:Tm){m d:Int}(h0:-1<=m)(h1:m<9223372036854775808)(h2:d<=1000):-1<=t.pB m d/\t.pB m d<=m/\(0<=t.pB m d->t.pB m d+t.size<=m/\∀x e,e∈t.gX x->e.2.s.size<=100):=by
 by_cases h:m<0;rw[acW ⟨h0,h⟩];exact⟨by omega,by omega,λh=>by omega⟩;rcases Tm.Yt t m d aq h1 h2 with h3| ⟨h3,_,_,h4,h5⟩
 rw[h3];exact⟨by omega,by omega,λh=>by omega⟩;exact⟨by omega,by omega,λ_=>⟨h3,h5⟩⟩
end ax

namespace ax
open Go Go.RowKit Go.MapKept
variable{gd:Option (Nat×Bool)}{after:Array Edge}{dst:Option Nat}{az:List Oper}{objs:List Ob}{w:World}{pos:String}{k:List It}{ty T:Nat}{E:bq}
abbrev Sg:=ByteArray×Int
def qB (p:Sg):Value:=.agg #[.string p.1,.int .i64 p.2]
def sgA (p:Sg):AV:=.agg [.d (.v (.string p.1)),.d (.v (.int .i64 p.2))]
def mW (l:List (Sg×AV)):List (Value×AV):=l.map λe=>(qB e.1,e.2)
def EM:List (Sg×AV)->Sg->Option AV|[],_=>none|e::r,p=>if e.1=p then some e.2 else EM r p
def EN:List (Sg×AV)->Sg->AV->List (Sg×AV)|[],p,v=>[(p,v)]|e::r,p,v=>if e.1=p then(p,v)::r else e::EN r p v
structure YT (P:Program) (kt:TypeId):Prop where
 und:∃fs,P.underlying kt=some (.struct fs)
 eq:∀p q w,(Op.equal kt (qB p) (qB q)).run P w=.ok (decide (p=q)) w
 ck:∀b p w,(Instr.checkKey b 10000 kt (qB p)).run P w=.ok () w
theorem Cu{P:Program}{kt:TypeId}(hk:YT P kt){S:Nat->Prop}{w:World}{φ:List bI}(p:Sg):∀{l:List (Sg×AV)} {ents:List MapEntry} {i:Nat},nC S w φ (mW l) ents ->
  match EM l p with
  |none=>(Instr.findAsking kt (qB p) ents i).run P w=.ok none w/\∀v,EN l p v=l++[(p,v)]
  |some x=>∃j v,(Instr.findAsking kt (qB p) ents i).run P w=.ok (some (i+j,v)) w/\RV S w φ x v/\(∃f,ents[j]? = some f/\f.key=qB p)/\j<l.length/\∀v,EN l p v=l.set j (p,v)
 |[],ents,i,h=>by
  cases ents with
  |nil=>simp[EM,Instr.findAsking,EN]
  |cons _ _=>have:=h.1;simp[mW]at this
 |e::l,ents,i,h=>by
  cases ents with
  |nil=>have:=h.1;simp[mW]at this
  |cons f ents=>
   obtain⟨h1,h2⟩:=h;simp only[mW,bM,List.cons.injEq]at h1;obtain⟨hf,h1⟩:=h1;simp only[mW,bM,aW]at h2;simp only[EM];by_cases he:e.1=p;rw [if_pos he];refine⟨0,f.val,?_,h2.1,⟨f,rfl,by rw[<-hf,he]⟩,by simp,λv=>by simp only[EN];simp_all⟩;simp only[Instr.findAsking,Sem.run_bind,<-hf,hk.eq,Result.andThen_ok];simp[he];rw [if_neg he];have hd:decide (p=e.1)=false:=decide_eq_false λh=>he h.symm
   have:=Cu hk p (l:=l) (ents:=ents) (i:=i+1) ⟨by simpa[mW]using h1,by simpa[mW]using h2.2⟩;have eX:(Instr.findAsking kt (qB p) (f::ents) i).run P w=(Instr.findAsking kt (qB p) ents (i+1)).run P w:=by simp only[Instr.findAsking,Sem.run_bind,<-hf,hk.eq,Result.andThen_ok,hd];simp
   cases hg:EM l p with
   |none=>rw[hg]at this;simp only at this ⊢;exact⟨by simp_all,λv=>by simp only[EN];simp_all⟩
   |some x=>rw[hg]at this;simp only at this ⊢;obtain⟨j,v,g1,g2,⟨f',g3,g4⟩,g5,g6⟩:=this;refine⟨j+1,v,by grind,g2,⟨f',by simp_all,g4⟩,by simp_all,λv=>by simp only[EN];simp_all⟩
theorem xu{P:Program}{kt:TypeId}(hk:YT P kt)(p:Sg){ents:List MapEntry}(h:ents=[]\/∃q,∃f r,ents=f::r/\f.key=qB q):(Instr.findKey kt (qB p) ents).run P w=(Instr.findAsking kt (qB p) ents 0).run P w:=by
 obtain⟨fs,hu⟩:=hk.und;rcases h with rfl|⟨q,f,r,rfl,hf⟩
 simp[Instr.findKey,run_underlying hu,Instr.findNow,Instr.findAsking];simp[Instr.findKey,run_underlying hu,Instr.findNow,Instr.sameNow,qB]
theorem Cv{S:Nat->Prop}{φ:List bI}{l:List (Sg×AV)}{ents:List MapEntry}(h:nC S w φ (mW l) ents):ents=[]\/∃q,∃f r,ents=f::r/\f.key=qB q:=by
 cases ents with
 |nil=>exact .inl rfl
 |cons f r=>
  cases l with
  |nil=>have:=h.1;simp[mW]at this
  |cons e l=>have:=h.1;simp only[mW,bM,List.cons.injEq]at this;grind
theorem acX(p:Sg):Instr.sameBits 10000 (qB p) (qB p)=true:=by simp[qB,Instr.sameBits,bytes_beq]
theorem EO{P:Program}(p:Sg):(Instr.keyThatStays (qB p) (qB p)).run P w=.ok (qB p) w:=by simp[Instr.keyThatStays,acX]
section
variable {g:G} {pf:Nat->cI} {ad:Array Oper} {Fin:Exit->Act->World->Prop}
theorem R7{S:Nat->Prop}{φ:List bI}{p:Sg}{v:Value}(h:RV S w φ (sgA p) v):v=qB p:=by
 simp only[sgA,RV]at h;obtain⟨cs,rfl,h⟩:=h;match cs,h with
 |[x,y],h=>simp only[aW,RV,and_true]at h;obtain⟨h1,h2⟩:=h;cases h1;cases h2;rfl
 |[],h=>simp[aW]at h
 |[_],h=>simp[aW]at h
 |_::_::_::_,h=>simp[aW]at h
theorem R8{S:Nat->Prop}{w:World}{φ:List bI}{x:AV}{u:Value}:∀{l:List AV} {vs:List Value} (j:Nat),aW S w φ l vs->RV S w φ x u->aW S w φ (l.set j x) (vs.set j u)|[],[],_,_,_=>by simp[aW]|[],_::_,_,h,_=>by simp[aW]at h|_::_,[],_,h,_=>by simp[aW]at h|a::l,b::vs,0,h,hx=>by simp only[aW,ahz]at h ⊢;simp_all|a::l,b::vs,j+1,h,hx=>by simp only[aW,Xc]at h ⊢;exact⟨h.1,R8 j h.2 hx⟩
theorem rH{α:Type}(f:α->α):∀(l:List α) (j:Nat) (x:α),l[j]? = some x->l.modify j f=l.set j (f x)|[],j,x,h=>by simp at h|a::l,0,x,h=>by simp_all|a::l,j+1,x,h=>by simp at h;simp only[List.modify_succ_cons,Xc];rw[rH f l j x h]
theorem aiL(hg:di g){x y v:Operand}
  {i q cq kt et:Nat} {z:List Value} {v':AV} (p:Sg) (l l':List (Sg×AV)) (hk:YT g.P kt)
  (bt:aH ad.toList E gd=some true) (hd:aQ ⟨g.ty,g.N⟩ dst=true) (hx:ev E x=.mp i) (ho:dq objs i=some (.map (mW l))) (hy:ev E y=sgA p) (hT:g.ty T=some ⟨q,cq,z,.map kt et⟩)
  (hv:bJ (ev E v) v') (hl:EN l p v'=l')
  (hr:R g pf Fin (.dr ad az::k) (bh E dst .any) (dj objs i (.map (mW l')))):R g pf Fin (.dr ad (⟨dst,.mapUpdate T x y v,ty,pos,after,gd⟩::az)::k) E objs:=by
 subst hl;refine cU (aK.eU hg (pW ho) bt hd aD λφ a' w hρ hs=>?_) hr;simp only[Op.operands]at hρ;have aP:=hρ x aD;rw[hx]at aP;have eC:=hρ y aD;rw[hy]at eC;have o6:=R7 eC;have hvv:=hv _ _ _ _ (hρ v aD);simp only[RV]at aP;obtain⟨b',hb,aP⟩:=aP;have sA:=cO hs hb ho;simp only[bj]at sA;obtain⟨ents,jr,bg,dH⟩:=sA;have lf:g.P.underlying T=some (.map kt et):=by have:=(hg.ty _ _ hT).sh;simpa only[bH]using this
 have c0:=Cu hk p (i:=0) dH;have V5:=xu hk (w:=w) p (Cv dH);rw[bx];cases yg:EM l p with
 |none=>
  rw[yg]at c0;simp only at c0;obtain⟨c0,anj⟩:=c0;rw[anj];have lr:=heap_set (o':=.map (ents.push {key:=qB p,val:=a'.eval v,born:=jr}) (jr+1)) bg;refine⟨.skip,undef,{w with heap:=w.heap.setIfInBounds b' (.map (ents.push {key:=qB p,val:=a'.eval v,born:=jr}) (jr+1))},φ.set i (.jK b'),?_,.inr ⟨rfl,rfl⟩,by simp[RV],?_⟩;simp[execOp,Instr.mapUpdate,run_underlying lf,aP,run_getObj_map bg,o6,hk.ck,V5,c0,run_setObj_map _ bg];refine j8.swap hs hb (.inl rfl) aD (λc _ hc=>lr.2 c λe=>hc Hj) (λb' hb=>.inl hb) rfl rfl rfl λbF hle=>?_
  simp only[bj];refine⟨_,_,lr.1,?_,?_⟩;have:=dH.1;simp only[mW,eR,kn,bM,fm,Kg]at this ⊢;rw[this];have:=(dH.2.mono bF hle).append (l':=[v']) (vs':=[a'.eval v]) Ts;simpa[mW]using this
 |some x0=>
  rw[yg]at c0;simp only at c0;obtain⟨j,vv,h1,h2,⟨f,h3,h4⟩,h5,h6⟩:=c0;rw[zj]at h1;rw[h6];obtain⟨f',hf'⟩:∃f':MapEntry->MapEntry,f'=λe=>{e with key:=qB p,val:=a'.eval v}:=⟨_,rfl⟩
  have lr:=heap_set (o':=.map (ents.modify j f') jr) bg;have h3':ents[j]? = some f:=by simpa using h3
  refine⟨.skip,undef,{w with heap:=w.heap.setIfInBounds b' (.map (ents.modify j f') jr)},φ.set i (.jK b'),?_,.inr ⟨rfl,rfl⟩,by simp[RV],?_⟩;simp[execOp,Instr.mapUpdate,run_underlying lf,aP,run_getObj_map bg,o6,hk.ck,V5,h1,h3',h4,EO,run_setObj_map _ bg,hf'];refine j8.swap hs hb (.inl rfl) aD (λc _ hc=>lr.2 c λe=>hc Hj) (λb' hb=>.inl hb) rfl rfl rfl λbF hle=>?_
  simp only[bj];have hml:(ents.modify j f').toList=ents.toList.set j (f' f):=by rw[Array.toList_modify,rH f' _ _ f h3]
  refine⟨_,_,lr.1,?_,?_⟩;have:=dH.1;rw[hml];simp only[mW,kn,List.map_set]at this ⊢;rw[this,hf'];have:=R8 j (dH.2.mono bF hle) (hvv.mono bF hle);rw[hml];simp only[mW,kn,List.map_set]at this ⊢;simp_all
structure OC (P:Program) (T:Nat):Prop where
 eql:∀(x y:Operand) (p q:Sg) (w:World),((do eqGuard .eql T x y (qB p) (qB q);binOp .eql T (qB p) (qB q)):Sem Value).run P w=.ok (.bool (decide (p=q))) w
 neq:∀(x y:Operand) (p q:Sg) (w:World),((do eqGuard .neq T x y (qB p) (qB q);binOp .neq T (qB p) (qB q)):Sem Value).run P w=.ok (.bool (!decide (p=q))) w
theorem R9(hg:di g)(p q:Sg){T T':Nat}{x y:Operand}(hc:OC g.P T)
  (bt:aH ad.toList E gd=some true) (hd:aQ ⟨g.ty,g.N⟩ dst=true) (hx:ev E x=sgA p) (hy:ev E y=sgA q)
  (hr:R g pf Fin (.dr ad az::k) (bh E dst (bV (decide (p=q)))) objs):R g pf Fin (.dr ad (⟨dst,.binOp .eql T x y T',ty,pos,after,gd⟩::az)::k) E objs:=by
 refine cU (aK.up (aK.quiet hg bt hd aD λφ objs w' w hρ fk=>?_)) hr;simp only[Op.operands]at hρ;have aP:=hρ x aD;rw[hx]at aP;have eC:=hρ y aD;rw[hy]at eC;have ex:=R7 aP;have ey:=R7 eC;refine aZ fk (vv:=.bool (decide (p=q))) ?_ (by simp only[bV,RV];exact .v _);have h2:=hc.eql x y p q w;simp only[Sem.run_bind]at h2;simp only[execOp,Sem.run_bind,ex,ey];simp_all
theorem Cw(hg:di g){x y:Operand}{ok:Bool}
  {q cq kt et:Nat} {ds:List (Value×D)} {z:List Value} {zv:Value} (p:Sg) (l:List (Sg×AV)) (hl:ds.map (λp=>(p.1,AV.d p.2))=mW l) (hk:YT g.P kt)
  (bt:aH ad.toList E gd=some true) (hd:aQ ⟨g.ty,g.N⟩ dst=true) (hx:ev E x=.d (.map ds)) (hy:ev E y=sgA p) (hT:g.ty T=some ⟨q,cq,z,.map kt et⟩)
  (hz:(g.P.info? et).bind (·.zero)=some zv) {v:AV} (hv:jG ok (lZ zv) (EM l p)=v)
  (hr:R g pf Fin (.dr ad az::k) (bh E dst v) objs):R g pf Fin (.dr ad (⟨dst,.lookup T x y ok,ty,pos,after,gd⟩::az)::k) E objs:=by
 subst hv;refine cU (aK.quiet hg bt hd aD λφ bW a w hρ hs=>?_) hr;simp only[Op.operands]at hρ;have aP:=hρ x aD;rw[hx]at aP;have eC:=hρ y aD;rw[hy]at eC;have o6:=R7 eC;simp only[RV]at aP;generalize Wa:a.eval x=vx at aP
 obtain⟨b,ents,jr,rfl,bg,dH⟩:∃(b:Nat) (ents:Array MapEntry) (jr:Nat),vx=.map (some b)/\w.heap[b]? = some (.map ents jr)/\nC (SS g.S0 φ) w φ (ds.map λp=>(p.1,AV.d p.2)) ents.toList:=by
  cases aP with
  |map g' hS hb hk yg Ei=>
   refine⟨_,_,_,rfl,hb,by simpa[kn,Function.comp_def]using hk,?_⟩;have a8:=congrArg List.length hk;simp only[fQ,ab9]at a8;refine aW.sv jD λj u v hu hv=>?_
   rw[fP,fP]at hu;cases hj:ds[j]? with
   |none=>simp_all
   |some x=>rw[hj]at hu;simp at hu;subst hu;rw[fP,Array.getElem?_toList,yg j x hj]at hv;cases hv;simpa only[RV]using Ei j x hj
 rw[hl]at dH;have lf:g.P.underlying T=some (.map kt et):=by have:=(hg.ty _ _ hT).sh;simpa only[bH]using this
 have hzero:(zeroValue et).run g.P w=.ok zv w:=by exact Xu
 have hzR:RV (SS g.S0 φ) w φ (lZ zv) zv:=ix (l:=[]) (E:=[]) (E₁:=[]) (a:={tmps:=#[],defers:=[]}) aD (λt=>by simp[lk,RV]) (.const zv);have c0:=Cu hk p (i:=0) dH;have V5:=xu hk (w:=w) p (Cv dH);cases yg:EM l p with
 |none=>rw[yg]at c0;simp only at c0;refine aZ hs (vv:=if ok then .tuple #[zv,.bool false]else zv) ?_ ?_;simp[execOp,Instr.lookup,run_underlying lf,Wa,run_getObj_map bg,o6,hk.ck,V5,c0.1,hzero];simp only [jG];cases ok;simpa using hzR;simp only [if_true,RV];exact Xt
 |some x=>rw[yg]at c0;simp only at c0;obtain⟨j,vv,h1,h2,_⟩:=c0;refine aZ hs (vv:=if ok then .tuple #[vv,.bool true]else vv) ?_ ?_;simp[execOp,Instr.lookup,run_underlying lf,Wa,run_getObj_map bg,o6,hk.ck,V5,h1];simp only [jG];cases ok;simpa using h2;simp only [if_true,RV];exact Xv
end
end ax

namespace ax
open Go
inductive Gl where
 |mk (k:Int) (t:Tm) (a b c:List Gl)
variable{ty:Nat->Option Ty}{g:Gl}{T:Nat}
namespace Gl
def k:Gl->Int|mk k _ _ _ _=>k
def t:Gl->Tm|mk _ t _ _ _=>t
def a:Gl->List Gl|mk _ _ a _ _=>a
def b:Gl->List Gl|mk _ _ _ b _=>b
def c:Gl->List Gl|mk _ _ _ _ c=>c
theorem ind{p:Gl->Prop}(h:∀g:Gl,(∀x∈g.a,p x)->(∀x∈g.b,p x)->(∀x∈g.c,p x)->p g)(g:Gl):p g :=Gl.rec (motive_1:=p) (motive_2:=λl=>∀x∈l,p x) (λk t a b c ha hb hc=>h (.mk k t a b c) ha hb hc) aD (λx r h1 h2=>by simp_all) g
theorem Cx{p:List Gl->Prop}(h:∀l:List Gl,(∀x∈l,p x.a/\p x.b/\p x.c)->p l)(l:List Gl):p l:=by
 have key:∀g:Gl,p g.a/\p g.b/\p g.c:=λg=>ind (p:=λg=>p g.a/\p g.b/\p g.c) (λg h1 h2 h3=>⟨h _ h1,h _ h2,h _ h3⟩) g
 simp_all
mutual
def Oc:Gl->List D|mk k t a b c=>[.v (.int .i64 k),.v (.int .i64 t.k),.v (.string t.s),.v (.int .i64 t.n),.sl (Tm.aa t.l),.sl (aa a),.sl (aa b),.sl (aa c)]
def aa:List Gl->List (List D)|[]=>[]|g::r=>Oc g::aa r
end
def row (g:Gl):List D:=[.v (.int .i64 g.k),.v (.int .i64 g.t.k),.v (.string g.t.s),.v (.int .i64 g.t.n),.sl (Tm.aa g.t.l),.sl (aa g.a),.sl (aa g.b),.sl (aa g.c)]
theorem HL(g:Gl):Oc g=row g:=by cases g;simp only[Oc,row,k,t,a,b,c]
theorem eo(l:List Gl):aa l=l.map row:=by
 induction l with
 |nil=>rfl
 |cons x r ih=>simp only[aa,HL,bM,ih]
theorem ao(l:List Gl):(aa l).length=l.length:=by rw[eo];simp
theorem ay{l:List Gl}{i:Nat}{x:Gl}(h:l[i]? = some x):(aa l)[i]? = some (row x):=by rw[eo,fP,h];rfl
def av (g:Gl):AV:=.agg [.d (.v (.int .i64 g.k)),.d (.v (.int .i64 g.t.k)),.d (.v (.string g.t.s)),.d (.v (.int .i64 g.t.n)),.d (.sl (Tm.aa g.t.l)),.d (.sl (aa g.a)),.d (.sl (aa g.b)),.d (.sl (aa g.c))]
mutual
def size:Gl->Nat|mk _ t a b c=>t.size+aw a+aw b+aw c
def aw:List Gl->Nat|[]=>0|g::r=>size g+aw r
end
theorem size_eq(g:Gl):g.size=g.t.size+aw g.a+aw g.b+aw g.c:=by cases g;simp only[size,t,a,b,c]
theorem uP(t:Tm):1<=t.size:=by cases t;simp only[Tm.size];omega
theorem size_pos(g:Gl):1<=g.size:=by rw[size_eq];have:=uP g.t;omega
theorem me(l:List Gl):l.length<=aw l:=by
 induction l with
 |nil=>simp
 |cons x r ih=>simp only[aw,dx];have:=size_pos x;omega
theorem b8{l:List Gl}{x:Gl}(h:x∈l):x.size<=aw l:=by
 induction l with
 |nil=>cases h
 |cons y r ih=>simp only[aw];grind
inductive Ok:Gl->Prop
 |mk {k:Int} {t:Tm} {a b c:List Gl}:ji k->t.Ok/\t.Fit->a.length<=140737488355328->b.length<=140737488355328->c.length<=140737488355328->(∀x∈a,Ok x)->(∀x∈b,Ok x)->(∀x∈c,Ok x)->Ok (.mk k t a b c)
theorem Ok.tm(h:g.Ok):g.t.Ok/\g.t.Fit:=by cases h;assumption
theorem Ok.la(h:g.Ok):g.a.length<=140737488355328:=by cases h;assumption
theorem Ok.lb(h:g.Ok):g.b.length<=140737488355328:=by cases h;assumption
theorem Ok.lc(h:g.Ok):g.c.length<=140737488355328:=by cases h;assumption
theorem Ok.ma(h:g.Ok):∀x∈g.a,Ok x:=by cases h;assumption
theorem Ok.mb(h:g.Ok):∀x∈g.b,Ok x:=by cases h;assumption
theorem Ok.mc(h:g.Ok):∀x∈g.c,Ok x:=by cases h;assumption
end Gl
structure Cs where
 head:Tm
 body:List Gl
 vars:Int
namespace Cs
def row (x:Cs):List D:=[.v (.int .i64 x.head.k),.v (.string x.head.s),.v (.int .i64 x.head.n),.sl (Tm.aa x.head.l),.sl (Gl.aa x.body),.v (.int .i64 x.vars)]
def aa (l:List Cs):List (List D):=l.map row
theorem fD(l:List Cs):(aa l).length=l.length:=by simp[aa]
theorem ay{l:List Cs}{i:Nat}{x:Cs}(h:l[i]? = some x):(aa l)[i]? = some (row x):=by simp[aa,h]
def av (x:Cs):AV:=.agg [.d (.v (.int .i64 x.head.k)),.d (.v (.string x.head.s)),.d (.v (.int .i64 x.head.n)),.d (.sl (Tm.aa x.head.l)),.d (.sl (Gl.aa x.body)),.d (.v (.int .i64 x.vars))]
def size (x:Cs):Nat:=x.head.size+Gl.aw x.body
def aw:List Cs->Nat|[]=>0|x::r=>size x+aw r
structure Ok (x:Cs):Prop where
 head:x.head.Ok/\x.head.Fit
 vars:ji x.vars
 len:x.body.length<=140737488355328
 body:∀g∈x.body,g.Ok
end Cs
def Al (l:List Cs):AV:=.agg [.d (.sl (Cs.aa l))]
structure vH (ty:Nat->Option Ty) (T TT:Nat):Prop where
 ex:∃(a s:Nat) (τ τa τs:Ty),ty T=some τ/\τ.sh=.struct [(0,a),(1,TT),(5,s),(6,s),(7,s)]/\τ.size=8/\1<=τ.bytes/\ty a=some τa/\τa.sh=.int .i64/\ty s=some τs/\τs.sh=.slice T
def Sa (ty:Nat->Option Ty)(T TT:Nat):Bool :=
 match ty T with
 |some ⟨8,cq,_,.struct [(0,a),(1,T'),(5,s),(6,s'),(7,s'')]⟩=>Nat.ble 1 cq&&(match ty a with|some ⟨_,_,_,.int .i64⟩=>true|_=>false)&&(match ty s with|some ⟨_,_,_,.slice T2⟩=>Nat.beq T2 T|_=>false)&&Nat.beq T' TT&&Nat.beq s' s&&Nat.beq s'' s
 |_=>false
theorem OD{T TT:Nat}(h:Sa ty T TT=true):vH ty T TT:=by
 unfold Sa at h;split at h
 case h_2=>cases h
 rename_i cq z a T' s s' s'' hT;simp only[aV]at h;obtain⟨⟨⟨⟨⟨h0,h1⟩,h2⟩,h3⟩,h4⟩,h5⟩:=h;split at h1
 case h_2=>cases h1
 rename_i ha;split at h2
 case h_2=>cases h2
 rename_i hs;have:=cB h2;subst this;have:=cB h3;subst this;have:=cB h4;subst this;have:=cB h5;subst this;exact⟨a,_,_,_,_,hT,rfl,rfl,ko h0,ha,rfl,hs,rfl⟩
theorem H4{T S B:Nat}{τ τs:Ty}(hτ:ty T=some τ)(Lc:1<=τ.bytes)(hs:ty S=some τs)(fk:τs.sh=.slice T)(hB:B<=140737488355328)(n:Nat)(ih:∀m,m<=n->∀row,c8 ty B m T row->∃g:Gl,row=g.row/\g.Ok)(row:List D)(h:c8 ty B (n+1) S row) :
  ∃l:List Gl,row=[.sl (Gl.aa l)]/\l.length<=140737488355328/\∀x∈l,x.Ok:=by
 obtain⟨aa,rfl,a8,eE⟩:=tJ hs fk h
 have hch:∃l:List Gl,aa=l.map Gl.row/\∀x∈l,x.Ok:=by
  clear a8 h;induction aa with
  |nil=>simp_all
  |cons r aa Ug=>
   obtain⟨g,h1,h2⟩:=ih n cZ r (eE r aD);obtain⟨l,Eh,ky⟩:=Ug λr hr=>eE r (by simp[hr])
   exact⟨g::l,by simp[h1,Eh],by simp_all⟩
 obtain⟨l,rfl,hl⟩:=hch;refine⟨l,by rw[Gl.eo],?_,hl⟩;have:=a8 τ hτ;rw[fQ]at this;exact vd (Xk _ Lc) (vd this hB)
theorem ank{T TT B:Nat}(hT:sG ty TT)(hG:vH ty T TT)(hB:B<=140737488355328):∀(n:Nat) (row:List D),c8 ty B n T row->∃g:Gl,row=g.row/\g.Ok:=by
 obtain⟨a,s,τ,τa,τs,h1,h2,h3,Lc,ha,ha',hs,fk⟩:=hG.ex;intro n;induction n using Nat.strongRecOn with
 |_ n ih=>
 intro row h;cases n with
 |zero=>simp[c8]at h
 |succ n=>
  simp only[c8,h1,h2,xf]at h;obtain⟨_,ra,_,g1,rfl,g2,g3,_,rb,_,g4,rfl,g5,g6,_,rc,_,g7,rfl,g8,g9,_,rd,_,g10,rfl,g11,g12,_,re,_,g13,rfl,g14,g15,rfl⟩:=h;rw[ha]at g1;cases g1;rw[hs]at g7;cases g7;rw[hs]at g10;cases g10;rw[hs]at g13;cases g13;obtain⟨k,rfl,hk⟩:=xj ha ha' g3;obtain⟨t,rfl,ht⟩:=agq hT hB n rb g6;cases n with
  |zero=>simp[c8]at g9
  |succ n=>
   have ih':∀m,m<=n->∀row,c8 ty B m T row->∃g:Gl,row=g.row/\g.Ok:=λm hm=>ih m aq
   obtain⟨la,rfl,a1,a2⟩:=H4 h1 Lc hs fk hB n ih' rc g9;obtain⟨lb,rfl,b1,b2⟩:=H4 h1 Lc hs fk hB n ih' rd g12;obtain⟨lc,rfl,c1,c2⟩:=H4 h1 Lc hs fk hB n ih' re g15;refine⟨.mk k t la lb lc,by simp[Gl.row,Tm.row,Gl.k,Gl.t,Gl.a,Gl.b,Gl.c],.mk hk ht a1 b1 c1 a2 b2 c2⟩
structure qg (ty:Nat->Option Ty) (T TT TG:Nat):Prop where
 ex:∃(s a:Nat) (τ τs τa:Ty),ty T=some τ/\τ.sh=.struct [(0,TT),(4,s),(5,a)]/\τ.size=6/\1<=τ.bytes/\ty a=some τa/\τa.sh=.int .i64/\ty s=some τs/\τs.sh=.slice TG
def Gp (ty:Nat->Option Ty)(T TT TG:Nat):Bool :=
 match ty T with
 |some ⟨6,cq,_,.struct [(0,T'),(4,s),(5,a)]⟩=>Nat.ble 1 cq&&(match ty a with|some ⟨_,_,_,.int .i64⟩=>true|_=>false)&&(match ty s with|some ⟨_,_,_,.slice T2⟩=>Nat.beq T2 TG|_=>false)&&Nat.beq T' TT
 |_=>false
theorem H5{T TT TG:Nat}(h:Gp ty T TT TG=true):qg ty T TT TG:=by
 unfold Gp at h;split at h
 case h_2=>cases h
 rename_i cq z T' s a hT;simp only[aV]at h;obtain⟨⟨⟨h0,h1⟩,h2⟩,h3⟩:=h;split at h1
 case h_2=>cases h1
 rename_i ha;split at h2
 case h_2=>cases h2
 rename_i hs;have:=cB h2;subst this;have:=cB h3;subst this;exact⟨_,_,_,_,_,hT,rfl,rfl,ko h0,ha,rfl,hs,rfl⟩
theorem agt{T TT TG B:Nat}(hT:sG ty TT)(hG:vH ty TG TT)(hC:qg ty T TT TG)(hB:B<=140737488355328)(n:Nat)(row:List D)(h:c8 ty B n T row):∃x:Cs,row=x.row/\x.Ok:=by
 obtain⟨s,a,τ,τs,τa,h1,h2,h3,Lc,ha,ha',hs,fk⟩:=hC.ex;obtain⟨_,_,τg,_,_,q1,_,_,q4,_⟩:=hG.ex;cases n with
 |zero=>simp[c8]at h
 |succ n=>
  simp only[c8,h1,h2,xf]at h;obtain⟨_,ra,_,g1,rfl,g2,g3,_,rb,_,g4,rfl,g5,g6,_,rc,_,g7,rfl,g8,g9,rfl⟩:=h;rw[ha]at g7;cases g7;obtain⟨t,rfl,ht⟩:=agq hT hB n ra g3;obtain⟨v,rfl,hv⟩:=xj ha ha' g9;cases n with
  |zero=>simp[c8]at g6
  |succ n=>obtain⟨l,rfl,l1,l2⟩:=H4 q1 q4 hs fk hB n (λm _ row h=>ank hT hG hB m row h) rb g6;exact⟨⟨t,l,v⟩,by simp[Cs.row,Tm.row],⟨ht,hv,l1,l2⟩⟩
section
variable {ty:Nat->Option Ty} {T TT TG TS B:Nat} {n:Nat} {τ:Ty} {row:List D} {a:AV}
theorem aiM(hT:sG ty TT)(hG:vH ty TG TT)(hC:qg ty T TT TG)(hB:B<=140737488355328)(hτ:ty T=some τ)(h:c8 ty B n T row)(ha:a=vB τ row):∃x:Cs,a=x.av/\x.Ok:=by obtain⟨x,rfl,hx⟩:=agt hT hG hC hB n row h;refine⟨x,?_,hx⟩;obtain⟨_,_,τ',_,_,g1,g2,_⟩:=hC.ex;rw[hτ]at g1;cases g1;rw[ha];unfold vB Ty.agg;rw[g2];rfl
theorem YU{TC TP s:Nat}{τs:Ty}(hT:sG ty TT)(hG:vH ty TG TT)(hC:qg ty TC TT TG)(hB:B<=140737488355328)(hτ:ty TP=some τ)(eI:τ.sh=.struct [(0,s)])(hs:ty s=some τs)(Rk:τs.sh=.slice TC)(h:c8 ty B n TP row)(ha:a=vB τ row):∃l:List Cs,a=Al l/\(∀x∈l,x.Ok)/\l.length<=140737488355328:=by
 obtain⟨_,_,τc,_,_,q1,_,_,q4,_⟩:=hC.ex;cases n with
 |zero=>simp[c8]at h
 |succ n=>
  simp only[c8,hτ,eI,xf]at h;obtain⟨_,ra,_,g1,rfl,g2,g3,rfl⟩:=h;rw[hs]at g1;cases g1;cases n with
  |zero=>simp[c8]at g3
  |succ n=>
   obtain⟨aa,rfl,a8,eE⟩:=tJ hs Rk g3
   have hch:∃l:List Cs,aa=Cs.aa l/\∀x∈l,x.Ok:=by
    clear a8 g3 g2 ha;induction aa with
    |nil=>exact⟨[],rfl,by simp⟩
    |cons r aa Ug=>
     obtain⟨g,h1,h2⟩:=agt hT hG hC hB n r (eE r aD);obtain⟨l,Eh,ky⟩:=Ug λr hr=>eE r (by simp[hr])
     exact⟨g::l,by simp[Cs.aa,h1,Eh],by simp_all⟩
   obtain⟨l,rfl,hl⟩:=hch;refine⟨l,?_,hl,?_⟩;rw[ha];unfold vB Ty.agg;rw[eI];rfl;have:=a8 τc q1;rw[Cs.fD]at this;exact vd (Xk _ q4) (vd this hB)
end
end ax

namespace Go.Proofs.YtmjmngigbachdaaGreatDoor
open Go ax Go.Proofs Go.ChangeShapes Go.WideShapes Go.ChangeAt Go.RowKit
theorem aqe:ownKnob Tryz.prog.godebug=none:=by kernel_rfl
theorem anl:laidOutB Tryz.prog=true:=by kernel_rfl
theorem isTerm:sG tyT.get 27:=Oy da
theorem YV:vH tyT.get 35 27:=OD da
theorem Ls:qg tyT.get 30 27 35:=H5 da
def vI:List Nat:=[3,9,4,27,25,209,182,5,35,28,30,22,24]
theorem YW:∀t∈vI,dT tyT.get vI t=true:=by
 have h:vI.all (λt=>dT tyT.get vI t)=true:=by kernel_rfl
 exact λt ht=>fB.1 h t ht
theorem Sb:reachBytes<=140737488355328:=by decide
end Go.Proofs.YtmjmngigbachdaaGreatDoor

namespace ax
open Go Go.Proofs Go.RowKit
theorem q0 {H:Type}{enc:TypeId×Value->H}{a:Assume}{C:Checked}{os:Os}{f:FuncId}{fn:Func}{s:ChangeSpec}{conds:List PathCond}{apart aB handsOn again:Bool}{X:World->Array Value->Prop}
  (hX:∀(w w':World) (args:Array Value),w.heap=w'.heap->X w args->X w' args)
  (own:ownKnob C.prog.godebug=none) (started:os.Started) (aiN:C.prog.inits.idxOf? f=none) (hfn:C.prog.funcs[f]? = some fn)
  (witness:∃(w:World) (tape:Tape) (i:Input),w.os=os/\(w.forCall tape i).Shaped C.prog/\i.vars=[]/\Input.okWide C.prog (w.forCall tape i) .any w.heap.size f i /\
   ((s.pre enc C.prog fn conds apart (w.forCall tape i).memory i.args/\X (w.forCall tape i).memory i.args)/\sizedMet enc C.prog fn (OpenSpec.ofChange s) apart (w.forCall tape i).memory i.args)/\a.holds C.prog (lone (Frame.enter C.prog f i.args .normal) [] (w.forCall tape i)))
  (YX:∀(W:World) (base:Nat) (args:Array Value) (ds gs:List (DataW H)) (before:List MemPlace),
   (∀(j:Nat) t v,fn.params[j]? = some t->args[j]? = some v->Value.okWide C.prog W .any base t v) ->
   DataW.Whole enc C.prog fn.params.toList s.vars apart W args.toList ds gs before ->
   (DataW.weightsEach C.prog (fn.params.toList++s.plain.varTypes C.prog) (ds++gs)).all (· ≤ reachBytes)=true->X W args->W.ShapedOpen C.prog ->
   Calls C.prog f args W λe W'=>∃v,e=.returned v/\s.post enc C.prog fn apart aB handsOn again W args v W') :
  ReturnsInHanded a C os f .any (λw args=>(s.pre enc C.prog fn conds apart w args/\X w args)/\sizedMet enc C.prog fn (OpenSpec.ofChange s) apart w args) (s.post enc C.prog fn apart aB handsOn again):=by
 refine returnsInHanded_of_calls own started aiN witness ?_;intro w tape i _ eI _ dA rQ _;obtain⟨_,_,_,fn',aqf,_,_,_,_,aiO⟩:=dA;have e:fn'=fn:=Option.some.inj (aqf.symm.trans hfn);subst e;obtain⟨⟨⟨ds,gs,before,hw,_⟩,hx⟩,hz⟩:=rQ;have hw':=DataW.Whole.of_heap (w':=w.forCall tape i) wA hw;refine(YX (w.forCall tape i) w.heap.size i.args ds gs before aiO hw' (hz.weights hw) (hX _ _ _ wA hx) eI).mono λe W' ⟨v,he,hp⟩=>?_
 subst he;exact ChangeSpec.post_blind hp
theorem Us {P:Program}{W:World}{x:String}{zs:List Int}{k:IntKind}{i t e n:Nat}
  (hg:P.globalNamed x=some i) (hi:(P.globals[i]?).map (·.type)=some t) (ht:P.underlying t=some (.array n e)) (he:P.underlying e=some (.int k)) (hc:P.cellsOf e=1) (hct:P.cellsOf t=n) :
  ∀{l:List (String×DataW Unit)} {ps:List MemPlace},DataW.LaidVars P W l ps->(x,DataW.agg (zs.map λz=>.lit (.int k z)))∈l->W.var? P x=some (zs.map λz=>Value.int k z).toArray:=by
 intro l;induction l with
 |nil=>simp_all
 |cons y r ih=>
  intro ps h hm;obtain⟨nm,d⟩:=y;obtain⟨g,t',cs,ab,p,q,a1,a2,a3,a4,a5,_⟩:=h;rcases cE.1 hm with hm|hm
  obtain ⟨rfl,rfl⟩:=Prod.mk.inj hm;obtain rfl:=Option.some.inj (hg.symm.trans a1);obtain rfl:=Option.some.inj (hi.symm.trans a2);obtain⟨xs,m,_,ex,a8,hl,hel⟩:=DataW.trod_array ht a4;rw[hct]at a8;have e3:xs.map (·.1)=zs.map λz=>DataW.lit (.int k z):=(DataW.agg.inj (Prod.mk.inj ex).1).symm
  have Kl:zs.length=n:=by have:=congrArg List.length e3;simp at this;omega
  rw[a3];congr 1;obtain⟨cl⟩:=cs;congr 1;have a8:cl.length=n:=a8;refine List.ext_getElem Eu λj h1 h2=>?_
  have h3:j<n:=by omega
  have hE:=hel j h3;rw[hc,Nat.mul_one,dG aq]at hE;obtain⟨z,e1,e2,_⟩:=DataW.trod_int he hE;have e4:(xs.map (·.1))[j]? = (zs.map λz=>(DataW.lit (.int k z):DataW Unit))[j]? := by rw[e3]
  rw[fP,fP,dG (by omega:j<xs.length),dG (by omega:j<zs.length),e2]at e4;simp only[ss,Option.some.injEq,DataW.lit.injEq,Lit.int.injEq,true_and]at e4
  have:cl[j]? = some (.int k z):=by
   have h0:((cl.drop j).take 1)[0]? = some (.int k z):=by rw[e1];rfl
   simpa using h0
  rw[dG aq]at this;rw[Option.some.inj this,List.getElem_map,e4];grind
theorem YY {P:Program}{W:World}{l:List (String×DataW Unit)}{i t e n j tj:Nat}{zero:Array Value}(h:laidMet P l W)(hs:W.ShapedOpen P)
  (hm:("internal/strconv.uint64pow10",DataW.agg (((List.range 20).map fun i=>((10 ^ i:Nat):Int)).map fun z=>.lit (.int .u64 z)))∈l)
  (hg:P.globalNamed "internal/strconv.uint64pow10" = some i) (hi:(P.globals[i]?).map (·.type)=some t) (ht:P.underlying t=some (.array n e)) (he:P.underlying e=some (.int .u64)) (hc:P.cellsOf e=1) (hct:P.cellsOf t=n)
  (hg2:P.globalNamed "internal/bytealg.MaxLen" = some j) (hj:j<P.globals.size) (h0:((begin P (fun _ _=>0) default).world.heap[j]?).bind Obj.row? = some (zero,tj)) (hz:zero.size=1)
  (hb:P.buildable tj=true) (hcj:P.cellTypes P.depth tj=some [tj]) (hu:P.underlying tj=some (.int .i64)):gI P (λ_=>True) W:=by
 obtain⟨ps,hl,_,_⟩:=h;intro x hx k hk;refine⟨trivial,?_⟩;rcases hx with rfl|rfl
 have hv:=Us hg hi ht he hc hct hl hm;obtain rfl:=Option.some.inj (hg.symm.trans hk);unfold World.var? at hv;rw[hg,ab8]at hv;split at hv;rename_i cs ee kk ho;cases hv;exact⟨_,ho,trivial,λ_=>⟨_,_,rfl⟩,λh=>by simp at h⟩;cases hv
 ·obtain rfl:=Option.some.inj (hg2.symm.trans hk);obtain⟨cs,hh,nB,hr⟩:=hs.1 j zero tj hj h0;obtain⟨ts,hts,_,ez⟩:=hr hb;rw[hcj]at hts;cases hts;have h1:0<cs.size:=by omega
  obtain⟨u,hu',dA⟩:=ez 0 cs[0] (by simp[h1]);have:u=tj:=by simp_all
  subst this;unfold Cell.ok at dA;rw[hu]at dA;refine⟨_,hh,trivial,λh=>by simp at h,λ_=>?_⟩;cases hv:cs[0]<;>rw[hv]at dA<;>simp at dA
  case int k' m=>
   obtain⟨rfl,_⟩:=dA
   have rC:cs=#[.int .i64 m]:=by
    refine Array.ext Eu λa ha1 ha2=>?_
    have:a=0:=by omega
    subst this;simpa using hv
   simp_all
end ax

namespace Go.Proofs.YtmjmngigbachdaaGreatDoor
open Go ax Go.Proofs
def Lt (n:Nat):List Ob:=[.Ju n,.box [.yl 0],.box [.b9 119 [] [.lo 1 0,.lo 2 0]]]
theorem acY (Y:YP)(t:Tm):∀(d:Int) (n:Nat),0<=d->d+t.size<4611686018427387904->(∀(i:Nat) (e:Int×Tm),(t.gX d)[i]? = some e->Y.ys[n+i]? = some (Tm.enc e))->(n=0\/Y.go n=true) ->
  aU Tryz.prog Y 119 [t.av,iV d,.lo 1 0,.lo 2 0] (Lt n) (bV (oA Y t.size n).2) (Lt (oA Y t.size n).1):=by
 induction t using Tm.ind with
 |_ t ih=>
 intro d n hd0 hd hy yb;refine u0 Tryz.func119 λw S φ hg=>?_
 refine acE hg rfl rfl rfl rfl rfl rfl rfl (avs:=[iV d,t.av]) ?_ yb ?_;exact hy 0 (d,t) (by rw[Tm.kE];rfl);refine ag ?_;have hsz:=Tm.size_eq t;have a8:=Tm.bO t.l;refine iG (λh1=>?_) λh1=>?_
 refine ag ?_;have h1:(!Y.go (n+1))=true:=h1;have h2:Y.go (n+1)=false:=by simpa using h1
 have h3:oA Y t.size n=(n+1,false):=by rw[hsz,Nat.add_comm];simp[oA,h2]
 refine aL hg 3 5 cZ rfl ?_ ?_;rw[h3];rfl;rw[h3];rfl;have h1:(!Y.go (n+1))=false:=h1;have h2:Y.go (n+1)=true:=by simpa using h1
 refine ag ?_
 refine a7 (λk:Nat=>([(1,iV d),(2,.lo 1 0),(3,.lo 2 0),(4,.lo 3 0),(15,.d (.sl (Tm.aa t.l))),(16,iV (t.l.length:Int)),(17,iV k)],Lt (n+(1+Tm.aw (t.l.take k)))++[.box [.d (.v (.int .i64 t.k)),.d (.v (.string t.s)),.d (.v (.int .i64 t.n)),.d (.sl (Tm.aa t.l))]]))
  (λk=>k<=t.l.length/\oA Y (1+Tm.aw (t.l.take k)) n=(n+(1+Tm.aw (t.l.take k)),true)) (λk=>t.l.length-k) 0 ?_ ?_ ?_ ?_
 refine ⟨bU _,?_⟩;simp[Tm.aw,oA,h2];exact⟨.refl _,.refl _,.refl _,.refl _,.refl _,bJ.int um,.refl _,trivial⟩;rfl;intro k hk;refine ag ?_;refine iG (λh1=>?_) λh1=>?_
 have aI:k<t.l.length:=by have:=of_decide_eq_true h1; omega
 have e1:t.l[k]? = some t.l[k]:=dG aI;have anm:=Tm.Ai e1;have hmem:=Tm.b8 (dy aI);refine ag ?_;refine cJ (Tm.ay e1) ?_;refine hH 24 rfl (bJ.wrap rfl aq aq) ?_;refine wW hg.ok hg.cm hg.wide hg.Y [0,1,2] (ih _ (dy aI) (d+1) (n+(1+Tm.aw (t.l.take k))) aq aq ?_ ?_) cN rfl rfl rfl rfl rfl rfl rfl ?_;intro i e he;have fE:=(fu.1 he).1
 have:=hy (1+Tm.aw (t.l.take k)+i) e (by
  rw[Tm.kE,show 1+Tm.aw (t.l.take k)+i=Tm.aw (t.l.take k)+i+1 by omega,Xb];have Ca:t.l=t.l.take k++(t.l[k]::t.l.drop (k+1)):=by rw[<-List.drop_eq_getElem_cons aI,List.take_append_drop]
  rw[Ca,Tm.zr,nA (by rw[Tm.wZ];rw[<-Ca];omega),Tm.wZ,<-Ca];simp only[Tm.iU];rw[mv aq,show Tm.aw (List.take k t.l)+i-Tm.aw (List.take k t.l)=i by omega];exact he)
 rw[show n+(1+Tm.aw (t.l.take k))+i=n+(1+Tm.aw (t.l.take k)+i) by omega];exact this;right;exact(w5 (by rw[hk.2])).2 aq;refine ag ?_
 have hle:Tm.aw t.l=Tm.aw (t.l.take k)+(t.l[k].size+Tm.aw (t.l.drop (k+1))):=by
  conv=>lhs;rw[<-List.take_append_drop k t.l,List.drop_eq_getElem_cons aI]
  rw[Tm.qR,Tm.aw]
 refine iG (λh3=>?_) λh3=>?_
 have h3:(!(oA Y t.l[k].size (n+(1+Tm.aw (t.l.take k)))).2)=true:=h3;have h4:(oA Y t.l[k].size (n+(1+Tm.aw (t.l.take k)))).2=false:=by simpa using h3
 refine ag ?_;have h5:oA Y t.size n=oA Y t.l[k].size (n+(1+Tm.aw (t.l.take k))):=by rw[hsz,hle,<-Nat.add_assoc,w6 hk.2,HM,if_neg J5]
 refine aL hg 3 5 cZ rfl ?_ ?_;rw[h5,h4];rfl;rw[h5];rfl;have h3:(!(oA Y t.l[k].size (n+(1+Tm.aw (t.l.take k)))).2)=false:=h3;have h4:(oA Y t.l[k].size (n+(1+Tm.aw (t.l.take k)))).2=true:=by simpa using h3
 have h6:=aiq h4;refine ag ?_;refine u5 4 (by rw[hg.kh.len];simp[Lt]) rfl ?_;have h7:n+(1+Tm.aw (t.l.take (k+1)))=n+(1+Tm.aw (t.l.take k))+t.l[k].size:=by rw[anm];omega
 refine bb (k+1) ⟨aI,?_⟩ aq alg ?_;rw[anm,<-Nat.add_assoc 1,w6 hk.2,h6];simp only[Nat.add_assoc];rw[h6];show _=Lt (n+(1+Tm.aw (t.l.take (k+1))))++_;rw[h7];rfl
 refine ag ?_;have h3:¬ ((k:Int)<(t.l.length:Int)):=of_decide_eq_false h1;have hkl:k=t.l.length:=by omega
 have h4:oA Y t.size n=(n+(1+Tm.aw (t.l.take k)),true):=by have:=hk.2;rw[hkl,List.take_length]at this ⊢;rw[hsz];exact this
 refine aL hg 3 5 cZ rfl ?_ ?_;rw[h4];rfl;rw[h4];rfl
theorem aiQ (Y:YP)(t:Tm)(n:Nat)(hd:t.size<1000000000)(hy:∀(i:Nat) (e:Int×Tm),(t.gX 1)[i]? = some e->Y.ys[n+i]? = some (Tm.enc e))(yb:n=0\/Y.go n=true) :
  aU Tryz.prog Y 90 [t.av,.yl 0] [.Ju n] (bV (oA Y t.size n).2) [.Ju (oA Y t.size n).1]:=by
 refine u0 Tryz.func90 λw S φ hg=>?_
 refine wW hg.ok hg.cm hg.wide hg.Y [0,2,3] (acY Y t 1 n aq aq hy yb) cN rfl rfl rfl rfl rfl rfl rfl (ag ?_);refine aL hg 1 5 cZ rfl ?_ ?_;rfl;rfl
theorem Cy (Y:YP)(t:Tm)(hd:t.size<1000000000)(hy:∀(i:Nat) (e:Int×Tm),(t.gX 1)[i]? = some e->Y.ys[i]? = some (Tm.enc e)) :
  aU Tryz.prog Y 89 [.yl 0,.d (.bL (Tm.row t))] [.Ju 0] (.cP []) [.Ju (oA Y t.size 0).1]:=by
 refine u0 Tryz.func89 λw S φ hg=>?_
 refine wW hg.ok hg.cm hg.wide hg.Y [0] (aiQ Y t 0 hd (by simpa using hy) (.inl rfl)) cN rfl rfl rfl rfl rfl rfl rfl (ag ?_);refine mq hg 1 5 cZ rfl ?_ ?_;rfl;rfl
theorem H6 (t:Tm):br Tryz.prog 65 [t.av] (.b9 89 [] [.d (.bL (Tm.row t))]):=by
 refine ng Tryz.func65 λw S hg=>?_
 refine bz ?_;rfl
def Wt (t:Tm):Ob:=.box [.d (.v (.int .i64 t.k)),.d (.v (.string t.s)),.d (.v (.int .i64 t.n)),.d (.sl (Tm.aa t.l))]
theorem Cz {Y:YP}(h:∀n,Y.go n=true):∀(k n:Nat),oA Y k n=(n+k,true)|0,n=>rfl|k+1,n=>by simp only[oA,h,if_true];rw[Cz h k];congr 1;omega
theorem OE {t:Tm}{i:Nat}{e:Int×Tm}(h:(t.gX 1)[i]? = some e):((t.gX 1).map Tm.enc)[i]? = some (Tm.enc e):=by rw[fP,h];rfl
theorem OF {t:Tm}{i:Nat}{e:Int×Tm}(h:(t.gX 1)[i]? = some e):i<t.size:=by rw[<-Tm.lR t 1];exact(fu.1 h).1
theorem YZ (s:ByteArray)(hs:s.size<1000000000):br Tryz.prog 91 [.d (.v (.string s))] (bV (vq s)):=by
 refine ng Tryz.func91 λw S hg=>?_
 refine a7 (λk:Nat=>([(0,.d (.v (.string s))),(5,iV s.size),(6,iV k)],[])) (λk=>k<=s.size/\∀i (hi:i<s.size),i<k->gG s[i]=true) (λk=>s.size-k) 0 ?_ ?_ rfl ?_;exact⟨bU _,λi _ h=>absurd h (Xa _)⟩;exact pI;intro k hk;refine ag ?_;refine iG (λh1=>?_) λh1=>?_
 have aI:k<s.size:=by have:=of_decide_eq_true h1; omega
 refine ag ?_;refine Qt ?_;refine iG (λh2=>?_) λh2=>?_
 refine ag ?_;refine bz ?_;have:gG s[k]=false:=by unfold gG;rw[h2];rfl
 simp only[vq,pd aI this];rfl;refine ag ?_;refine Qt ?_;refine iG (λh3=>?_) λh3=>?_
 refine ag ?_;refine bz ?_;have:gG s[k]=false:=by unfold gG;rw[h3];simp
 simp only[vq,pd aI this];rfl;refine ag ?_;refine bb (k+1) ⟨aI,λi hi hik=>?_⟩ aq JX rfl;rcases qE i k with h|h
 exact hk.2 i hi h;have:i=k:=by omega
 subst this;unfold gG;rw[h2,h3];rfl;have h4:¬ ((k:Int)<(s.size:Int)):=of_decide_eq_false h1;have ez:s.data.toList.all gG=true:=FR λi hi=>hk.2 i hi aq
 refine ag ?_;refine iG (λh2=>?_) λh2=>?_
 refine ag ?_;refine bz ?_;simp only[vq,ez,h2,iu];rfl;refine ag ?_;refine bz ?_;simp only[vq,ez,h2,iu];rfl
theorem aiR (t:Tm)(hs:t.s.size<1000000000):br Tryz.prog 66 [t.av] (bV t.HN):=by
 refine ng Tryz.func66 λw S hg=>?_
 iterate 12
  all_goals try first
   |(refine iq rfl rfl (λ_=>?_) (λ_=>?_)<;>refine dJ hg.ok rfl rfl ?_)
   |(refine Ny hg.ok (YZ t.s hs) rfl rfl rfl rfl rfl rfl ?_;refine dJ hg.ok rfl rfl ?_)
 all_goals refine wj hg 5 rfl rfl ?_
 all_goals (simp only[Tm.ao,beq_iff_eq,beq_eq_false_iff_ne,ne_eq,decide_eq_true_eq,decide_eq_false_iff_not]at *)
 all_goals (simp_all[Tm.HN,bV])
 all_goals (intros;omega)
theorem fe (t:Tm)(hd:t.size<1000000000)(hs:∀e∈t.gX 1,e.2.s.size<1000000000):br Tryz.prog 38 [t.av] (bV (de t)):=by
 refine ng Tryz.func38 λw S hg=>?_
 refine aA (H6 t) ?_;refine HK hg.ok hg.cm ⟨rfl,rfl⟩ rfl (t.gX 1) Tm.enc ⟨(t.gX 1).map Tm.enc,Of t⟩ rfl (λn=>[Wt t,.box [.d (.v (.bool false))],.box [iV n]]) (λ_ e=>[(2,.lo 1 0),(3,.lo 2 0),(4,iV e.1),(5,.lo 3 0)]) (λn e=>[Wt t,.box [.d (.v (.bool false))],.box [iV n],Wt e.2]) _ .ret rfl rfl rfl (Cy _ t hd λ_ _ h=>OE h) rfl (λ_ _=>rfl) rfl ?_ ?_ ?_ rfl rfl ?_;intro n x hx _ l w R0 X φ0 _ yi;refine WI ?_;exact N8 Bi rfl;intro n x hx _ l w R0 X φ0 Nl yi;have hn:=OF hx;have yg:=th hg.ok l w R0 X φ0 yi;have yb:Of t (n+1)=w9 x (n+1):=by simp only[Of,hx]
 have hw:IntKind.i64.wrap ((n:Int)+1)=((n+1:Nat):Int):=jZ aq aq;refine rN ?_;refine iG (λh1=>?_) λh1=>?_
 refine rN ?_;refine abP ?_;refine ahf ?_;exact N9 (by rw[show(YP.go ⟨_,Of t⟩ (n+1))=Of t (n+1)from rfl,yb];simp only[w9,h1,Bool.true_or,u9]) rfl rfl;refine rN ?_;refine iG (λh2=>?_) λh2=>?_
 refine rN ?_;refine abP ?_;refine ahf ?_;rw[hw]at h2;exact N9 (by rw[show(YP.go ⟨_,Of t⟩ (n+1))=Of t (n+1)from rfl,yb];simp only[w9,h2,Bool.or_true,Bool.true_or,u9]) rfl rfl;refine rN ?_;refine Ny yg (aiR x.2 (hs x (sq hx))) rfl rfl rfl rfl rfl rfl ?_;refine rN ?_;rw[hw]at h2;refine iG (λh3=>?_) λh3=>?_
 refine rN ?_;refine abP ?_;refine ahf ?_;exact N9 (by rw[show(YP.go ⟨_,Of t⟩ (n+1))=Of t (n+1)from rfl,yb];simp only[w9,h3,Bool.or_true,u9]) rfl rfl;refine rN ?_;refine abP ?_;refine uI [Wt t,.box [.d (.v (.bool false))],.box [iV ((n+1:Nat):Int)]] ⟨jB.refl _,NI,⟨bJ.int hw,trivial⟩,trivial⟩ rfl ?_;exact yj (by rw[show(YP.go ⟨_,Of t⟩ (n+1))=Of t (n+1)from rfl,yb];simp only[w9,h1,h2,h3,Kh,Bool.not_false]) rfl;intro yb;refine ag ?_;refine bz ?_;cases h:de t;obtain ⟨h1,h2⟩:=FQ h;exact absurd yb (by rintro(h3|h3);exact h2 h3;rw[h1]at h3;cases h3);rfl;intro h0 yb;refine bz ?_;cases h:de t;rfl;have h1:=w5 h;rw[h1.1]at h0 yb;rw[h1.2 aq]at yb;cases yb
def aO (t:Tm):Ob:=.box [.d (.v (.int .i64 t.k)),.d (.v (.string t.s)),.d (.v (.int .i64 t.n)),.d (.sl (Tm.aa t.l))]
theorem H7 (a:Tm):∀b,a.size<1000000000->br Tryz.prog 164 [a.av,b.av] (bV (a.same b)):=by
 induction a using Tm.ind with
 |_ a ih=>
 intro b hsz;refine ng Tryz.func164 λw S hg=>?_
 iterate 4
  refine af (λ_=>?_) λ_=>?_
  ·refine bz ?_;simp_all[Tm.wY,bV,Tm.ao]
   try exact Tm.yG aq
 refine a7 (λk:Nat=>([(2,.lo 0 0),(3,.lo 1 0),(36,.d (.sl (Tm.aa a.l))),(37,iV a.l.length),(38,iV k)],[aO a,aO b])) (λk=>k<=a.l.length/\a.l.length=b.l.length/\a.same b=Tm.gJ (a.l.drop k) (b.l.drop k)) (λk=>a.l.length-k) 0 ?_ ?_ rfl ?_;simp_all [Tm.wY,Tm.ao];omega;exact⟨.refl _,.refl _,.refl _,bJ.int um,.refl _,trivial⟩;rintro k ⟨J6,hl,hk⟩;have ann:=Tm.bO a.l;have EF:=Tm.size_eq a;refine ag ?_;refine af (λh=>?_) λh=>?_
 have aI:k<a.l.length:=by have:=of_decide_eq_true h; omega
 have mn:k<b.l.length:=by omega
 have e1:a.l[k]? = some a.l[k]:=dG aI;have e2:b.l[k]? = some b.l[k]:=dG mn;rw[List.drop_eq_getElem_cons aI,List.drop_eq_getElem_cons mn,Tm.gJ]at hk;have hm:=Tm.b8 (dy aI);refine cJ (Tm.ay e1) ?_;refine cJ (Tm.ay e2) ?_;refine aA (ih _ (dy aI) b.l[k] aq) ?_;refine af (λh=>?_) λh=>?_
 refine bz ?_;rw[hk];simp_all[bV];refine u5 2 fO rfl ?_;refine bb (k+1) ⟨aI,hl,?_⟩ aq JW rfl;rw[hk];simp_all;refine bz ?_;have h4:¬ ((k:Int)<(a.l.length:Int)):=of_decide_eq_false h;rw[hk,cX aq,cX aq];rfl
theorem OG (t:Tm):t.size<1000000000->br Tryz.prog 25 [t.av] (iV t.size):=by
 induction t using Tm.ind with
 |_ t ih=>
 intro hsz;refine ng Tryz.func25 λw S hg=>?_
 refine a7 (λx:Nat×Nat=>([(1,.lo 0 0),(3,iV x.2),(4,iV x.1)],[aO t])) (λx=>x.1<=t.l.length/\t.size=x.2+Tm.aw (t.l.drop x.1)) (λx=>t.l.length-x.1) (0,1) ⟨bU _,Tm.size_eq t⟩ pI rfl ?_;rintro⟨k,m⟩ ⟨hk,hm⟩;simp only at hk hm;have hl:=Tm.bO t.l;have hs:=Tm.size_eq t;refine ag ?_;refine af (λh=>?_) λh=>?_
 have aI:k<t.l.length:=bo h wv;have e1:t.l[k]? = some t.l[k]:=dG aI;rw[List.drop_eq_getElem_cons aI,Tm.aw]at hm;refine cJ (Tm.ay e1) ?_;refine aA (ih _ (dy aI) aq) ?_;exact bb (k+1,m+t.l[k].size) ⟨aI,by simp only;omega⟩ gP ⟨.refl _,bJ.wrap aq aq aq,bJ.wrap aq aq aq,trivial⟩ rfl;have aI:t.l.length<=k:=bw h wv;refine bz ?_;rw[cX aI,Tm.aw]at hm;simp only[hm,Fp];rfl
theorem OH (t:Tm):t.size<1000000000->br Tryz.prog 26 [t.av] (iV t.depth):=by
 induction t using Tm.ind with
 |_ t ih=>
 intro hsz;refine ng Tryz.func26 λw S hg=>?_
 refine a7 (λx:Nat×Nat=>([(1,.lo 0 0),(3,iV x.2),(4,iV x.1)],[aO t])) (λx=>x.1<=t.l.length/\Tm.dV t.l=max x.2 (Tm.dV (t.l.drop x.1))) (λx=>t.l.length-x.1) (0,0) ⟨bU _,by simp⟩ pI rfl ?_;rintro⟨k,m⟩ ⟨hk,hm⟩;simp only at hk hm;have hl:=Tm.bO t.l;have hs:=Tm.size_eq t;have hd:=Tm.B5 t;have kx:=Tm.lS t;refine ag ?_;refine af (λh=>?_) λh=>?_
 have aI:k<t.l.length:=bo h wv;have e1:t.l[k]? = some t.l[k]:=dG aI;have Wc:=Tm.b8 (dy aI);rw[List.drop_eq_getElem_cons aI,Tm.dV]at hm;refine cJ (Tm.ay e1) ?_;refine aA (ih _ (dy aI) aq) ?_;refine af (λh=>?_) λh=>?_
 have h:=of_decide_eq_true h;exact bb (k+1,t.l[k].depth) ⟨aI,by simp only;omega⟩ gP JX rfl;have h:=of_decide_eq_false h;exact bb (k+1,m) ⟨aI,by simp only;omega⟩ gP JX rfl;have aI:t.l.length<=k:=bw h wv;refine bz ?_;rw[cX aI,Tm.dV]at hm;rw[pX aq aq,hd,hm];simp[iV]
theorem CD (a:Tm):∀b,a.size<1000000000->br Tryz.prog 78 [a.av,b.av] (bV (a.same b)):=by
 induction a using Tm.ind with
 |_ a ih=>
 intro b hsz;refine ng Tryz.func78 λw S hg=>?_
 iterate 4
  refine af (λ_=>?_) λ_=>?_
  ·refine bz ?_;simp_all[Tm.wY,bV,Tm.ao]
   try exact Tm.yG aq
 refine a7 (λk:Nat=>([(2,.lo 0 0),(3,.lo 1 0),(5,iV k)],[aO a,aO b])) (λk=>k<=a.l.length/\a.l.length=b.l.length/\a.same b=Tm.gJ (a.l.drop k) (b.l.drop k)) (λk=>a.l.length-k) 0 ?_ pI rfl ?_;simp_all [Tm.wY,Tm.ao];omega;rintro k ⟨J6,hl,hk⟩;have ann:=Tm.bO a.l;have EF:=Tm.size_eq a;refine ag ?_;refine af (λh=>?_) λh=>?_
 have aI:=bo (n:=a.l.length) h wv;have mn:k<b.l.length:=by omega
 have e1:a.l[k]? = some a.l[k]:=dG aI;have e2:b.l[k]? = some b.l[k]:=dG mn;rw[List.drop_eq_getElem_cons aI,List.drop_eq_getElem_cons mn,Tm.gJ]at hk;have hm:=Tm.b8 (dy aI);refine cJ (Tm.ay e1) ?_;refine cJ (Tm.ay e2) ?_;refine aA (ih _ (dy aI) b.l[k] aq) ?_;refine af (λh=>?_) λh=>?_
 refine bz ?_;rw[hk];simp_all[bV];refine bb (k+1) ⟨aI,hl,?_⟩ aq JX rfl;rw[hk];simp_all;refine bz ?_;have aI:=bw (n:=a.l.length) h um;rw[hk,cX aq,cX aq];rfl
theorem acZ (t:Tm):t.size<1000000000->(∀x e,e∈t.gX x->e.2.s.size<1000000000)->br Tryz.prog 24 [t.av] (bV t.bA):=by
 induction t using Tm.ind with
 |_ t ih=>
 intro hsz Y0;have qI:t.s.size<1000000000:=Y0 0 (0,t) WX;have hl:=Tm.bO t.l;have hs:=Tm.size_eq t;refine ng Tryz.func24 λw S hg=>?_
 refine a7 (λk:Nat=>([(1,.lo 0 0),(3,iV k)],[aO t])) (λk=>k<=t.s.size/\∀i (hi:i<t.s.size),i<k->gG t.s[i]=true) (λk=>t.s.size-k) 0 ⟨bU _,λi _ h=>absurd h (Xa _)⟩ Bj rfl ?_;intro k hk;refine ag ?_;refine af (λh=>?_) λh=>?_
 have aI:=bo (n:=t.s.size) h rfl;refine Qt ?_;have bad:gG t.s[k]=false->t.bA=false:=λh=>by rw[Tm.kO,pd aI h];rfl
 refine af (λh2=>?_) λh2=>?_
 refine bz ?_;rw[bad (by unfold gG;rw[h2];rfl)];rfl;refine Qt ?_;refine af (λh3=>?_) λh3=>?_
 refine bz ?_;rw[bad (by unfold gG;rw[h3];simp)];rfl;refine bb (k+1) ⟨aI,λi hi hik=>?_⟩ aq aln rfl;rcases qE i k with h|h
 exact hk.2 i hi h;have:i=k:=by omega
 subst this;unfold gG;rw[h2,h3];rfl;have aI:=bw (n:=t.s.size) h rfl;have ez:t.s.data.toList.all gG=true:=FR λi hi=>hk.2 i hi aq
 refine a7 (λk:Nat=>([(1,.lo 0 0),(4,iV k)],[aO t])) (λk=>k<=t.l.length/\Tm.cv t.l=Tm.cv (t.l.drop k)) (λk=>t.l.length-k) 0 ⟨bU _,rfl⟩ Bj rfl ?_;rintro k ⟨hk,hm⟩;refine ag ?_;refine af (λh=>?_) λh=>?_
 have aI:k<t.l.length:=bo h wv;have e1:t.l[k]? = some t.l[k]:=dG aI;have Wc:=Tm.b8 (dy aI);rw[List.drop_eq_getElem_cons aI,Tm.cv]at hm;refine cJ (Tm.ay e1) ?_;refine aA (ih _ (dy aI) aq (λx e he=>Y0 (x-1) e ale)) ?_;refine af (λh=>?_) λh=>?_
 refine bz ?_;rw[Tm.kO,hm];simp_all[bV];refine bb (k+1) ⟨aI,?_⟩ aq aln rfl;rw[hm];simp_all;have aI:t.l.length<=k:=bw h um;rw[cX aI,Tm.cv]at hm
 iterate 12
  all_goals try (refine iq rfl rfl (λ_=>?_) (λ_=>?_)<;>refine dJ hg.ok rfl rfl ?_)
 all_goals refine wj hg 5 rfl rfl ?_
 all_goals (rw[Tm.kO,ez,hm];unfold Tm.l8)
 all_goals (simp only[Tm.ao,beq_iff_eq,beq_eq_false_iff_ne,ne_eq,decide_eq_true_eq,decide_eq_false_iff_not]at *)
 all_goals (simp_all[bV])
 all_goals (intros;omega)
theorem zF (t:Tm)(hsz:t.size<1000000000)(Y0:∀x e,e∈t.gX x->e.2.s.size<1000000000):br Tryz.prog 11 [t.av] (bV t.bB):=by
 refine ng Tryz.func11 λw S hg=>?_
 refine aA (acZ t hsz Y0) ?_;refine af (λ_=>?_) λ_=>?_
 refine aA (OG t hsz) ?_;refine af (λ_=>?_) λ_=>?_
 refine aA (OH t hsz) ?_;refine bz ?_;simp only[decide_eq_true_eq]at *;unfold Tm.bB;show bV _=bV _
 congr 1;rw[o5];simp_all;omega;refine bz ?_;simp only[decide_eq_false_iff_not]at *;unfold Tm.bB;simp_all[bV];intros;omega;refine bz ?_;unfold Tm.bB;simp_all[bV]
theorem Y1 (t:Tm):t.Ok->∀m d:Int,br Tryz.prog 22 [t.av,iV m,iV d] (iV (t.pB m d)):=by
 induction t using Tm.ind with
 |_ t ih=>
 intro dA m d;refine ng Tryz.func22 λw S hg=>?_
 iterate 3
  refine af (λ_=>?_) λ_=>?_
  refine bz ?_;rw[Tm.Od,if_pos (by simp_all[Tm.qS])];rfl
 have X6:Tm.qS t.s m d=false:=by simp_all[Tm.qS]
 have a8:=dA.len;refine a7 (λx:Nat×Int=>([(1,iV x.2),(2,iV d),(3,.lo 0 0),(7,iV x.1)],[aO t])) (λx=>x.1<=t.l.length/\t.pB m d=Tm.Aj (t.l.drop x.1) x.2 (IntKind.i64.wrap (d-1))) (λx=>t.l.length-x.1) (0,IntKind.i64.wrap (m-1)) ⟨bU _,by rw[Tm.Od,X6];rfl⟩ Bi rfl ?_;rintro⟨k,q⟩ ⟨hk,hm⟩;simp only at hk hm;refine ag ?_;refine af (λh=>?_) λh=>?_
 have aI:k<t.l.length:=bo h wv;have e1:t.l[k]? = some t.l[k]:=dG aI;rw[List.drop_eq_getElem_cons aI,Tm.Aj]at hm;refine af (λh2=>?_) λh2=>?_
 rw [if_pos (of_decide_eq_true h2)]at hm;refine cJ (Tm.ay e1) ?_;refine aA (ih _ (dy aI) (dA.sub (dy aI)) _ _) ?_;exact bb (k+1,t.l[k].pB q (IntKind.i64.wrap (d-1))) ⟨aI,hm⟩ gP ⟨.refl _,.refl _,.refl _,bJ.wrap gP gP gP,trivial⟩ rfl;rw [if_neg (of_decide_eq_false h2)]at hm;refine bz ?_;rw[hm];rfl;have aI:t.l.length<=k:=bw h wv;refine bz ?_;rw[cX aI,Tm.Aj]at hm;rw[hm];rfl
theorem OI (a b:List Tm)(ha:Tm.aw a<1000000000):br Tryz.prog 51 [.d (.sl (Tm.aa a)),.d (.sl (Tm.aa b))] (bV (Tm.gJ a b)):=by
 refine ng Tryz.func51 λw S hg=>?_
 refine af (λh=>?_) λh=>?_
 refine bz ?_;rw[Tm.yG (by simp only[Tm.ao,bne_iff_ne,ne_eq]at h;omega)];rfl;have hl:a.length=b.length:=by simp only[Tm.ao,bne_eq_false_iff_eq]at h;omega
 refine a7 (λk:Nat=>([(0,.d (.sl (Tm.aa a))),(1,.d (.sl (Tm.aa b))),(5,iV k)],[])) (λk=>k<=a.length/\Tm.gJ a b=Tm.gJ (a.drop k) (b.drop k)) (λk=>a.length-k) 0 ⟨bU _,rfl⟩ pI rfl ?_;rintro k ⟨hk,hm⟩;have vJ:=Tm.bO a;refine ag ?_;refine af (λh=>?_) λh=>?_
 have aI:k<a.length:=bo h wv;have mn:k<b.length:=by omega
 have e1:a[k]? = some a[k]:=dG aI;have e2:b[k]? = some b[k]:=dG mn;have Wc:=Tm.b8 (dy aI);rw[List.drop_eq_getElem_cons aI,List.drop_eq_getElem_cons mn,Tm.gJ]at hm;refine cJ (Tm.ay e1) ?_;refine cJ (Tm.ay e2) ?_;refine aA (CD a[k] b[k] aq) ?_;refine af (λh=>?_) λh=>?_
 refine bz ?_;rw[hm];simp_all[bV];refine bb (k+1) ⟨aI,?_⟩ aq JX rfl;rw[hm];simp_all;have aI:a.length<=k:=bw h wv;refine bz ?_;rw[hm,cX aI,cX aq];rfl
def zc (acc:List Int):List Ob:=[.map (ct (sj acc)),.box [.mp 0],.box [.ow 3 acc.length],.arr 1 acc.length (cD acc)]
def qh (acc:List Int)(t:Tm)(n:Nat):List Int:=((t.gX 1).take n).foldl fT acc
theorem Wn (f:AV->AV)(h:f .tt=.tt)(a:List Int)(r:List Ob):aR f (.map (ct (sj a)))::r=.map (ct (sj a))::r:=by rw[Ub h]
theorem Gq (a:List Int)(n:Int):sj a++[(n,.tt)]=sj (a++[n]):=by simp[sj]
theorem CE (a:List Int)(n:Int):cD a++[[.v (.int .i64 n)]]=cD (a++[n]):=by simp[cD,HO]
theorem Y2 (l:List Int)(x:Int):(jC l x).length<=l.length+1:=by unfold jC;split<;>simp
theorem lC:∀(l:List (Int×Tm)) (a:List Int),(l.foldl fT a).length<=a.length+l.length
 |[],a=>by simp
 |e::l,a=>by
  have:=lC l (fT a e);have h2:(fT a e).length<=a.length+1:=by unfold fT;split;exact Y2 _ _;omega
  simp only[wC,dx];omega
def wm (a:List Int)(l:List Tm):List Int:=l.foldl (λa t=>(t.gX 1).foldl fT a) a
theorem qi:∀(l:List Tm) (a:List Int),(wm a l).length<=a.length+Tm.aw l|[],a=>by simp[wm]|t::r,a=>by have:=qi r ((t.gX 1).foldl fT a);have h:=lC (t.gX 1) a;rw[Tm.lR]at h;simp only[wm,wC,Tm.aw]at this ⊢;omega
theorem tK (l:List Tm)(hsz:Tm.aw l<1000000000):br Tryz.prog 39 [.d (.sl (Tm.aa l))] (.d (.sl (cD (bP l)))):=by
 refine v8 Tryz.func39 λw S hg=>?_
 refine Eo ?_;refine mx 2 0 1 rfl rfl rfl ?_;refine akU ?_;rintro⟨k,acc⟩ ⟨hk,hm,vJ⟩;simp only at hk hm vJ;have hl:=Tm.bO l;refine ag ?_;refine af (λh=>?_) λh=>?_
 have aI:k<l.length:=bo h rfl;have e1:l[k]? = some l[k]:=dG aI;rw[List.drop_eq_getElem_cons aI]at hm vJ;simp only[Tm.aw]at vJ;refine cJ (Tm.ay e1) ?_;refine aA (H6 l[k]) ?_;generalize l[k]=t at *;refine HK hg.ok hg.cm ⟨rfl,rfl⟩ rfl (t.gX 1) Tm.enc ⟨(t.gX 1).map Tm.enc,λ_=>true⟩ rfl (λn=>zc (qh acc t n)++[aO t]) (λ_ _=>[(3,.lo 1 0),(4,.lo 2 0),(8,.lo 5 0)]) (λn e=>zc (qh acc t n)++[aO t,aO e.2]) _ .ret rfl rfl rfl (Cy _ t aq λ_ _ h=>OE h) rfl (λ_ _=>rfl) rfl ?_ ?_ ?_ rfl rfl (λ_ h=>by cases h);intro n x hx _ L w R0 X φ0 _ yi;refine WI ?_;exact N8 pI rfl;intro n x hx _ L w R0 X φ0 Nl yi;have yg:=th hg.ok L w R0 X φ0 yi;have hn:=OF hx;have eX:qh acc t (n+1)=fT (qh acc t n) x:=by unfold qh;rw[Jt,hx,acb];rfl
 have a8:(qh acc t n).length<=acc.length+n:=by have:=lC ((t.gX 1).take n) acc;unfold qh;rw[zi]at this;omega
 rw[eX];generalize qh acc t n=a at *;refine rN ?_;refine iq rfl rfl (λh1=>?_) (λh1=>?_)<;>refine eW yg 1000 rfl rfl ?_
 have wa:x.2.k=1:=by simpa using h1
 by_cases hmem:a.contains x.2.n=true;refine aeT ?_;refine rN ?_;refine Tg ?_;exact afC;have Ff:a.contains x.2.n=false:=by simpa using hmem
 refine aeZ ?_;refine rN ?_;refine tG yg (sj a) rfl rfl rfl rfl rfl rfl rfl (by rw[so,Ff];rfl) ?_;rw[show ∀E:bq,ev E (.const (.bool true))=.tt from λ_=>rfl,Gq];refine rN ?_;refine aeR ?_;rw[CE];refine rN ?_;refine Tg ?_;refine yj rfl ?_;unfold fT jC;rw[if_pos wa,Ff];simp only[lq,if_false,zc,List.length_append,dx,mu];rfl;have wa:¬ x.2.k=1:=by simpa using h1
 refine Tg ?_;exact yj rfl (by unfold fT;rw[if_neg wa];rfl);intro _;rw[Cz cN];refine ag ?_;refine bf 4 _ fO rfl (Wn (dD 4) rfl _ _) ?_;have hA:qh acc t (0+t.size)=(t.gX 1).foldl fT acc:=by unfold qh;rw[Fm (by rw[Tm.lR];omega)]
 have Ek:=lC (t.gX 1) acc;rw[Tm.lR]at Ek;rw[hA];refine bb (k+1,(t.gX 1).foldl fT acc) ⟨aI,hm,by simp only;omega⟩ gP ⟨.refl _,.refl _,.refl _,.refl _,bJ.wrap gP gP gP,trivial⟩ rfl;have aI:l.length<=k:=bw h rfl;refine wj hg 5 rfl (r9 rfl) ?_;rw[hm,cX aI];rfl
def H8 (cq:Int):List Ob:=[.box [iV cq]]
def H9 (l:List Int):List Ob:=[.box [.mp 1],.map (ct (kr l 0))]
theorem CF:∀(l:List Int) (n i:Int),0<=i->iT (kr l i) n=if ux l n i<0 then none else some (iV (ux l n i))
 |[],n,i,h=>rfl
 |x::l,n,i,h=>by
  have ih:=CF l n (i+1) aq;by_cases hx:x=n;have e:ux (x::l) n i=i:=by simp [ux,hx]
  rw[e,if_neg aq];simp[kr,iT,hx];have e:ux (x::l) n i=ux l n (i+1):=by simp [ux,hx]
  rw[e,<-ih];simp[kr,iT,hx]
theorem Tf {l:List Tm}{k:Nat}{x:Tm}{g:Int->Int}(h:l[k]? = some x):Tm.aa (Tm.dp g (l.take k))++[Tm.row (Tm.gi g x)]=Tm.aa (Tm.dp g (l.take (k+1))):=by rw[Jt,h];simp[Tm.j5,Tm.eo]
theorem Ut (Y:YP)(n cq:Int):aU Tryz.prog Y 72 [iV n,.lo 0 0] (H8 cq) (iV (IntKind.i64.wrap (n+cq))) (H8 cq):=by
 refine u0 Tryz.func72 λw S φ hg=>?_
 exact lW
theorem OJ (Y:YP)(n:Int)(l:List Int):aU Tryz.prog Y 95 [iV n,.lo 0 0] (H9 l) (iV (jH l n)) (H9 l):=by
 refine u0 Tryz.func95 λw S φ hg=>?_
 refine gN hg.ok (kr l 0) rfl rfl rfl rfl rfl rfl rfl (zv:=.int .i64 0) da (v:=iV (jH l n)) (by rw[CF _ _ _ (kH _)];unfold jH;split<;>rfl) ?_;refine ag ?_;refine aL hg 2 5 cZ rfl rfl ?_;show [Ob.box [AV.mp 1],aR _ (Ob.map (ct (kr l 0)))]=_
 rw[ni cN];rfl
theorem OK (Y:YP)(cq:Int)(t:Tm):t.size<1000000000->aU Tryz.prog Y 71 [t.av,.b9 72 [] [.lo 0 0]] (H8 cq) (Tm.gi (λn=>IntKind.i64.wrap (n+cq)) t).av (H8 cq):=by
 induction t using Tm.ind with
 |_ t ih=>
 intro hsz;have hl:=Tm.bO t.l;have hs:=Tm.size_eq t;refine mH4 Tryz.func71 λw S φ hg=>?_
 have hφ:φ.length<=1:=Nat.le_of_eq hg.kh.len;obtain⟨n',Bf⟩:∃n',n'=if t.k=1 then(λn=>IntKind.i64.wrap (n+cq)) t.n else t.n:=⟨_,rfl⟩
 refine ag ?_;refine af (λh=>?_) λh=>?_
 have NT:t.k=1:=by simpa using h
 rw[if_pos NT]at Bf;have hc:=Ut Y t.n cq;rw[show iV _=iV n' from congrArg iV Bf.symm]at hc;refine aj hg.ok hg.cm hg.wide hg.Y [0] (([.box [iV cq]]:List Ob)++[aO t,.box [.d (.v (.int .i64 0)),.d (.v (.string ByteArray.empty)),.d (.v (.int .i64 0)),.d (.v (.slice none 0 0))]]) hc cN rfl rfl rfl rfl rfl rfl rfl rfl (ag ?_);refine uI (([.box [iV cq]]:List Ob)++[.box [.d (.v (.int .i64 t.k)),.d (.v (.string t.s)),.d (.v (.int .i64 n')),.d (.v (.slice none 0 0))],.box [.d (.v (.int .i64 0)),.d (.v (.string ByteArray.empty)),.d (.v (.int .i64 0)),.d (.v (.slice none 0 0))]]) ?_ rfl ?_;exact alW;refine mx 1 3 4 rfl rfl rfl ?_
 refine a7 (λk:Nat=>([(1,.b9 72 [] [.lo 0 0]),(2,.lo 1 0),(4,.lo 2 0),(19,.d (.sl (Tm.aa t.l))),(20,iV t.l.length),(21,iV k)],([.box [iV cq]]:List Ob)++[.box [.d (.v (.int .i64 t.k)),.d (.v (.string t.s)),.d (.v (.int .i64 n')),.ow 3 k],.box [.d (.v (.int .i64 0)),.d (.v (.string ByteArray.empty)),.d (.v (.int .i64 0)),.d (.v (.slice none 0 0))],.arr 4 k (Tm.aa (Tm.dp (λn=>IntKind.i64.wrap (n+cq)) (t.l.take k)))]))
  (λk=>k<=t.l.length) (λk=>t.l.length-k) 0 fO ⟨.refl _,.refl _,.refl _,.refl _,bJ.int um,.refl _,trivial⟩ rfl ?_
 intro k hk;refine ag ?_;refine af (λh=>?_) λh=>?_
 have aI:k<t.l.length:=bo h rfl;have e1:t.l[k]? = some t.l[k]:=dG aI;have hm:=Tm.b8 (dy aI);refine cJ (Tm.ay e1) ?_;refine jk hg.ok hg.cm hg.wide hg.Y [0] (ih _ (dy aI) aq) cN rfl rfl rfl rfl rfl rfl rfl rfl (ag ?_);refine Wi ?_;refine bf 4 _ tn rfl rfl ?_;exact Wl;have aI:t.l.length<=k:=bw h rfl;refine aL hg 1 5 cZ rfl ((nP rfl rfl rfl rfl rfl).trans ?_) rfl;rw[Fm aI,Tm.xe,if_pos NT];subst Bf;rfl;have NT:¬ t.k=1:=by simpa using h
 rw[if_neg NT]at Bf;refine uI (([.box [iV cq]]:List Ob)++[.box [.d (.v (.int .i64 t.k)),.d (.v (.string t.s)),.d (.v (.int .i64 n')),.d (.v (.slice none 0 0))],.box [.d (.v (.int .i64 0)),.d (.v (.string ByteArray.empty)),.d (.v (.int .i64 0)),.d (.v (.slice none 0 0))]]) ?_ rfl ?_;exact alW;refine mx 1 3 4 rfl rfl rfl ?_
 refine a7 (λk:Nat=>([(1,.b9 72 [] [.lo 0 0]),(2,.lo 1 0),(4,.lo 2 0),(19,.d (.sl (Tm.aa t.l))),(20,iV t.l.length),(21,iV k)],([.box [iV cq]]:List Ob)++[.box [.d (.v (.int .i64 t.k)),.d (.v (.string t.s)),.d (.v (.int .i64 n')),.ow 3 k],.box [.d (.v (.int .i64 0)),.d (.v (.string ByteArray.empty)),.d (.v (.int .i64 0)),.d (.v (.slice none 0 0))],.arr 4 k (Tm.aa (Tm.dp (λn=>IntKind.i64.wrap (n+cq)) (t.l.take k)))]))
  (λk=>k<=t.l.length) (λk=>t.l.length-k) 0 fO ⟨.refl _,.refl _,.refl _,.refl _,bJ.int um,.refl _,trivial⟩ rfl ?_
 intro k hk;refine ag ?_;refine af (λh=>?_) λh=>?_
 have aI:k<t.l.length:=bo h rfl;have e1:t.l[k]? = some t.l[k]:=dG aI;have hm:=Tm.b8 (dy aI);refine cJ (Tm.ay e1) ?_;refine jk hg.ok hg.cm hg.wide hg.Y [0] (ih _ (dy aI) aq) cN rfl rfl rfl rfl rfl rfl rfl rfl (ag ?_);refine Wi ?_;refine bf 4 _ tn rfl rfl ?_;exact Wl;have aI:t.l.length<=k:=bw h rfl;refine aL hg 1 5 cZ rfl ((nP rfl rfl rfl rfl rfl).trans ?_) rfl;rw[Fm aI,Tm.xe,if_neg NT];subst Bf;rfl
theorem OL (Y:YP)(vs:List Int)(t:Tm):t.size<1000000000->aU Tryz.prog Y 71 [t.av,.b9 95 [] [.lo 0 0]] (H9 vs) (Tm.gi (jH vs) t).av (H9 vs):=by
 induction t using Tm.ind with
 |_ t ih=>
 intro hsz;have hl:=Tm.bO t.l;have hs:=Tm.size_eq t;refine mH4 Tryz.func71 λw S φ hg=>?_
 have hφ:φ.length<=2:=Nat.le_of_eq hg.kh.len;obtain⟨n',Bf⟩:∃n',n'=if t.k=1 then(jH vs) t.n else t.n:=⟨_,rfl⟩
 refine ag ?_;refine af (λh=>?_) λh=>?_
 have NT:t.k=1:=by simpa using h
 rw[if_pos NT]at Bf;have hc:=OJ Y t.n vs;rw[show iV _=iV n' from congrArg iV Bf.symm]at hc;refine aj hg.ok hg.cm hg.wide hg.Y [0,1] (([.box [.mp 1],.map (ct (kr vs 0))]:List Ob)++[aO t,.box [.d (.v (.int .i64 0)),.d (.v (.string ByteArray.empty)),.d (.v (.int .i64 0)),.d (.v (.slice none 0 0))]]) hc cN rfl rfl rfl rfl rfl (RL (ki _ _)) rfl (Fh (ki _ _)) (ag ?_);refine uI (([.box [.mp 1],.map (ct (kr vs 0))]:List Ob)++[.box [.d (.v (.int .i64 t.k)),.d (.v (.string t.s)),.d (.v (.int .i64 n')),.d (.v (.slice none 0 0))],.box [.d (.v (.int .i64 0)),.d (.v (.string ByteArray.empty)),.d (.v (.int .i64 0)),.d (.v (.slice none 0 0))]]) ?_ rfl ?_;exact alR;refine mx 2 3 4 rfl rfl rfl ?_
 refine a7 (λk:Nat=>([(1,.b9 95 [] [.lo 0 0]),(2,.lo 2 0),(4,.lo 3 0),(19,.d (.sl (Tm.aa t.l))),(20,iV t.l.length),(21,iV k)],([.box [.mp 1],.map (ct (kr vs 0))]:List Ob)++[.box [.d (.v (.int .i64 t.k)),.d (.v (.string t.s)),.d (.v (.int .i64 n')),.ow 4 k],.box [.d (.v (.int .i64 0)),.d (.v (.string ByteArray.empty)),.d (.v (.int .i64 0)),.d (.v (.slice none 0 0))],.arr 4 k (Tm.aa (Tm.dp (jH vs) (t.l.take k)))]))
  (λk=>k<=t.l.length) (λk=>t.l.length-k) 0 fO ⟨.refl _,.refl _,.refl _,.refl _,bJ.int um,.refl _,trivial⟩ rfl ?_
 intro k hk;refine ag ?_;refine af (λh=>?_) λh=>?_
 have aI:k<t.l.length:=bo h rfl;have e1:t.l[k]? = some t.l[k]:=dG aI;have hm:=Tm.b8 (dy aI);refine cJ (Tm.ay e1) ?_;refine jk hg.ok hg.cm hg.wide hg.Y [0,1] (ih _ (dy aI) aq) cN rfl rfl rfl rfl rfl (RL (ki _ _)) rfl (Fh (ki _ _)) (ag ?_);refine Wi ?_;refine afu ?_;exact Wl;have aI:t.l.length<=k:=bw h rfl;refine aL hg 2 5 cZ rfl ((nP rfl rfl rfl rfl rfl).trans ?_) (Fh (ni cN _ _));rw[Fm aI,Tm.xe,if_pos NT];subst Bf;rfl;have NT:¬ t.k=1:=by simpa using h
 rw[if_neg NT]at Bf;refine uI (([.box [.mp 1],.map (ct (kr vs 0))]:List Ob)++[.box [.d (.v (.int .i64 t.k)),.d (.v (.string t.s)),.d (.v (.int .i64 n')),.d (.v (.slice none 0 0))],.box [.d (.v (.int .i64 0)),.d (.v (.string ByteArray.empty)),.d (.v (.int .i64 0)),.d (.v (.slice none 0 0))]]) ?_ rfl ?_;exact alR;refine mx 2 3 4 rfl rfl rfl ?_
 refine a7 (λk:Nat=>([(1,.b9 95 [] [.lo 0 0]),(2,.lo 2 0),(4,.lo 3 0),(19,.d (.sl (Tm.aa t.l))),(20,iV t.l.length),(21,iV k)],([.box [.mp 1],.map (ct (kr vs 0))]:List Ob)++[.box [.d (.v (.int .i64 t.k)),.d (.v (.string t.s)),.d (.v (.int .i64 n')),.ow 4 k],.box [.d (.v (.int .i64 0)),.d (.v (.string ByteArray.empty)),.d (.v (.int .i64 0)),.d (.v (.slice none 0 0))],.arr 4 k (Tm.aa (Tm.dp (jH vs) (t.l.take k)))]))
  (λk=>k<=t.l.length) (λk=>t.l.length-k) 0 fO ⟨.refl _,.refl _,.refl _,.refl _,bJ.int um,.refl _,trivial⟩ rfl ?_
 intro k hk;refine ag ?_;refine af (λh=>?_) λh=>?_
 have aI:k<t.l.length:=bo h rfl;have e1:t.l[k]? = some t.l[k]:=dG aI;have hm:=Tm.b8 (dy aI);refine cJ (Tm.ay e1) ?_;refine jk hg.ok hg.cm hg.wide hg.Y [0,1] (ih _ (dy aI) aq) cN rfl rfl rfl rfl rfl (RL (ki _ _)) rfl (Fh (ki _ _)) (ag ?_);refine Wi ?_;refine afu ?_;exact Wl;have aI:t.l.length<=k:=bw h rfl;refine aL hg 2 5 cZ rfl ((nP rfl rfl rfl rfl rfl).trans ?_) (Fh (ni cN _ _));rw[Fm aI,Tm.xe,if_neg NT];subst Bf;rfl
theorem uQ (t:Tm):(bP [t]).length<=t.size:=by have:=qi [t] [];simpa[wm,bP,Tm.aw]using this
theorem mf (t:Tm)(cq:Int)(hsz:t.size<1000000000)(Y0:∀e∈t.gX 1,e.2.s.size<1000000000):br Tryz.prog 42 [t.av,iV cq] (.cP [(qW t cq).1.av,iV (qW t cq).2]):=by
 have Oa:=uQ t;refine v8 Tryz.func42 λw S hg=>?_
 refine aA (fe t hsz Y0) ?_;refine af (λh=>?_) λh=>?_
 refine bz ?_;have h:de t=false:=by simpa using h
 simp only[qW,h];rfl;have hr:de t=true:=by simpa using h
 refine af (λh=>?_) λh=>?_
 refine bz ?_;simp only[qW,hr,if_pos (of_decide_eq_true h)];rfl;have hb:=of_decide_eq_false h;refine aA (tK [t] J1).one ?_;generalize hV:bP [t]=V at *;refine a7 (λk:Nat=>([(2,.lo 0 0),(3,.lo 1 0),(4,.lo 2 0),(17,.d (.sl (cD V))),(18,iV V.length),(19,iV k)],[aO t,.box [iV cq],.box [.d (.v (.int .i64 0)),.d (.v (.string ByteArray.empty)),.d (.v (.int .i64 0)),.d (.v (.slice none 0 0))]])) (λk=>k<=V.length/\V.any (Ot cq)=(V.drop k).any (Ot cq)) (λk=>V.length-k) 0 ⟨bU _,rfl⟩ ⟨.refl _,.refl _,.refl _,.refl _,bJ.int Q0,.refl _,trivial⟩ rfl ?_;rintro k ⟨hk,hm⟩;refine ag ?_;refine af (λh=>?_) λh=>?_
 have aI:k<V.length:=bo h rfl;have e1:V[k]? = some V[k]:=dG aI;rw[List.drop_eq_getElem_cons aI,List.any_cons]at hm;refine cJ (iE e1) ?_;refine af (λh=>?_) λh=>?_
 refine bz ?_;have hbv:Ot cq V[k]=true:=h;simp only[qW,hr,if_neg hb,hV,hm,hbv,Bool.true_or];rfl;have hbv:Ot cq V[k]=false:=h;refine bb (k+1) ⟨aI,by rw[hm,hbv,uq]⟩ aq alh rfl;have aI:V.length<=k:=bw h rfl;rw[cX aI,List.any_nil]at hm;refine wW hg.ok hg.cm ⟨rfl,rfl⟩ (λ_ _ _ _ h=>by cases h) [1] (OK ⟨[],λ_=>true⟩ cq t hsz) cN rfl rfl rfl rfl rfl rfl rfl (ag ?_);refine bz ?_;simp only[qW,hr,if_neg hb,hV,hm];rfl
theorem OM {l:List Int}{x:Int}(h:l.Nodup):(jC l x).Nodup:=by unfold jC;split;exact h;rename_i hc;rw[Bq];refine⟨h,by simp,λa ha b hb=>?_⟩;simp at hb;subst hb;rintro rfl;exact hc (by simpa using ha)
theorem zG:∀(l:List (Int×Tm)) (a:List Int),a.Nodup->(l.foldl fT a).Nodup|[],a,h=>h|e::l,a,h=>by refine zG l _ ?_;unfold fT;split;exact OM h;exact h
theorem zH:∀(l:List Tm) (a:List Int),a.Nodup->(wm a l).Nodup|[],a,h=>h|t::l,a,h=>zH l _ (zG _ _ h)
theorem Lu (l:List Tm):(bP l).Nodup:=zH l [] aD
theorem Ia {l:List Int}(h:l.Nodup){k:Nat}(hk:k<l.length):l[k] ∉ l.take k:=by intro hm;obtain⟨i,hi,e⟩:=aca.1 hm;rw[zi]at hi;rw[List.getElem_take]at e;have:=(List.nodup_iff_pairwise_ne.1 h);rw[List.pairwise_iff_getElem]at this;exact this i k aq hk aq e
theorem uR (l:List Tm)(hsz:Tm.aw l<1000000000)(Y0:∀t∈l,∀e∈t.gX 1,e.2.s.size<1000000000):br Tryz.prog 70 [.d (.sl (Tm.aa l))] (.cP [.d (.sl (Tm.aa (dP l).1)),iV (dP l).2.1,iV (dP l).2.2]):=by
 have hl:=Tm.bO l;have Oa:(bP l).length<=Tm.aw l:=by have:=qi l [];simpa[wm,bP]using this
 refine br.ej (pf:=λ_=>.look 0) gK mixed Tryz.func70 rfl da da (by simp[Tryz.ntmps70]) λw S hg=>?_
 refine ag ?_;refine a7 (λk:Nat=>([(0,.d (.sl (Tm.aa l))),(13,.d (.sl (Tm.aa l))),(14,iV l.length),(15,iV k)],[])) (λk=>k<=l.length/\l.all de=(l.drop k).all de) (λk=>l.length-k) 0 ⟨bU _,rfl⟩ ⟨.refl _,.refl _,bJ.int um,.refl _,trivial⟩ rfl ?_;rintro k ⟨hk,hm⟩;refine ag ?_;refine af (λh=>?_) λh=>?_
 have aI:k<l.length:=bo h rfl;have e1:l[k]? = some l[k]:=dG aI;have Wc:=Tm.b8 (dy aI);rw[List.drop_eq_getElem_cons aI,pK]at hm;refine cJ (Tm.ay e1) ?_;refine aA (fe l[k] aq (Y0 _ (dy aI))) ?_;refine af (λh=>?_) λh=>?_
 refine bz ?_;have h:de l[k]=false:=by simpa using h
 simp only[dP,hm,h,rA];rfl;have h:de l[k]=true:=by simpa using h
 refine u5 0 fO rfl ?_;refine bb (k+1) ⟨aI,by rw[hm,h,iu]⟩ aq ahp rfl;have aI:l.length<=k:=bw h rfl;rw[cX aI,List.all_nil]at hm;refine Eo ?_;refine aA (tK l hsz) ?_;have rO:=Lu l;generalize hV:bP l=V at *;refine a7 (λk:Nat=>([(0,.d (.sl (Tm.aa l))),(7,.lo 1 0),(25,.d (.sl (cD V))),(26,iV V.length),(27,iV k)],[.map (ct (kr (V.take k) 0)),.box [.mp 0]])) (λk=>k<=V.length) (λk=>V.length-k) 0 fO ⟨.refl _,.refl _,.refl _,bJ.int Q0,.refl _,trivial⟩ rfl ?_;intro k hk;refine ag ?_;refine af (λh=>?_) λh=>?_
 have aI:k<V.length:=bo h rfl;have e1:V[k]? = some V[k]:=dG aI;refine cJ (iE e1) ?_;refine FY hg.ok (kr (V.take k) 0) (kr (V.take (k+1)) 0) rfl rfl rfl rfl rfl rfl rfl (by rw[CF _ _ _ (kH _),zw (Ia rO aI)];rfl) rfl (by rw[Jt,e1,Option.toList_some,<-FO,zi,Hl hk,Int.zero_add];rfl) (ag ?_);exact Wv;have aI:V.length<=k:=bw h rfl;rw[Fm aI];refine KR 10 4 rfl rfl ?_;refine a7 (λk:Nat=>([(7,.lo 1 0),(10,.ow 2 k),(36,.d (.sl (Tm.aa l))),(37,iV l.length),(38,iV k)],[.map (ct (kr V 0)),.box [.mp 0],.arr 4 k (Tm.aa (Tm.dp (jH V) (l.take k)))])) (λk=>k<=l.length) (λk=>l.length-k) 0 fO ⟨.refl _,.refl _,.refl _,bJ.int um,.refl _,trivial⟩ rfl ?_;intro k hk;refine ag ?_;refine af (λh=>?_) λh=>?_
 have aI:k<l.length:=bo h rfl;have e1:l[k]? = some l[k]:=dG aI;have Wc:=Tm.b8 (dy aI);refine cJ (Tm.ay e1) ?_;refine jk hg.ok hg.cm ⟨rfl,rfl⟩ (λ_ _ _ _ h=>by cases h) [1,0] (OL ⟨[],λ_=>true⟩ V l[k] aq) cN rfl rfl rfl rfl rfl (RL (ki _ _)) rfl (agj (ki _ _)) (ag ?_);refine Wi ?_;refine bf 3 _ fO rfl (agj (ni cN _ _)) ?_;exact Wv;have aI:l.length<=k:=bw h rfl;refine QE ?_;have a8:(ct (kr V 0)).length=V.length:=by simp[ct,K8]
 simp only[dP,hV,hm,if_true,Fm aI,a8];rfl
end Go.Proofs.YtmjmngigbachdaaGreatDoor

namespace ax
open Go Go.RowKit Go.MapKept
variable{Fin:Exit->Act->World->Prop}{gd:Option (Nat×Bool)}{s n:ByteArray}{after:Array Edge}{ad:Array Oper}{dst:Option Nat}{az:List Oper}{pf:Nat->cI}{objs:List Ob}{pos:String}{k:List It}{z:List Value}{ty T:Nat}{E:bq}{a b:Int}{g:G}
def dQ:List (ByteArray×AV)->ByteArray->Option AV|[],_=>none|p::r,n=>if p.1=n then some p.2 else dQ r n
def eK (l:List (ByteArray×AV)):List (Value×AV):=l.map λp=>(.string p.1,p.2)
theorem je{n:ByteArray}:∀{l:List (ByteArray×AV)} {i:Nat},∃r,l7 .string (.string n) (eK l) i=some r/\r.map (·.2)=dQ l n
 |[],i=>⟨none,rfl,rfl⟩
 |p::l,i=>by
  obtain⟨r0,h1,h2⟩:=sameNow_of_keys (d:=.string) (a:=.string n) (b:=.string p.1) trivial trivial;simp only[dQ];by_cases h:p.1=n;have h3:r0=true:=h2.2 (by rw [h]);refine⟨some (i,p.2),?_,by simp[h]⟩;simp only[eK,bM,l7,h1,h3];have h3:r0=false:=by grind
  obtain⟨r,h4,h5⟩:=je (n:=n) (l:=l) (i:=i+1);refine⟨r,?_,by simp_all⟩;simp only[eK,bM,l7,h1,h3];exact h4
theorem Gs(hg:di g){x y:Operand}{ok:Bool}
  {i q cq q' pA kt et:Nat} {z z':List Value}  {zv:Value} (l:List (ByteArray×AV))
  (bt:aH ad.toList E gd=some true) (hd:aQ ⟨g.ty,g.N⟩ dst=true) (hx:ev E x=.mp i) (ho:dq objs i=some (.map (eK l))) (hy:ev E y=.d (.v (.string n))) (hT:g.ty T=some ⟨q,cq,z,.map kt et⟩)
  (o7:g.ty kt=some ⟨q',pA,z',.str⟩) (hz:(g.P.info? et).bind (·.zero)=some zv) {v:AV} (hv:jG ok (lZ zv) (dQ l n)=v)
  (hr:R g pf Fin (.dr ad az::k) (bh E dst v) objs):R g pf Fin (.dr ad (⟨dst,.lookup T x y ok,ty,pos,after,gd⟩::az)::k) E objs:=by
 subst hv;have hu:=(hg.ty _ _ o7).sh;simp only[bH]at hu;obtain⟨r,h1,h2⟩:=je (n:=n) (l:=l) (i:=0);refine K6 hg bt hd hx ho hy hT hu NJ h1 hz ?_;have:pV ok (lZ zv) r=jG ok (lZ zv) (dQ l n):=by rw[<-h2];cases r<;>rfl
 simp_all
theorem yK(hg:di g){x y v:Operand}
  {i q cq q' pA kt et:Nat} {z z':List Value}  {av:AV} (l l':List (ByteArray×AV))
  (bt:aH ad.toList E gd=some true) (hd:aQ ⟨g.ty,g.N⟩ dst=true) (hx:ev E x=.mp i) (ho:dq objs i=some (.map (eK l))) (hy:ev E y=.d (.v (.string n))) (hT:g.ty T=some ⟨q,cq,z,.map kt et⟩)
  (o7:g.ty kt=some ⟨q',pA,z',.str⟩) (hf:dQ l n=none) (Y3:ev E v=av) (hl:l++[(n,av)]=l')
  (hr:R g pf Fin (.dr ad az::k) (bh E dst .any) (dj objs i (.map (eK l')))):R g pf Fin (.dr ad (⟨dst,.mapUpdate T x y v,ty,pos,after,gd⟩::az)::k) E objs:=by
 subst hl;subst Y3;have hu:=(hg.ty _ _ o7).sh;simp only[bH]at hu;obtain⟨r,h1,h2⟩:=je (n:=n) (l:=l) (i:=0);have:r=none:=by rw[hf]at h2;cases r with|none=>rfl|some _=>simp at h2
 subst this;refine K7 hg bt hd hx ho hy hT hu NJ h1 ?_;have e:eK l++[(Value.string n,ev E v)]=eK (l++[(n,ev E v)]):=by simp[eK]
 simp_all
theorem Y4(hg:di g){x y v:Operand}
  {i q cq kt et:Nat}  {es:List (Value×AV)} {kv:Value} {kd:TypeDesc}
  (bt:aH ad.toList E gd=some true) (hd:aQ ⟨g.ty,g.N⟩ dst=true) (hx:ev E x=.mp i) (ho:dq objs i=some (.map es)) (hy:ev E y=.d (.v kv)) (hT:g.ty T=some ⟨q,cq,z,.map kt et⟩)
  (o7:g.P.underlying kt=some kd) (Bu:IsKey kd kv) (hf:l7 kd kv es 0=some none)
  (hr:R g pf Fin (.dr ad az::k) (bh E dst .any) (dj objs i (.map (es++[(kv,ev E v)])))):R g pf Fin (.dr ad (⟨dst,.insert T x y v,ty,pos,after,gd⟩::az)::k) E objs:=by
 refine cU (aK.eU hg (pW ho) bt hd aD λφ a w hρ hs=>?_) hr;simp only[Op.operands]at hρ;have aP:=hρ x aD;rw[hx]at aP;have eC:=hρ y aD;rw[hy]at eC;have hvv:=hρ v aD;simp only[RV]at aP eC;exact mB6
theorem ju(hg:di g){x y v:Operand}
  {i q cq q' pA kt et:Nat} {z z':List Value}  {av:AV} (l l':List (ByteArray×AV))
  (bt:aH ad.toList E gd=some true) (hd:aQ ⟨g.ty,g.N⟩ dst=true) (hx:ev E x=.mp i) (ho:dq objs i=some (.map (eK l))) (hy:ev E y=.d (.v (.string n))) (hT:g.ty T=some ⟨q,cq,z,.map kt et⟩)
  (o7:g.ty kt=some ⟨q',pA,z',.str⟩) (hf:dQ l n=none) (Y3:ev E v=av) (hl:l++[(n,av)]=l')
  (hr:R g pf Fin (.dr ad az::k) (bh E dst .any) (dj objs i (.map (eK l')))):R g pf Fin (.dr ad (⟨dst,.insert T x y v,ty,pos,after,gd⟩::az)::k) E objs:=by
 subst hl;subst Y3;have hu:=(hg.ty _ _ o7).sh;simp only[bH]at hu;obtain⟨r,h1,h2⟩:=je (n:=n) (l:=l) (i:=0);have:r=none:=by rw[hf]at h2;cases r with|none=>rfl|some _=>simp at h2
 subst this;refine Y4 hg bt hd hx ho hy hT hu NJ h1 ?_;have e:eK l++[(Value.string n,ev E v)]=eK (l++[(n,ev E v)]):=by simp[eK]
 simp_all
def Lw (x:Int):Bool:=decide (-9223372036854775808<=x)&&decide (x<=9223372036854775807)
theorem lU{x:Int}:Lw x=true↔ji x:=by simp[Lw,ji]
def AK (x:Int):Int×Bool:=if Lw x then(x,true)else(0,false)
theorem Y5{x:Int}(h:ji x):AK x=(x,true):=by unfold AK;rw[if_pos (lU.2 h)]
theorem AQ(x:Int):ji (AK x).1:=by unfold AK;split;rename_i h;exact lU.1 h;unfold ji;simp
theorem zI(x:Int):(AK x).2=Lw x:=by unfold AK;grind
def kQ:ByteArray:=⟨#[43]⟩
def fg:ByteArray:=⟨#[45]⟩
def vK:ByteArray:=⟨#[42]⟩
def yL:ByteArray:=⟨#[47,47]⟩
def EP:ByteArray:=⟨#[109,111,100]⟩
def CG (s:ByteArray):Bool:=aX s kQ||aX s fg||aX s vK||aX s yL||aX s EP
def uy (a b:Int):Int:=if a.tmod b≠0/\¬ (a.tmod b<0↔b<0)then a.tmod b+b else a.tmod b
def AJ (s:ByteArray)(a b:Int):Int×Bool :=
 if aX s kQ then AK (a+b)else if aX s fg then AK (a-b)else if aX s vK then AK (a*b)
 else if b=0 then(0,false)else if aX s yL then AK (a.tdiv b)else AK (uy a b)
theorem ac0(s:ByteArray)(a b:Int):ji (AJ s a b).1:=by unfold AJ;split;exact AQ _;split;exact AQ _;split;exact AQ _;split;unfold ji;simp;split<;>exact AQ _
def Bm (r:Int×Bool):Int×Int:=if r.2 then(r.1,0)else(0,6)
def nU (k:Int)(s:ByteArray)(n:Int)(L:List (Int×Int)):Int×Int :=
 if k=1 then(0,4)else if k=2 then(n,0)else
 match L with
 |[x]=>if aX s fg then(if x.2≠0 then(0,x.2)else Bm (AJ s 0 x.1))else(0,5)
 |[x,y]=>if CG s then(if x.2≠0 then(0,x.2)else if y.2≠0 then(0,y.2)else Bm (AJ s x.1 y.1))else(0,5)
 |_=>(0,5)
theorem Y6{k n:Int}{L:List (Int×Int)}(h:k=1):nU k s n L=(0,4):=by unfold nU;exact if_pos h
theorem Y7{k n:Int}{L:List (Int×Int)}(h:¬ k=1)(h2:k=2):nU k s n L=(n,0):=by unfold nU;simp_all
theorem ac1{k n:Int}(h:¬ k=1)(h2:¬ k=2):nU k s n []=(0,5):=by unfold nU;simp_all
theorem Sc{k n:Int}{x:Int×Int}(h:¬ k=1)(h2:¬ k=2):nU k s n [x]=if aX s fg then(if x.2≠0 then(0,x.2)else Bm (AJ s 0 x.1))else(0,5):=by unfold nU;simp_all
theorem Sd{k n:Int}{x y:Int×Int}(h:¬ k=1)(h2:¬ k=2):nU k s n [x,y]=if CG s then(if x.2≠0 then(0,x.2)else if y.2≠0 then(0,y.2)else Bm (AJ s x.1 y.1))else(0,5):=by unfold nU;simp_all
theorem ac2{k n:Int}{x y z:Int×Int}{r:List (Int×Int)}(h:¬ k=1)(h2:¬ k=2):nU k s n (x::y::z::r)=(0,5):=by unfold nU;simp_all
namespace Tm
mutual
def eD:Tm->Int×Int|mk k s n l=>nU k s n (vL l)
def vL:List Tm->List (Int×Int)|[]=>[]|x::r=>eD x::vL r
end
theorem CH(t:Tm):eD t=nU t.k t.s t.n (vL t.l):=by cases t;simp only[eD];rfl
theorem Fit.sub{t x:Tm}(h:t.Fit)(hx:x∈t.l):x.Fit:=λd e he=>h (d-1) e alj
theorem tL{t:Tm}(h:t.Fit):ji (eD t).1:=by
 have h0:ji 0:=by unfold ji;omega
 have hn:ji t.n:=(h 0 (0,t) (by rw[kE];simp)).2;have ho:∀s a b,ji (Bm (AJ s a b)).1:=λs a b=>by unfold Bm;split;exact ac0 s a b;exact h0
 rw[CH];unfold nU;grind
end Tm
def bD (t:Tm):Int×Int:=if t.bB then Tm.eD t else(0,1)
theorem Y8(n:Int):IntKind.i64.wrap n=if n % 18446744073709551616 ≥ 9223372036854775808 then n % 18446744073709551616-18446744073709551616 else n % 18446744073709551616:=by simp[IntKind.wrap,IntKind.signed,IntKind.bits]
theorem ac3(ha:ji a)(hb:ji b):(decide (IntKind.i64.wrap (a+b)<a)==decide (b<0))=Lw (a+b)/\(Lw (a+b)=true->IntKind.i64.wrap (a+b)=a+b):=by
 unfold ji at ha hb;rw[Y8];constructor;rw [o5];simp only[Lw,beq_iff_eq,aV,decide_eq_true_eq,decide_eq_decide];split<;>omega
 rw[lU];unfold ji;omega
theorem ac4(ha:ji a)(hb:ji b):(decide (IntKind.i64.wrap (a-b) > a)==decide (b<0))=Lw (a-b)/\(Lw (a-b)=true->IntKind.i64.wrap (a-b)=a-b):=by
 unfold ji at ha hb;rw[Y8];constructor;rw [o5];simp only[Lw,beq_iff_eq,aV,decide_eq_true_eq,decide_eq_decide];split<;>omega
 rw[lU];unfold ji;omega
theorem CI(p a:Int)(ha:a≠0):(0<=p->-p<=p.tdiv a/\p.tdiv a<=p)/\(p<=0->p<=p.tdiv a/\p.tdiv a<=-p):=by have h:=Int.natAbs_tdiv_le_natAbs p a;omega
theorem vM(p a:Int)(ha:a≠0):∃r,p=a*p.tdiv a+r/\r.natAbs<a.natAbs:=by refine⟨p.tmod a,(Int.mul_tdiv_add_tmod p a).symm,?_⟩;rw[Int.natAbs_tmod];exact Nat.mod_lt _ aq
theorem ac5(ha:ji a)(hb:ji b)(h0:a≠0)(h1:a≠-1):(IntKind.i64.wrap ((IntKind.i64.wrap (a*b)).tdiv a)==b)=Lw (a*b)/\(Lw (a*b)=true->IntKind.i64.wrap (a*b)=a*b):=by
 unfold ji at ha hb;have hw:∀x,-9223372036854775808<=IntKind.i64.wrap x/\IntKind.i64.wrap x<=9223372036854775807/\∃q,IntKind.i64.wrap x=x+q*18446744073709551616:=λx=>by rw[Y8];have h2:=Int.emod_nonneg x (show(18446744073709551616:Int)≠0 by decide);have h3:=Int.emod_lt_of_pos x (show(0:Int)<18446744073709551616 by decide);split;exact⟨by omega,by omega,-(x / 18446744073709551616)-1,by omega⟩;exact⟨by omega,by omega,-(x / 18446744073709551616),by omega⟩
 have hid:Lw (a*b)=true->IntKind.i64.wrap (a*b)=a*b:=λh=>by rw[lU]at h;unfold ji at h;exact jZ aq aq
 refine⟨?_,hid⟩;rw[o5,beq_iff_eq];obtain⟨p1,p2,q,hq⟩:=hw (a*b);generalize hp:IntKind.i64.wrap (a*b)=p at *;have Ae:=CI p a h0
 have aqi:IntKind.i64.wrap (p.tdiv a)=p.tdiv a:=by
  by_cases hm:p=-9223372036854775808;have h3:=Int.natAbs_tdiv_le_natAbs p a;have:p.tdiv a≠9223372036854775808:=λe=>by obtain⟨r,h4,h5⟩:=vM p a h0;rw[e]at h4;omega
  exact jZ aq aq;exact jZ aq aq
 rw[aqi];constructor;intro e;obtain⟨r,h4,h5⟩:=vM p a h0;rw[e]at h4;have:q=0:=by omega
 rw[lU];unfold ji;subst this;omega;simp_all
theorem Se(ha:ji a)(hb0:b≠0):(Lw (a.tdiv b)=true↔¬ (a=-9223372036854775808/\b=-1)):=by
 unfold ji at ha;have h:=CI a b hb0;rw[lU];unfold ji;constructor;rintro h2 ⟨rfl,rfl⟩;simp_all;intro h2;by_cases hm:a=-9223372036854775808;have Sf:b≠-1:=λe=>h2 ⟨hm,e⟩
 have:a.tdiv b≠9223372036854775808:=λe=>by obtain⟨r,h4,h5⟩:=vM a b hb0;grind
 omega;omega
theorem ac7(a b:Int)(hb:b≠0):(a.tmod b).natAbs<b.natAbs/\(0<=a->0<=a.tmod b)/\(a<=0->a.tmod b<=0):=by refine⟨by rw[Int.natAbs_tmod];exact Nat.mod_lt _ aq,λh=>Int.tmod_nonneg b h,λh=>?_⟩;have:=Int.tmod_nonneg b (a:=-a) aq;simp_all
theorem CJ(hb:b≠0):(0<b->0<=uy a b/\uy a b<b)/\(b<0->b<uy a b/\uy a b<=0):=by obtain⟨h1,h2,h3⟩:=ac7 a b hb;unfold uy;omega
theorem Y9(hb:ji b)(h0:b≠0):ji (uy a b):=by have:=CJ (a:=a) h0;unfold ji at hb ⊢;omega
end ax
namespace ax
open Go
theorem uS {a b:ByteArray}(h:a≠b):aX a b=false:=by
 cases e:aX a b with
 |false=>rfl
 |true=>exact absurd (Tm.bn.1 e) h
theorem tM (a:ByteArray):aX a a=true:=Tm.bn.2 rfl
theorem Za (a b:Int):AJ kQ a b=AK (a+b):=by unfold AJ;rw[tM];rfl
theorem Uu (a b:Int):AJ fg a b=AK (a-b):=by unfold AJ;rw[uS (show fg≠kQ by decide),tM];rfl
theorem ac8 (a b:Int):AJ vK a b=AK (a*b):=by unfold AJ;rw[uS (show vK≠kQ by decide),uS (show vK≠fg by decide),tM];rfl
theorem ac9 (a b:Int):AJ yL a b=if b=0 then(0,false)else AK (a.tdiv b):=by unfold AJ;rw[uS (show yL≠kQ by decide),uS (show yL≠fg by decide),uS (show yL≠vK by decide),tM];rfl
theorem ada (a b:Int):AJ EP a b=if b=0 then(0,false)else AK (uy a b):=by unfold AJ;rw[uS (show EP≠kQ by decide),uS (show EP≠fg by decide),uS (show EP≠vK by decide),uS (show EP≠yL by decide)];rfl
theorem ON {s:ByteArray}(h:CG s=true):s=kQ\/s=fg\/s=vK\/s=yL\/s=EP:=by simp only[CG,oy,Tm.bn]at h;grind
theorem CK {s:ByteArray}(h:CG s=false):s≠kQ/\s≠fg/\s≠vK/\s≠yL/\s≠EP:=by
 simp only[CG,Ez]at h;have key:∀{b},aX s b=false->s≠b:=λh e=>by rw[e,tM]at h;cases h
 simp_all
end ax
namespace ax
open Go Go.RowKit
theorem yM {g:G}{pf:Nat->cI}{ad:Array Oper}{Fin:Exit->Act->World->Prop}(hg:di g)(hu:JC g)(hF:g.F=Fence.wide/\g.dep=0)(hY:∀(i l:Nat) (I:Nat->(Nat->Prop)->(Nat->Prop)->World->Prop) (B:Nat->Prop),g.φ0[i]? = some (bI.ext l I B)->l5 g.P Fence.wide 0 g.Y l I g.S0)(objs':List Ob){Y:YP}{f:Nat}{dW:List AV}{bc:List Ob}{r:AV}(hc:aU g.P Y f dW [] r bc)(vj:(∃(i l:Nat) (I:Nat->(Nat->Prop)->(Nat->Prop)->World->Prop) (B:Nat->Prop),g.φ0[i]? = some (bI.ext l I B))->Y=g.Y){dst:Option Nat}{x:Operand}{args:Array Operand}{ts:Array Nat}{ty:Nat}{pos:String}{after:Array Edge}{gd:Option (Nat×Bool)}
  {az:List Oper} {k:List It} {E:bq} {objs:List Ob} {fs cs:List AV}
  (bt:aH ad.toList E gd=some true) (hd:aQ ⟨g.ty,g.N⟩ dst=true) (dK:bQ pf (.call {callee:=.value x,args:=args,argTypes:=ts})=.bT 0) (hx:ev E x=.b9 f fs cs)
  (has:(fs++args.toList.map (ev E)++cs).map lO=iH (rn [] (len objs)) dW) (ho:objs++bc.map (bG (rn [] (len objs)))=objs')
  (hr:R g pf Fin (.dr ad az::k) (bh E dst (dh (rn [] (len objs)) r)) objs') :
  R g pf Fin (.dr ad (⟨dst,.call {callee:=.value x,args:=args,argTypes:=ts},ty,pos,after,gd⟩::az)::k) E objs:=by
 subst ho;refine cU ?_ hr;show aK g ad _ E objs (bQ pf (.call {callee:=.value x,args:=args,argTypes:=ts})) _ _
 rw[dK];have h:=nk (ad:=ad) (after:=after) (pos:=pos) (ty:=ty) (ts:=ts) (dst:=dst) hg hu hF hY [] hc vj bt hd hx rfl rfl has
 refine⟨λhn=>absurd rfl (hn 0),λb hb _=>?_,λE₁ o₁ jF a w h1 h2 h3=>h.step E₁ o₁ jF a w h1 (by
  rcases h2 with ⟨h2,_⟩|⟨m,h2,_⟩|h2
  cases h2;cases h2;exact .inr (.inr h2)) h3⟩
 cases hb;exact .add _ _
def ER (s:ByteArray)(a b:Int):Bool×Int :=
 if aX s ⟨#[61,58,61]⟩then(a==b,0)else if aX s ⟨#[61,92,61]⟩then(a != b,0)else if aX s ⟨#[60]⟩then(decide (a<b),0)
 else if aX s ⟨#[62]⟩then(decide (a > b),0)else if aX s ⟨#[61,60]⟩then(decide (a<=b),0)else if aX s ⟨#[62,61]⟩then(decide (a ≥ b),0)else(false,1)
end ax
namespace ax
open Go Go.RowKit
theorem br.res {P:Program}{f:Nat}{dW:List AV}{r r':AV}(h:br P f dW r)(hl:JD r r'=true):br P f dW r' :=⟨h.call,λS w bS ha hS hv cs=>let ⟨e,w',fr,⟨v,e1,h2,h3⟩,s,x⟩:=h.run S w bS ha hS hv cs;⟨e,w',fr,⟨v,e1,Yv hl h2,h3⟩,s,x⟩⟩
end ax

namespace Go.Proofs.YtmjmngigbachdaaGreatDoor
open Go ax Go.Proofs
def Uv (f:Nat)(s:ByteArray):Prop:=∀a b:Int,ji a->ji b->∃v,br Tryz.prog f [iV a,iV b] (.cP [iV v,bV (AJ s a b).2])/\((AJ s a b).2=true->v=(AJ s a b).1)
theorem Lx {x v:Int}(h:Lw x=true->v=x):(AK x).2=true->v=(AK x).1:=λh2=>by rw[zI]at h2;rw[h h2];unfold AK;rw[if_pos h2]
theorem Zb:Uv 192 kQ:=λa b ha hb=>by
 obtain⟨h1,h2⟩:=ac3 ha hb;rw[Za];refine⟨_,?_,Lx h2⟩;rw[zI,<-h1];refine ng Tryz.func192 λw S hg=>?_
 refine bz ?_;rfl
theorem Zc:Uv 193 fg:=λa b ha hb=>by
 obtain⟨h1,h2⟩:=ac4 ha hb;rw[Uu];refine⟨_,?_,Lx h2⟩;rw[zI,<-h1];refine ng Tryz.func193 λw S hg=>?_
 refine bz ?_;rfl
theorem Zd:Uv 194 vK:=λa b ha hb=>by
 rw[ac8];by_cases h0:a=0\/b=0;have e:a*b=0:=by rcases h0 with h| h <;> rw [h] <;> simp
 rw[e,Y5 (by unfold ji;omega)];refine⟨0,?_,λ_=>rfl⟩;refine ng Tryz.func194 λw S hg=>?_
 refine af (λh1=>?_) λh1=>?_
 refine bz ?_;rfl;refine af (λh2=>?_) λh2=>?_
 refine bz ?_;rfl;simp at h1 h2;omega;have h0a:a≠0:=λe=>h0 (.inl e)
 have h0b:b≠0:=λe=>h0 (.inr e)
 by_cases h1:a=-1;have e:a*b=-b:=by rw [h1]; omega
 rw[e];unfold ji at hb;refine⟨IntKind.i64.wrap (0-b),?_,Lx λh=>?_⟩;rw[zI,show Lw (-b)=(b != -9223372036854775808) by rw[o5,lU];unfold ji;simp;omega];refine ng Tryz.func194 λw S hg=>?_
 refine eG hg.ok rfl rfl (by simp;exact h0a) rfl rfl ?_;refine eG hg.ok rfl rfl (by simp;exact h0b) rfl rfl ?_;refine cQ hg.ok rfl rfl (by simp;exact h1) rfl rfl ?_;refine bz ?_;rfl;rw [lU]at h; unfold ji at h;rw[jZ aq aq];omega;obtain ⟨h2,h3⟩:=ac5 ha hb h0a h1;refine⟨_,?_,Lx h3⟩;rw[zI,<-h2];refine ng Tryz.func194 λw S hg=>?_
 refine eG hg.ok rfl rfl (by simp;exact h0a) rfl rfl ?_;refine eG hg.ok rfl rfl (by simp;exact h0b) rfl rfl ?_;refine eG hg.ok rfl rfl (by simp;exact h1) rfl rfl ?_;refine Yx hg.ok rfl rfl rfl rfl h0a (ag ?_);refine bz ?_;rfl
theorem Ze:Uv 195 yL:=λa b ha hb=>by
 rw[ac9];by_cases h0:b=0;rw [if_pos h0];refine⟨0,?_,λh=>by cases h⟩;refine ng Tryz.func195 λw S hg=>?_
 refine cQ hg.ok rfl rfl (by simp;exact h0) rfl rfl ?_;refine bz ?_;rfl;rw [if_neg h0];by_cases h1:a=-9223372036854775808/\b=-1;have e:Lw (a.tdiv b)=false:=by rw[<-Bool.not_eq_true,Se ha h0];exact λh=>h h1
 refine⟨0,?_,λh=>by rw[zI,e]at h;cases h⟩;rw[zI,e];refine ng Tryz.func195 λw S hg=>?_
 refine WK ?_;refine cQ hg.ok rfl rfl (by simp;exact h1.1) rfl rfl ?_;refine cQ hg.ok rfl rfl (by simp;exact h1.2) rfl rfl ?_;refine bz ?_;rfl;have e:=(Se ha h0).2 h1;have e2:=lU.1 e;refine⟨a.tdiv b,?_,Lx λ_=>rfl⟩;rw[zI,e];unfold ji at e2;refine ng Tryz.func195 λw S hg=>?_
 refine WK ?_;refine af (λh2=>?_) λh2=>?_
 refine eG hg.ok rfl rfl (by simp at h2 ⊢; exact λh=>h1 ⟨h2,h⟩) rfl rfl ?_;refine Yx hg.ok rfl rfl rfl rfl h0 (ag ?_);refine bz ?_;rw[jZ aq aq];rfl;refine Yx hg.ok rfl rfl rfl rfl h0 (ag ?_);refine bz ?_;rw[jZ aq aq];rfl
theorem Zf:Uv 196 EP:=λa b ha hb=>by
 rw[ada];by_cases h0:b=0;rw [if_pos h0];refine⟨0,?_,λh=>by cases h⟩;refine ng Tryz.func196 λw S hg=>?_
 refine cQ hg.ok rfl rfl (by simp;exact h0) rfl rfl ?_;refine bz ?_;rfl;rw [if_neg h0];have hm:=Y9 (a:=a) hb h0;have Rq:=CJ (a:=a) h0;rw[Y5 hm];refine⟨uy a b,?_,λ_=>rfl⟩;unfold ji at hm;refine ng Tryz.func196 λw S hg=>?_
 refine WK ?_;by_cases h1:b=-1;refine cQ hg.ok rfl rfl (by simp; exact h1) rfl rfl ?_;refine bz ?_;rw[show uy a b=0 by omega];rfl;refine eG hg.ok rfl rfl (by simp; exact h1) rfl rfl ?_;refine agk hg.ok rfl rfl rfl rfl h0 (ag ?_);refine af (λh2=>?_) λh2=>?_
 refine af (λh3=>?_) λh3=>?_
 refine bz ?_;have e:uy a b=a.tmod b+b:=by unfold uy;rw[if_pos];simp at h2 h3;refine⟨h2,λh=>?_⟩;apply h3;simp[h]
 rw[e,jZ aq aq];rfl;refine bz ?_;have e:uy a b=a.tmod b:=by unfold uy;rw[if_neg];simp at h2 h3;rintro⟨_,h⟩;exact h h3
 rw[e];rfl;refine bz ?_;have e:uy a b=a.tmod b:=by unfold uy;rw[if_neg];simp at h2;rintro⟨h,_⟩;exact h h2
 rw[e];rfl
def pj:List (ByteArray×AV):=[(kQ,.b9 192 [] []),(fg,.b9 193 [] []),(vK,.b9 194 [] []),(yL,.b9 195 [] []),(EP,.b9 196 [] [])]
theorem Zg (Y:YP):aU Tryz.prog Y 179 [] [] (.mp 0) [.map (eK pj)]:=by
 refine u0 Tryz.func179 λw S φ hg=>?_
 refine Fa hg.ok rfl rfl ?_;refine ju hg.ok [] [(kQ,.b9 192 [] [])] rfl rfl rfl rfl rfl rfl rfl eA wA wA ?_;refine ju hg.ok [(kQ,.b9 192 [] [])] [(kQ,.b9 192 [] []),(fg,.b9 193 [] [])] rfl rfl rfl rfl rfl rfl rfl eA wA wA ?_;refine ju hg.ok [(kQ,.b9 192 [] []),(fg,.b9 193 [] [])] [(kQ,.b9 192 [] []),(fg,.b9 193 [] []),(vK,.b9 194 [] [])] rfl rfl rfl rfl rfl rfl rfl eA wA wA ?_;refine ju hg.ok [(kQ,.b9 192 [] []),(fg,.b9 193 [] []),(vK,.b9 194 [] [])] [(kQ,.b9 192 [] []),(fg,.b9 193 [] []),(vK,.b9 194 [] []),(yL,.b9 195 [] [])] rfl rfl rfl rfl rfl rfl rfl eA wA wA ?_;refine ju hg.ok [(kQ,.b9 192 [] []),(fg,.b9 193 [] []),(vK,.b9 194 [] []),(yL,.b9 195 [] [])] pj rfl rfl rfl rfl rfl rfl rfl eA wA wA (ag ?_);exact aL hg 1 5 aD rfl rfl rfl
theorem adb {s:ByteArray}(h:CG s=true):∃f,dQ pj s=some (.b9 f [] [])/\Uv f s:=by
 rcases ON h with rfl|rfl|rfl|rfl|rfl
 exact⟨_,rfl,Zb⟩;exact⟨_,rfl,Zc⟩;exact⟨_,rfl,Zd⟩;exact⟨_,rfl,Ze⟩;exact⟨_,rfl,Zf⟩
theorem ade {s:ByteArray}(h:CG s=false):dQ pj s=none:=by obtain⟨h1,h2,h3,h4,h5⟩:=CK h;simp only[pj,dQ];rw[if_neg (Ne.symm h1),if_neg (Ne.symm h2),if_neg (Ne.symm h3),if_neg (Ne.symm h4),if_neg (Ne.symm h5)]
theorem Uw {t:Tm}(h1:¬ t.k=1)(h2:¬ t.k=2)(h3:(t.l.length≠2/\¬ (t.l.length=1/\t.s=fg))\/CG t.s=false):Tm.eD t=(0,5):=by
 obtain⟨k,s,n,l⟩:=t;simp only[Tm.k,Tm.l,Tm.s]at h1 h2 h3;rw[Tm.eD];match l with
 |[]=>exact ac1 h1 h2
 |[x]=>
  simp only[Tm.vL];rw[Sc h1 h2,if_neg];rw[Tm.bn];rcases h3 with h3|h3
  exact λe=>h3.2 ⟨rfl,e⟩
  exact(CK h3).2.1
 |[x,y]=>
  simp only[Tm.vL];rw[Sd h1 h2];rcases h3 with h3|h3
  exact absurd rfl h3.1;rw[h3];rfl
 |x::y::z::r=>exact ac2 h1 h2
theorem adf (Y:YP)(t:Tm):t.Fit->aU Tryz.prog Y 178 [t.av,.mp 0] [.map (eK pj)] (.cP [iV (Tm.eD t).1,iV (Tm.eD t).2]) [.map (eK pj)]:=by
 induction t using Tm.ind with
 |_ t ih=>
 intro hf;have fin:∀{r:Int×Int},Tm.eD t=r->AV.cP [iV r.1,iV r.2]=AV.cP [iV (Tm.eD t).1,iV (Tm.eD t).2]:=λe=>by rw[e]
 refine u0 Tryz.func178 λw S φ hg=>?_
 refine af (λg1=>?_) λg1=>?_
 rw [<-fin (r:=(0,4)) (by rw [Tm.CH,Y6 (by simpa using g1)])];exact lW;refine af (λg2=>?_) λg2=>?_
 rw [<-fin (r:=(t.n,0)) (by rw [Tm.CH,Y7 (by simpa using g1) (by simpa using g2)])];exact lW;have h1:¬ t.k=1:=by simpa using g1
 have h2:¬ t.k=2:=by simpa using g2
 have bad:((t.l.length≠2/\¬ (t.l.length=1/\t.s=fg))\/CG t.s=false)->AV.cP [iV 0,iV 5]=AV.cP [iV (Tm.eD t).1,iV (Tm.eD t).2]:=λh=>fin (r:=(0,5)) (Uw h1 h2 h)
 cases hop:CG t.s with
 |false=>
  refine Gs hg.ok pj rfl rfl rfl rfl rfl rfl rfl (zv:=.nilFunc) da (v:=.cP [.d (.v .nilFunc),bV false]) (by rw[ade hop];rfl) (ag ?_);have hnm:¬ aX t.s ⟨#[45]⟩=true:=λh=>(CK hop).2.1 (Tm.bn.1 h)
  refine iq rfl rfl (λh=>absurd h hnm) (λ_=>?_)<;>refine dJ hg.ok rfl rfl ?_
  refine mM ?_;rw[<-bad (.inr hop)];exact lW
 |true=>
  obtain⟨f,kZ,Xs⟩:=adb hop;refine Gs hg.ok pj rfl rfl rfl rfl rfl rfl rfl (zv:=.nilFunc) da (v:=.cP [.b9 f [] [],bV true]) (by rw[kZ];rfl) (ag ?_);obtain⟨k,s,n,l⟩:=t;simp only[Tm.k,Tm.l,Tm.s]at h1 h2 hop kZ Xs bad ih;match l with
  |[]=>
   refine af (λhm=>?_) λhm=>?_
   refine cQ hg.ok rfl rfl (by simp [Tm.aa,Tm.l]) rfl rfl ?_;refine gg ?_;refine QG ?_;rw[<-bad (.inl ⟨by simp,by simp⟩)];exact lW;refine gg ?_;refine QG ?_;rw[<-bad (.inl ⟨by simp,by simp⟩)];exact lW
  |[x]=>
   refine af (λhm=>?_) λhm=>?_
   have hs:s=fg:=Tm.bn.1 hm;subst hs;have hfx:x.Fit:=hf.sub (by simp[Tm.l]);have hIx:=Tm.tL hfx;have hex:Tm.eD (.mk k fg n [x])=if(Tm.eD x).2≠0 then(0,(Tm.eD x).2)else Bm (AJ fg 0 (Tm.eD x).1):=by simp only[Tm.eD,Tm.vL];rw[Sc h1 h2,if_pos (tM _)]
   refine QH ?_;refine dX hg.ok rfl rfl rfl rfl rfl rfl eA (Tm.ay (l:=[x]) (i:=0) rfl) rfl (ag ?_);refine jk hg.ok hg.cm hg.wide hg.Y [0] (ih x aD hfx) cN rfl rfl rfl rfl rfl rfl rfl rfl (ag ?_);refine af (λh3=>?_) λh3=>?_
   rw [<-fin (r:=(0,(Tm.eD x).2)) ahu];exact lW;rw[if_neg ahv]at hex;refine QG ?_;obtain⟨v,hv1,yr⟩:=Xs 0 (Tm.eD x).1 (by unfold ji;omega) hIx;refine aA (hv1) ?_;refine af (λh4=>?_) λh4=>?_
   rw [<-fin (r:=(0,6)) alr];exact lW;have h4:(AJ fg 0 (Tm.eD x).1).2=true:=by simpa using h4
   rw[<-fin (r:=(v,0)) (by rw[hex];unfold Bm;rw[if_pos h4,yr h4])];exact lW;refine gg ?_;refine QG ?_;rw[<-bad (.inl ⟨by simp,λh=>by have hm':aX s fg=false:=hm;rw[Tm.bn.2 h.2]at hm';cases hm'⟩)];exact lW
  |[x,y]=>
   have hfx:x.Fit:=hf.sub (by simp[Tm.l]);have hfy:y.Fit:=hf.sub (by simp[Tm.l]);have hIx:=Tm.tL hfx;have hIy:=Tm.tL hfy;have hex:Tm.eD (.mk k s n [x,y])=if(Tm.eD x).2≠0 then(0,(Tm.eD x).2)else if(Tm.eD y).2≠0 then(0,(Tm.eD y).2)else Bm (AJ s (Tm.eD x).1 (Tm.eD y).1):=by simp only[Tm.eD,Tm.vL];rw[Sd h1 h2,if_pos hop]
   refine af (λhm=>?_) λhm=>?_
   refine cQ hg.ok rfl rfl (by simp [Tm.aa,Tm.l]) rfl rfl ?_;refine gg ?_;refine QH ?_;refine afd ?_;refine jk hg.ok hg.cm hg.wide hg.Y [0] (ih x aD hfx) cN rfl rfl rfl rfl rfl rfl rfl rfl (ag ?_);refine af (λh3=>?_) λh3=>?_
   rw [<-fin (r:=(0,(Tm.eD x).2)) ahu];exact lW;rw[if_neg ahv]at hex;refine QH ?_;refine afe ?_;refine jk hg.ok hg.cm hg.wide hg.Y [0] (ih y aD hfy) cN rfl rfl rfl rfl rfl rfl rfl rfl (ag ?_);refine af (λh5=>?_) λh5=>?_
   rw [<-fin (r:=(0,(Tm.eD y).2)) (by rw [hex,if_pos Q5])];exact lW;rw[if_neg Q5]at hex;exact alF;refine gg ?_;refine QH ?_;refine afd ?_;refine jk hg.ok hg.cm hg.wide hg.Y [0] (ih x aD hfx) cN rfl rfl rfl rfl rfl rfl rfl rfl (ag ?_);refine af (λh3=>?_) λh3=>?_
   rw [<-fin (r:=(0,(Tm.eD x).2)) ahu];exact lW;rw[if_neg ahv]at hex;refine afe ?_;refine jk hg.ok hg.cm hg.wide hg.Y [0] (ih y aD hfy) cN rfl rfl rfl rfl rfl rfl rfl rfl (ag ?_);refine af (λh5=>?_) λh5=>?_
   rw [<-fin (r:=(0,(Tm.eD y).2)) (by rw [hex,if_pos Q5])];exact lW;rw[if_neg Q5]at hex;exact alF
  |x::y::z::r=>
   refine af (λhm=>?_) λhm=>?_
   refine cQ hg.ok rfl rfl (by simp [Tm.aa,Tm.l]; omega) rfl rfl ?_;refine gg ?_;refine cQ hg.ok rfl rfl (by simp[Tm.aa,Tm.l];omega) rfl rfl ?_;rw[<-bad (.inl ⟨by simp,by simp⟩)];exact lW;refine gg ?_;refine cQ hg.ok rfl rfl (by simp[Tm.aa,Tm.l];omega) rfl rfl ?_;rw[<-bad (.inl ⟨by simp,by simp⟩)];exact lW
def pfA:Nat->cI:=λf=>bif Nat.beq f 179 then .bT 0 else .jz
theorem Zh (t:Tm)(hf:t.Fit)(hs:t.size<1000000000)(hn:∀e∈t.gX 1,e.2.s.size<1000000000):br Tryz.prog 169 [t.av] (.cP [iV (bD t).1,iV (bD t).2]):=by
 refine br.ej (pf:=pfA) gK mixed Tryz.func169 rfl da da (by simp[Tryz.ntmps169]) λw S hg=>?_
 refine ag ?_;refine aA (fe t hs hn) ?_;rw[cV];refine af (λh=>?_) λh=>?_
 refine bz ?_;unfold bD;rw[if_neg ln];rfl;refine yM hg.ok hg.cm ⟨rfl,rfl⟩ (λ_ _ _ _ h=>by cases h) [aO t,.map (eK pj)] (Zg ⟨[],λ_=>true⟩) cN rfl rfl rfl rfl rfl rfl (ag ?_);refine jk hg.ok hg.cm ⟨rfl,rfl⟩ (λ_ _ _ _ h=>by cases h) [1] (adf ⟨[],λ_=>true⟩ t hf) cN rfl rfl rfl rfl rfl rfl rfl rfl (ag ?_);refine bz ?_;unfold bD;rw[if_pos ln];rfl
theorem Ly (s:ByteArray)(a b:Int):br Tryz.prog 156 [.d (.v (.string s)),iV a,iV b] (.cP [bV (ER s a b).1,iV (ER s a b).2]):=by
 refine ng Tryz.func156 λw S hg=>?_
 refine af (λh1=>?_) λh1=>?_
 refine bz ?_;unfold ER;rw[if_pos h1];rfl;refine af (λh2=>?_) λh2=>?_
 refine bz ?_;unfold ER;rw[if_neg Et,if_pos h2];rfl;refine af (λh3=>?_) λh3=>?_
 refine bz ?_;unfold ER;rw[if_neg Et,if_neg Fi,if_pos h3];rfl;refine af (λh4=>?_) λh4=>?_
 refine bz ?_;unfold ER;rw[if_neg Et,if_neg Fi,if_neg (by rw[h3];simp),if_pos h4];rfl;refine af (λh5=>?_) λh5=>?_
 refine bz ?_;unfold ER;rw[if_neg Et,if_neg Fi,if_neg (by rw[h3];simp),if_neg J5,if_pos h5];rfl;refine af (λh6=>?_) λh6=>?_
 refine bz ?_;unfold ER;rw[if_neg Et,if_neg Fi,if_neg (by rw[h3];simp),if_neg J5,if_neg (by rw[h5];simp),if_pos h6];rfl;refine bz ?_;unfold ER;rw[if_neg Et,if_neg Fi,if_neg (by rw[h3];simp),if_neg J5,if_neg (by rw[h5];simp),if_neg (by rw[h6];simp)];rfl
end Go.Proofs.YtmjmngigbachdaaGreatDoor

namespace ax
open Go
abbrev Bs:=List UInt8
def Tx (l:Bs):ByteArray:=⟨l.toArray⟩
theorem Ib (s:ByteArray):Tx s.data.toList=s:=by simp[Tx]
theorem j0 (l:Bs):(Tx l).size=l.length:=by simp[Tx,ByteArray.size]
theorem OO (a b:Bs):Tx a++Tx b=Tx (a++b):=by
 apply ByteArray.ext;show(Tx a++Tx b).data=_
 rw[ByteArray.data_append];simp[Tx]
theorem AR (l:Bs):(Tx l).toList=l:=by rw[Tm.toList_data];simp[Tx]
theorem Zi {a b:Bs}(h:Tx a=Tx b):a=b:=by rw[<-AR a,h,AR]
theorem CL (a b:Bs):aX (Tx a) (Tx b)=(a==b):=by unfold aX;rw[AR,AR]
def dgC (c:UInt8):Bool:=decide (48<=c.toNat)&&decide (c.toNat<=57)
def OP (c:UInt8):Bool:=decide (97<=c.toNat)&&decide (c.toNat<=122)
def ano (c:UInt8):Bool:=(decide (65<=c.toNat)&&decide (c.toNat<=90))||decide (c.toNat=95)
def Ux (c:UInt8):Bool:=dgC c||OP c||ano c
theorem Zj {p:UInt8->Bool}(h:(List.range 256).all (λn=>p (UInt8.ofNat n))=true)(c:UInt8):p c=true:=by have h1:=fB.1 h c.toNat (by simp;exact c.toNat_lt);simpa using h1
structure Tk where
 kind:Int
 text:Bs
 n:Int
 at_:Int
 opn:Bool
 deriving DecidableEq
def quo:Bs->Option (Bs×Nat)|[]=>none|[c]=>if c.toNat=39 then some ([],1)else none|c::d::r=>if c.toNat<32\/126<c.toNat then none else if c.toNat=39 then(if d.toNat=39 then(quo r).map λx=>(39::x.1,x.2+2)else some ([],1))else(quo (d::r)).map λx=>(c::x.1,x.2+1)
end ax

namespace ax
open Go
variable{k:Nat}{L:Bs}
def sgW:Bs:=[43,45,42,47,92,94,60,62,61,126,58,63,64,35,38,36]
def OQ (c:UInt8):Bool:=sgW.contains c
def qj:Bs->Bool|[]=>false|c::r=>OP c&&r.all Ux
def Lz (l:Bs):Bool:=!l.isEmpty&&l.all OQ
def q5 (l:Bs):Bs:=l.flatMap λc=>if c=39 then [39,39]else [c]
def sJ (l:Bs):Bool:=qj l||Lz l||l==[33]||l==[59]||l==[91,93]
def qk (l:Bs):Bs:=if sJ l then l else 39::(q5 l++[39])
def kA (bs s:Bs):Bs:=if bs.length<=8000 then bs++s else bs
theorem LA(l:Bs):qk l≠[]:=by unfold qk;split;rename_i h;intro e;subst e;simp[sJ,qj,Lz]at h;simp
theorem LB(l:Bs):(q5 l).length<=2*l.length:=by
 induction l with
 |nil=>simp[q5]
 |cons c r ih=>simp only[q5,List.flatMap_cons,List.length_append,dx]at ih ⊢;split<;>simp only[dx,mu]<;>omega
theorem Uy(l:Bs):(qk l).length<=2*l.length+2:=by have:=LB l;unfold qk;split;omega;simp only[dx,List.length_append,mu];omega
theorem adg{bs s:Bs}(h:s≠[]):kA bs s≠[]:=by unfold kA;split;simp[h];rename_i hl;intro e;rw[e]at hl;simp at hl
theorem LC(c:UInt8):OP c=true↔97<=c.toNat/\c.toNat<=122:=by simp[OP]
theorem LD(c:UInt8):Ux c=true↔(48<=c.toNat/\c.toNat<=57)\/(97<=c.toNat/\c.toNat<=122)\/(65<=c.toNat/\c.toNat<=90)\/c.toNat=95:=by simp only[Ux,dgC,OP,ano,oy,aV,decide_eq_true_eq];omega
def wlB (L:Bs)(k:Nat):Bool:=if k=0 then qj L else(L.drop k).all Ux
theorem anp{c:UInt8}(hc:L[k]? = some c)(h:qj L=wlB L k)(h0:k=0->¬ (97<=c.toNat/\c.toNat<=122))(h1:k≠0->¬ ((48<=c.toNat/\c.toNat<=57)\/(97<=c.toNat/\c.toNat<=122)\/(65<=c.toNat/\c.toNat<=90)\/c.toNat=95)):qj L=false:=by
 have hl:=(fu.1 hc).1;have vj:=(fu.1 hc).2;by_cases hk:k=0;subst hk;cases L with
 |nil=>simp at hl
 |cons d r=>
  simp only[List.getElem_cons_zero]at vj;subst vj;have:OP d=false:=by cases hd:OP d;rfl;exact absurd ((LC d).1 hd) (h0 rfl)
  simp[qj,this]
 rw [h,wlB,if_neg hk,List.drop_eq_getElem_cons hl,pK,vj];have:Ux c=false:=by cases hd:Ux c;rfl;exact absurd ((LD c).1 hd) (h1 hk)
 rw[this,rA]
theorem adi{c:UInt8}(hc:L[k]? = some c)(h:qj L=wlB L k)(h0:k=0->97<=c.toNat/\c.toNat<=122)(h1:k≠0->(48<=c.toNat/\c.toNat<=57)\/(97<=c.toNat/\c.toNat<=122)\/(65<=c.toNat/\c.toNat<=90)\/c.toNat=95):qj L=wlB L (k+1):=by
 have hl:=(fu.1 hc).1;have vj:=(fu.1 hc).2;rw[wlB,if_neg aq];by_cases hk:k=0;subst hk;cases L with
 |nil=>simp at hl
 |cons d r=>simp only[List.getElem_cons_zero]at vj;subst vj;simp[qj,(LC d).2 (h0 rfl)]
 rw[h,wlB,if_neg hk,List.drop_eq_getElem_cons hl,pK,vj,(LD c).2 (h1 hk),iu]
theorem aiS(hk:L.length<=k)(h:qj L=wlB L k):qj L = !(L==[]):=by
 cases L with
 |nil=>rfl
 |cons c r=>rw[h,wlB,if_neg (by simp at hk;omega),cX hk];rfl
end ax

namespace ax
open Go
variable{t:Tm}
def xv (k:Int)(s:ByteArray)(l:List Tm):Bool:=decide (k=3)&&(s.data.toList==[46])&&decide (l.length=2)
def CM (k:Int)(s:ByteArray)(l:List Tm):Bool:=decide (k=3)&&(s.data.toList==[91,93])&&l.isEmpty
def CN (k:Int)(s:ByteArray)(n:Int)(e:Bool)(dW:List Bs):List Bs :=if k=1 then [95::Lib.itoa n]else if k=2 then [Lib.itoa n]else qk s.data.toList::(dW++if e then []else [[41]])
mutual
def u3:Tm->List Bs| .mk k s n l=>if xv k s l then [91]::AU l else CN k s n l.isEmpty (lV true l)
def sK:Tm->List Bs| .mk k s n l=>if xv k s l then [44]::AU l else if CM k s l then [[93]]else [124]::(CN k s n l.isEmpty (lV true l)++[[93]])
def AU:List Tm->List Bs|[]=>[]|a::r=>u3 a++CO r
def CO:List Tm->List Bs|[]=>[]|b::_=>sK b
def lV:Bool->List Tm->List Bs|_,[]=>[]|f,x::r=>(if f then [40]else [44])::(u3 x++lV false r)
end
def fJ (bs:Bs)(l:List Bs):Bs:=l.foldl kA bs
theorem lD(bs:Bs)(a b:List Bs):fJ bs (a++b)=fJ (fJ bs a) b:=by simp[fJ]
theorem ei(bs:Bs)(x:Bs)(r:List Bs):fJ bs (x::r)=fJ (kA bs x) r:=rfl
theorem lE(bs:Bs):fJ bs []=bs:=rfl
def jf (t:Tm):Bool:=xv t.k t.s t.l
theorem LF{t a b:Tm}(h:jf t=true)(hl:t.l=[a,b]):u3 t=[91]::(u3 a++sK b):=by
 cases t with
 |mk k s n l=>simp only[Tm.l]at hl;subst hl;simp only[jf,Tm.k,Tm.s,Tm.l]at h;simp only[u3,h,if_true,AU,CO]
theorem OS{t a b:Tm}(h:jf t=true)(hl:t.l=[a,b]):sK t=[44]::(u3 a++sK b):=by
 cases t with
 |mk k s n l=>simp only[Tm.l]at hl;subst hl;simp only[jf,Tm.k,Tm.s,Tm.l]at h;simp only[sK,h,if_true,AU,CO]
theorem Uz(h:jf t=false)(hn:CM t.k t.s t.l=true):sK t=[[93]]:=by
 cases t with
 |mk k s n l=>simp only[jf,Tm.k,Tm.s,Tm.l]at h hn;simp only[sK,h,hn,lq,if_false,if_true]
theorem sL(h:jf t=false):u3 t=CN t.k t.s t.n t.l.isEmpty (lV true t.l):=by
 cases t with
 |mk k s n l=>simp only[jf,Tm.k,Tm.s,Tm.l]at h;simp only[u3,h,lq,if_false,Tm.k,Tm.s,Tm.l,Tm.n]
theorem vN(h:jf t=false)(hn:CM t.k t.s t.l=false):sK t=[124]::(u3 t++[[93]]):=by
 rw[sL h];cases t with
 |mk k s n l=>simp only[jf,Tm.k,Tm.s,Tm.l]at h hn;simp only[sK,h,hn,lq,if_false,Tm.k,Tm.s,Tm.l,Tm.n]
theorem Ic(h:jf t=true):∃a b,t.l=[a,b]:=by
 simp only[jf,xv,aV,decide_eq_true_eq]at h;match hl:t.l,h.2 with
 |[a,b],_=>exact⟨a,b,rfl⟩
theorem OT{l:List Tm}{k:Nat}{x:Tm}(bs:Bs)(f:Bool)(h:l[k]? = some x):lV f (l.drop k)=(if f then [40]else [44])::(u3 x++lV false (l.drop (k+1))):=by have hl:=(fu.1 h).1;rw[List.drop_eq_getElem_cons hl,(fu.1 h).2,lV]
inductive LG:Tm->Prop
 |mk {t:Tm} (ha:∀c∈t.s.data.toList,c.toNat<128) (hl:t.s.data.toList.length<=1000) (h0:-9223372036854775808<=t.n) (h1:t.n<=9223372036854775807) (hn:t.l.length<=1000000) (hs:∀x∈t.l,LG x):LG t
theorem LH(n:Int)(h0:-9223372036854775808<=n)(h1:n<=9223372036854775807):(Lib.itoa n).length<=1000/\Lib.itoa n≠[]:=by
 have hd:∀(k u:Nat),u<10 ^ (k+1)->(Lib.decDigits u).length<=k+1:=by
  intro k;induction k with
  |zero=>intro u hu;rw[Lib.decDigits,dif_pos aq];simp
  |succ k ih=>intro u hu;rw[Lib.decDigits];split;simp;have:=ih (u / 10) (by rw [Nat.pow_succ]at hu; omega);simp only[List.length_append,dx,mu];omega
 have dR:∀u,Lib.decDigits u≠[]:=by intro u;rw[Lib.decDigits];split<;>simp
 unfold Lib.itoa;split;have:=hd 19 n.natAbs aq;exact⟨by simp only[dx];omega,by simp⟩;have:=hd 19 n.toNat aq;exact⟨by omega,dR _⟩
end ax

namespace ax
open Go Go.RowKit Go.MapKept
variable{gd:Option (Nat×Bool)}{after:Array Edge}{dst:Option Nat}{az:List Oper}{objs:List Ob}{z:List Value}{pos:String}{k:List It}{x:Operand}{ty T:Nat}{E:bq}{w:World}{a b:Int}
def ES (p:Int×Int):Value:=.agg #[.int .i64 p.1,.int .i64 p.2]
def oD (l:List ((Int×Int)×AV)):List (Value×AV):=l.map λe=>(ES e.1,e.2)
def Am:List ((Int×Int)×AV)->Int×Int->Option AV|[],_=>none|e::r,p=>if e.1=p then some e.2 else Am r p
structure UA (P:Program) (kt:TypeId):Prop where
 und:∃n e,P.underlying kt=some (.array n e)
 eq:∀p q w,(Op.equal kt (ES p) (ES q)).run P w=.ok (decide (p=q)) w
 ck:∀b p w,(Instr.checkKey b 10000 kt (ES p)).run P w=.ok () w
theorem CP{P:Program}{kt:TypeId}(hk:UA P kt){S:Nat->Prop}{w:World}{φ:List bI}(p:Int×Int):∀{l:List ((Int×Int)×AV)} {ents:List MapEntry} {i:Nat},nC S w φ (oD l) ents ->
  match Am l p with
  |none=>(Instr.findAsking kt (ES p) ents i).run P w=.ok none w
  |some x=>∃j v,(Instr.findAsking kt (ES p) ents i).run P w=.ok (some (j,v)) w/\RV S w φ x v
 |[],ents,i,h=>by
  cases ents with
  |nil=>simp[Am,Instr.findAsking]
  |cons _ _=>have:=h.1;simp[oD]at this
 |e::l,ents,i,h=>by
  cases ents with
  |nil=>have:=h.1;simp[oD]at this
  |cons f ents=>
   obtain⟨h1,h2⟩:=h;simp only[oD,bM,List.cons.injEq]at h1;obtain⟨hf,h1⟩:=h1;simp only[oD,bM,aW]at h2;simp only[Am];by_cases he:e.1=p;rw [if_pos he];refine⟨i,f.val,?_,h2.1⟩;simp only[Instr.findAsking,Sem.run_bind,<-hf,hk.eq,Result.andThen_ok];simp[he];rw [if_neg he];have hd:decide (p=e.1)=false:=decide_eq_false λh=>he h.symm
   have:=CP hk p (l:=l) (ents:=ents) (i:=i+1) ⟨by simpa[oD]using h1,by simpa[oD]using h2.2⟩;have eX:(Instr.findAsking kt (ES p) (f::ents) i).run P w=(Instr.findAsking kt (ES p) ents (i+1)).run P w:=by simp only[Instr.findAsking,Sem.run_bind,<-hf,hk.eq,Result.andThen_ok,hd];simp
   simp_all
theorem xw{P:Program}{kt:TypeId}(hk:UA P kt)(p:Int×Int){ents:List MapEntry}(h:ents=[]\/∃q,∃f r,ents=f::r/\f.key=ES q):(Instr.findKey kt (ES p) ents).run P w=(Instr.findAsking kt (ES p) ents 0).run P w:=by
 obtain⟨n,e,hu⟩:=hk.und;rcases h with rfl|⟨q,f,r,rfl,hf⟩
 simp[Instr.findKey,run_underlying hu,Instr.findNow,Instr.findAsking];simp[Instr.findKey,run_underlying hu,Instr.findNow,Instr.sameNow,ES]
theorem CQ{S:Nat->Prop}{φ:List bI}{l:List ((Int×Int)×AV)}{ents:List MapEntry}(h:nC S w φ (oD l) ents):ents=[]\/∃q,∃f r,ents=f::r/\f.key=ES q:=by
 cases ents with
 |nil=>exact .inl rfl
 |cons f r=>
  cases l with
  |nil=>have:=h.1;simp[oD]at this
  |cons e l=>have:=h.1;simp only[oD,bM,List.cons.injEq]at this;grind
section
variable {g:G} {pf:Nat->cI} {ad:Array Oper} {Fin:Exit->Act->World->Prop}
theorem agw{S:Nat->Prop}{φ:List bI}{v:Value}(h:RV S w φ (.agg [iV a,iV b]) v):v=ES (a,b):=by
 simp only[RV]at h;obtain⟨cs,rfl,h⟩:=h;match cs,h with
 |[x,y],h=>simp only[aW,iV,RV,and_true]at h;obtain⟨h1,h2⟩:=h;cases h1;cases h2;rfl
 |[],h=>simp[aW]at h
 |[_],h=>simp[aW]at h
 |_::_::_::_,h=>simp[aW]at h
theorem Fe(hg:di g){x y:Operand}{ok:Bool}
  {i q cq kt et:Nat}   {zv:Value} (l:List ((Int×Int)×AV)) (hk:UA g.P kt)
  (bt:aH ad.toList E gd=some true) (hd:aQ ⟨g.ty,g.N⟩ dst=true) (hx:ev E x=.mp i) (ho:dq objs i=some (.map (oD l))) (hy:ev E y=.agg [iV a,iV b]) (hT:g.ty T=some ⟨q,cq,z,.map kt et⟩)
  (hz:(g.P.info? et).bind (·.zero)=some zv) {v:AV} (hv:jG ok (lZ zv) (Am l (a,b))=v)
  (hr:R g pf Fin (.dr ad az::k) (bh E dst v) objs):R g pf Fin (.dr ad (⟨dst,.lookup T x y ok,ty,pos,after,gd⟩::az)::k) E objs:=by
 subst hv;refine cU (aK.fW hg 1 bt hd aD λφ a' w bW hgr hρ hs=>?_) hr;simp only[Op.operands]at hρ;have aP:=hρ x aD;rw[hx]at aP;have eC:=hρ y aD;rw[hy]at eC;have o6:=agw eC;simp only[RV]at aP;obtain⟨b',hb,aP⟩:=aP;have ho:dq bW i=some (.map (oD l)):=by rw[bE]at ho ⊢;exact Gr.same hgr ho u6 Bl
 have sA:=cO hs hb ho;simp only[bj]at sA;obtain⟨ents,jr,bg,dH⟩:=sA;have lf:g.P.underlying T=some (.map kt et):=by have:=(hg.ty _ _ hT).sh;simpa only[bH]using this
 have hzero:(zeroValue et).run g.P w=.ok zv w:=by exact Xu
 have hzR:RV (SS g.S0 φ) w φ (lZ zv) zv:=ix (l:=[]) (E:=[]) (E₁:=[]) (a:={tmps:=#[],defers:=[]}) aD (λt=>by simp[lk,RV]) (.const zv);have c0:=CP hk (a,b) (i:=0) dH;have V5:=xw hk (w:=w) (a,b) (CQ dH);cases yg:Am l (a,b)with
 |none=>rw[yg]at c0;simp only at c0;refine aZ hs (vv:=if ok then .tuple #[zv,.bool false]else zv) ?_ ?_;simp[execOp,Instr.lookup,run_underlying lf,aP,run_getObj_map bg,o6,hk.ck,V5,c0,hzero];simp only [jG];cases ok;simpa using hzR;simp only [if_true,RV];exact Xt
 |some x=>rw[yg]at c0;simp only at c0;obtain⟨j,vv,h1,h2⟩:=c0;refine aZ hs (vv:=if ok then .tuple #[vv,.bool true]else vv) ?_ ?_;simp[execOp,Instr.lookup,run_underlying lf,aP,run_getObj_map bg,o6,hk.ck,V5,h1];simp only [jG];cases ok;simpa using h2;simp only [if_true,RV];exact Xv
theorem UB(hg:di g){x y v:Operand}
  {i q cq kt et:Nat}   (l:List ((Int×Int)×AV)) (hk:UA g.P kt)
  (bt:aH ad.toList E gd=some true) (hd:aQ ⟨g.ty,g.N⟩ dst=true) (hx:ev E x=.mp i) (ho:dq objs i=some (.map (oD l))) (hy:ev E y=.agg [iV a,iV b]) (hT:g.ty T=some ⟨q,cq,z,.map kt et⟩)
  (hf:Am l (a,b)=none)
  (hr:R g pf Fin (.dr ad az::k) (bh E dst .any) (dj objs i (.map (oD (l++[((a,b),ev E v)]))))):R g pf Fin (.dr ad (⟨dst,.mapUpdate T x y v,ty,pos,after,gd⟩::az)::k) E objs:=by
 refine cU (aK.eU hg (pW ho) bt hd aD λφ a' w hρ hs=>?_) hr;simp only[Op.operands]at hρ;have aP:=hρ x aD;rw[hx]at aP;have eC:=hρ y aD;rw[hy]at eC;have o6:=agw eC;have hvv:=hρ v aD;simp only[RV]at aP;obtain⟨b',hb,aP⟩:=aP;have sA:=cO hs hb ho;simp only[bj]at sA;obtain⟨ents,jr,bg,dH⟩:=sA;have lf:g.P.underlying T=some (.map kt et):=by have:=(hg.ty _ _ hT).sh;simpa only[bH]using this
 have c0:=CP hk (a,b) (i:=0) dH;have V5:=xw hk (w:=w) (a,b) (CQ dH);rw[hf]at c0;simp only at c0;have lr:=heap_set (o':=.map (ents.push {key:=ES (a,b),val:=a'.eval v,born:=jr}) (jr+1)) bg;rw[bx];refine⟨.skip,undef,{w with heap:=w.heap.setIfInBounds b' (.map (ents.push {key:=ES (a,b),val:=a'.eval v,born:=jr}) (jr+1))},φ.set i (.jK b'),?_,.inr ⟨rfl,rfl⟩,by simp[RV],?_⟩;simp[execOp,Instr.mapUpdate,run_underlying lf,aP,run_getObj_map bg,o6,hk.ck,V5,c0,run_setObj_map _ bg];refine j8.swap hs hb (.inl rfl) aD (λc _ hc=>lr.2 c λe=>hc Hj) (λb' hb=>.inl hb) rfl rfl rfl λbF hle=>?_
 simp only[bj];refine⟨_,_,lr.1,?_,?_⟩;have:=dH.1;simp only[oD,eR,kn,bM,fm,Kg]at this ⊢;rw[this];have:=(dH.2.mono bF hle).append (l':=[ev E v]) (vs':=[a'.eval v]) Ts;simpa[oD]using this
theorem Gt(hg:di g){x y v:Operand}
  {i q cq q' pA kt et:Nat} {z z':List Value} {n:Int} (v':AV) (l l':List (Int×AV))
  (bt:aH ad.toList E gd=some true) (hd:aQ ⟨g.ty,g.N⟩ dst=true) (hx:ev E x=.mp i) (ho:dq objs i=some (.map (ct l))) (hy:ev E y=.d (.v (.int .i64 n))) (hT:g.ty T=some ⟨q,cq,z,.map kt et⟩)
  (o7:g.ty kt=some ⟨q',pA,z',.int .i64⟩) (hf:iT l n=none) (hv:bJ (ev E v) v') (hl:l++[(n,v')]=l')
  (hr:R g pf Fin (.dr ad az::k) (bh E dst .any) (dj objs i (.map (ct l')))):R g pf Fin (.dr ad (⟨dst,.mapUpdate T x y v,ty,pos,after,gd⟩::az)::k) E objs:=by
 subst hl;have hu:=(hg.ty _ _ o7).sh;simp only[bH]at hu;obtain⟨r,h1,h2⟩:=nO (k':=.i64) (n:=n) (l:=l) (i:=0);have:r=none:=by simp_all
 subst this;refine cU (aK.eU hg (pW ho) bt hd aD λφ a w hρ hs=>?_) hr;simp only[Op.operands]at hρ;have aP:=hρ x aD;rw[hx]at aP;have eC:=hρ y aD;rw[hy]at eC;have hvv:=hv _ _ _ _ (hρ v aD);simp only[RV]at aP eC;obtain⟨b,hb,aP⟩:=aP;generalize o6:a.eval y=vy at eC;cases eC;have hk:=cO hs hb ho;simp only[bj]at hk;obtain⟨ents,jr,bg,dH⟩:=hk;have lf:g.P.underlying T=some (.map kt et):=by have:=(hg.ty _ _ hT).sh;simpa only[bH]using this
 have c0:=kI dH h1;simp only at c0;have lr:=heap_set (o':=.map (ents.push {key:=.int .i64 n,val:=a.eval v,born:=jr}) (jr+1)) bg;rw[bx];refine⟨.skip,undef,{w with heap:=w.heap.setIfInBounds b (.map (ents.push {key:=.int .i64 n,val:=a.eval v,born:=jr}) (jr+1))},φ.set i (.jK b),?_,.inr ⟨rfl,rfl⟩,by simp[RV],?_⟩;simp[execOp,Instr.mapUpdate,run_underlying lf,aP,run_getObj_map bg,o6,run_checkKey hu (show IsKey (.int .i64) (.int .i64 n) by simp[IsKey]),run_findKey hu c0,run_setObj_map _ bg];refine j8.swap hs hb (.inl rfl) aD (λc _ hc=>lr.2 c λe=>hc Hj) (λb' hb=>.inl hb) rfl rfl rfl λbF hle=>?_
 simp only[bj];refine⟨_,_,lr.1,?_,?_⟩;have:=dH.1;simp only[ct,eR,kn,bM,fm,Kg]at this ⊢;rw[this];have:=(dH.2.mono bF hle).append (l':=[v']) (vs':=[a.eval v]) Ts;simpa[ct]using this
open Classical in
theorem Wg(hg:di g)(v:AV)
  (bt:aH ad.toList E gd=some true) (hd:aQ ⟨g.ty,g.N⟩ dst=true) (h:cS g.ty (λy=>if y=x then ev E x else .any) (.buildSlice T 1 #[(0,x)])=some v)
  (hr:R g pf Fin (.dr ad az::k) (bh E dst v) objs):R g pf Fin (.dr ad (⟨dst,.buildSlice T 1 #[(0,x)],ty,pos,after,gd⟩::az)::k) E objs:=by
 refine cU (aK.up (aK.quiet hg bt hd aD λφ o₁ a w hρ hs=>?_)) hr;simp only[Op.operands]at hρ;have aP:=hρ x aD;refine ke (ρA:=λy=>if y=x then ev E x else .any) hg.ty hs (λy=>?_) ?_;split;simp_all;simp[RV];simp only[dk,h]
theorem NA{ty:Nat->Option Ty}{T e sz cq:Nat}{τ:Ty}{v:AV}{aa:List (List D)}(hT:ty T=some ⟨sz,cq,z,.slice e⟩)(he:ty e=some τ)(hr:kY [(0,v)] 0 τ.size=some aa)(hl:aa.length=1)(hb:τ.size<=1000):(open Classical in cS ty (λy=>if y=x then v else .any) (.buildSlice T 1 #[(0,x)]))=some (.fs aa):=by
 have h1:Nat.beq (len aa) 1=true:=by rw[bp,hl];rfl
 have h2:Nat.ble τ.size 100000=true:=Xh aq;have h3:Nat.ble 1 100000=true:=rfl;simp[cS,hT,he,hr,h1,h2,h3]
theorem NF(hg:di g){x y v:Operand}
  {i q cq kt et:Nat}   {v':AV} (l l':List ((Int×Int)×AV)) (hk:UA g.P kt)
  (bt:aH ad.toList E gd=some true) (hd:aQ ⟨g.ty,g.N⟩ dst=true) (hx:ev E x=.mp i) (ho:dq objs i=some (.map (oD l))) (hy:ev E y=.agg [iV a,iV b]) (hT:g.ty T=some ⟨q,cq,z,.map kt et⟩)
  (hf:Am l (a,b)=none) (hv:ev E v=v') (hl:l++[((a,b),v')]=l')
  (hr:R g pf Fin (.dr ad az::k) (bh E dst .any) (dj objs i (.map (oD l')))):R g pf Fin (.dr ad (⟨dst,.mapUpdate T x y v,ty,pos,after,gd⟩::az)::k) E objs:=by
 subst hl;subst hv;exact UB hg l hk bt hd hx ho hy hT hf hr
end
end ax

namespace ax
open Go Go.RowKit
section
variable {g:G} {pf:Nat->cI} {ad:Array Oper} {Fin:Exit->Act->World->Prop}
theorem QD (hg:di g){dst:Option Nat}{T T':Nat}{x:Operand}{ty:Nat}{pos:String}{after:Array Edge}{gd:Option (Nat×Bool)}{az:List Oper}{k:List It}{E:bq}{objs:List Ob}{i off:Nat}{e:TypeId}
  (hu:g.P.underlying T=some (.pointer e)) (bt:aH ad.toList E gd=some true) (hd:aQ ⟨g.ty,g.N⟩ dst=true) (hx:ev E x=.lo i off)
  (hr:R g pf Fin (.dr ad az::k) (bh E dst (.d (.v (.bool false)))) objs):R g pf Fin (.dr ad (⟨dst,.binOp .eql T x (.const (.pointer none)) T',ty,pos,after,gd⟩::az)::k) E objs:=by
 refine cU (aK.up (aK.quiet hg bt hd aD λφ objs w' w hρ fk=>?_)) hr;simp only[Op.operands]at hρ;have aP:=hρ x aD;rw[hx]at aP;simp only[RV]at aP;obtain⟨b,_,k9⟩:=aP;refine aZ fk (vv:=.bool false) ?_ ym;have h1:∀d,(Op.equalIn (d+1) T (.pointer (some ⟨b,off,none⟩)) (.pointer none)).run g.P w=.ok false w:=λd=>by simp[Op.equalIn,run_underlying hu]
 have h2:(Op.equal T (.pointer (some ⟨b,off,none⟩)) (.pointer none)).run g.P w=.ok false w:=h1 9999;have h3:(eqGuard .eql T x (.const (.pointer none)) (.pointer (some ⟨b,off,none⟩)) (.pointer none)).run g.P w=.ok () w:=by simp[eqGuard]
 have h4:w'.eval (.const (.pointer none))=.pointer none:=rfl;simp only[execOp,Sem.run_bind,k9,h4,h3,Result.andThen_ok,binOp,h2,Sem.run_pure]
end
end ax

namespace ax
open Go Go.RowKit Go.MapKept
theorem yN {α β:Type}(f:α->β):∀(l:List α) (i:Nat),(l.eraseIdx i).map f=(l.map f).eraseIdx i|[],_=>rfl|_::_,0=>rfl|a::l,i+1=>by simp only[List.eraseIdx_cons_succ,bM,yN f l i]
theorem LI {k':IntKind}{n:Int}{v:AV}{l2:List (Int×AV)}:∀{l1:List (Int×AV)} {i:Nat},(∀p∈l1,p.1≠n)->l7 (.int k') (.int .i64 n) (ct (l1++(n,v)::l2)) i=some (some (i+l1.length,v))
 |[],i,_=>by simp[ct,l7,Instr.sameNow]
 |p::l1,i,h=>by
  have h1:(n==p.1)=false:=by have:=h p aD;simp;exact λe=>this e.symm
  have:=LI (k':=k') (n:=n) (v:=v) (l2:=l2) (l1:=l1) (i:=i+1) λq hq=>h q Fk
  simp only[jo,ct,bM,l7,Instr.sameNow,if_true,h1]at this ⊢;rw[this];simp only[dx,Option.some.injEq,Prod.mk.injEq,and_true];omega
theorem Si {S:Nat->Prop}{w:World}{φ:List bI}{x:AV}{l2:List AV}:∀{l1:List AV} {vs:List Value},aW S w φ (l1++x::l2) vs->aW S w φ (l1++l2) (vs.eraseIdx l1.length)|[],[],h=>by simp[aW]at h|[],v::vs,h=>by simp only[yp,aW]at h;simpa using h.2|a::l1,[],h=>by simp[aW]at h|a::l1,v::vs,h=>by simp only[jo,aW,dx,List.eraseIdx_cons_succ]at h ⊢;exact⟨h.1,Si h.2⟩
section
variable {g:G} {pf:Nat->cI} {ad:Array Oper} {Fin:Exit->Act->World->Prop}
theorem UC (hg:di g){dst:Option Nat}{T T':Nat}{x y:Operand}{ty:Nat}{pos:String}{after:Array Edge}{gd:Option (Nat×Bool)}{az:List Oper}{k:List It}{E:bq}{objs:List Ob}
  {i q cq q' pA kt et:Nat} {z z':List Value} {n:Int} {v:AV} {l:List (Int×AV)} (l1 l2 l':List (Int×AV))
  (bt:aH ad.toList E gd=some true) (hd:aQ ⟨g.ty,g.N⟩ dst=true) (hx:ev E x=.mp i) (ho:dq objs i=some (.map (ct l))) (hy:ev E y=.d (.v (.int .i64 n))) (hT:g.ty T=some ⟨q,cq,z,.map kt et⟩)
  (o7:g.ty kt=some ⟨q',pA,z',.int .i64⟩) (hl:l=l1++(n,v)::l2) (hn:∀p∈l1,p.1≠n) (hl':l1++l2=l')
  (hr:R g pf Fin (.dr ad az::k) (bh E dst .any) (dj objs i (.map (ct l')))):R g pf Fin (.dr ad (⟨dst,.call {callee:=.builtin .delete,args:=#[x,y],argTypes:=#[T,T']},ty,pos,after,gd⟩::az)::k) E objs:=by
 subst hl';subst hl;have hu:=(hg.ty _ _ o7).sh;simp only[bH]at hu;refine cU (aK.effect hg bt hd aD λφ a w hρ hs=>?_) hr;simp only[Op.operands,Call.operands]at hρ;have aP:=hρ x aD;rw[hx]at aP;have eC:=hρ y aD;rw[hy]at eC;simp only[RV]at aP eC;obtain⟨b,hb,aP⟩:=aP;generalize o6:a.eval y=vy at eC;cases eC;have hk:=cO hs hb ho;simp only[bj]at hk;obtain⟨ents,jr,bg,dH⟩:=hk;have lf:g.P.underlying T=some (.map kt et):=by have:=(hg.ty _ _ hT).sh;simpa only[bH]using this
 obtain⟨v0,c0,_,_,_,_⟩:=kI dH (LI (k':=.i64) (n:=n) (v:=v) (l2:=l2) (i:=0) hn);rw[zj]at c0;have a8:ents.toList.length=l1.length+(l2.length+1):=by have:=congrArg List.length dH.1;simpa[ct]using this.symm
 have eV:(ents.eraseIdxIfInBounds l1.length).toList=ents.toList.eraseIdx l1.length:=by unfold Array.eraseIdxIfInBounds;rw[dif_pos (by simp at a8;omega)];simp
 have lr:=heap_set (o':=.map (ents.eraseIdxIfInBounds l1.length) jr) bg
 have he:ents.isEmpty=false:=by
  cases hc:ents.isEmpty with
  |false=>rfl
  |true=>
   have:ents.toList.length=0:=by simpa using Array.isEmpty_iff.1 hc
   omega
 have fo:(Builtin.delete_ #[T,T'] ty #[.map (some b),.int .i64 n]).run g.P w=.ok (.tuple #[]) {w with heap:=w.heap.setIfInBounds b (.map (ents.eraseIdxIfInBounds l1.length) jr)}:=by simp[Builtin.delete_,run_underlying lf,run_getObj_map bg,run_checkKey hu (show IsKey (.int .i64) (.int .i64 n) by simp[IsKey]),run_findKey hu c0,run_setObj_map _ bg]
 rw[bx];refine⟨.value (.tuple #[]),.tuple #[],{w with heap:=w.heap.setIfInBounds b (.map (ents.eraseIdxIfInBounds l1.length) jr)},φ.set i (.jK b),?_,.inl rfl,by simp[RV],?_⟩;simp only[execOp,resolve,invoke,builtin,Sem.run_bind,Sem.run_pure,Result.andThen_ok,sr,bM,fm,aP,o6,fo];refine j8.swap hs hb (.inl rfl) aD (λc _ hc=>lr.2 c λe=>hc Hj) (λb' hb=>.inl hb) rfl rfl rfl λbF hle=>?_
 simp only[bj];refine⟨_,_,lr.1,?_,?_⟩;have h1:=dH.1;rw[eV,yN,<-h1];simp[ct,List.eraseIdx_append_of_length_le];have h2:=(dH.2.mono bF hle);rw[eV,yN];have h3:(ct (l1++(n,v)::l2)).map (·.2)=(ct l1).map (·.2)++v::(ct l2).map (·.2):=by simp[ct]
 rw[h3]at h2;have h4:=Si h2;have h5:((ct l1).map (·.2)).length=l1.length:=by simp[ct]
 rw[h5]at h4;simpa[ct]using h4
end
end ax

namespace ax
open Go Go.RowKit
variable{gd:Option (Nat×Bool)}{after:Array Edge}{dst:Option Nat}{az:List Oper}{aa:List (List D)}{objs:List Ob}{pos:String}{z:List Value}{k:List It}{x:Operand}{ty T:Nat}{E:bq}{τ:Ty}
section
variable {g:G} {pf:Nat->cI} {ad:Array Oper} {Fin:Exit->Act->World->Prop}
theorem Zk(hg:di g){lo:Option Operand}
  {i s sz q cq e:Nat}    {h:Int}
  (bt:aH ad.toList E gd=some true) (hd:aQ ⟨g.ty,g.N⟩ dst=true) (dK:Rm pf=.bT 1) (hx:ev E x=.ow i s) (ho:dq objs i=some (.arr sz s aa)) (hl:rR E lo 0=some h) (hT:g.ty T=some ⟨q,cq,z,.slice e⟩) (he:g.ty e=some τ) (hsz:τ.size=sz)
  (h0:0<=h) (h2:h<=aa.length)
  (hr:R g pf Fin (.dr ad az::k) (bh E dst (.vw i s h.toNat)) objs):R g pf Fin (.dr ad (⟨dst,.slice T x lo none none,ty,pos,after,gd⟩::az)::k) E objs:=by
 refine cU ?_ hr;simp only[bQ,dK];refine aK.eU hg (.refl _) bt hd aD λφ a w hρ hs=>?_
 simp only[Op.operands]at hρ;have aP:=hρ x aD;rw[hx]at aP;simp only[RV]at aP;obtain⟨_,ph,fj,aP⟩:=aP;have hk:=cO hs fj ho;cases ph<;>try (simp only[bj]at hk;done)
 rename_i Jy s2 v2 Hp;simp only[bj]at hk;obtain⟨e1,e2,_,hk⟩:=hk;subst e1;subst e2;have hv:=(aP _ _ _ _ rfl).2 rfl;have hτ:=hg.ty _ _ he;have nB:∃(p:Option Addr) (c:Nat),v2=.slice p aa.length c/\aa.length<=c/\(0<aa.length->∃b o,p=some ⟨b,o,none⟩):=by grind
 obtain⟨p,cap,nB,su,hp⟩:=nB;have hb:=nN (P:=g.P) (w:=w) (sl:=true) (a:=a) (len:=aa.length) (cap:=cap) (lo:=lo) (hi:=none) (h:=aa.length) hl rfl (λy hy n he=>by have:=hρ y iS;rw[he]at this;simp only[RV]at this;generalize a.eval y=u at this;cases this;rfl) (λy hy=>by cases hy) h0 h2 aq;refine aZ hs (vv:=.slice (if cap=h.toNat then p else p.map (·.add (h.toNat*τ.size))) (aa.length-h.toNat) (cap-h.toNat)) ?_ ?_;simp only [Option.map_none,zk]at hb;simp[execOp,Instr.sliceAt,Instr.slice,hv,nB,underlying,bX hg hT,hb,run_sizeOf hτ];simp only [RV];refine⟨⟨_,_,_,rfl⟩,_,fj,λsz s x ob h=>?_⟩;cases h;refine⟨eT _,λ_=>⟨_,_,_,_,_,nB,rfl,λfE=>?_⟩⟩;obtain⟨b,o,rfl⟩:=hp aq;exact⟨b,o,rfl,by rw[if_neg aq];simp[fU,hsz]⟩
theorem aiT(hg:di g)
  {id s r sz q cq e:Nat}   {n:Int}
  (bt:aH ad.toList E gd=some true) (hd:aQ ⟨g.ty,g.N⟩ dst=true) (hx:ev E x=.vw id s r) (ho:dq objs id=some (.arr sz s aa)) (hT:g.ty T=some ⟨q,cq,z,.slice e⟩) (hn:(↑(aa.length-r):Int)=n)
  (hr:R g pf Fin (.dr ad az::k) (bh E dst (iV n)) objs) (dK:nF pf #[x]=.load:=by rfl):R g pf Fin (.dr ad (⟨dst,.call {callee:=.builtin .len,args:=#[x],argTypes:=#[T]},ty,pos,after,gd⟩::az)::k) E objs:=by
 subst hn;refine cU ?_ hr;simp only[bQ,dK];refine aK.fW hg 0 bt hd aD λφ a w bW hgr hρ hs=>?_
 simp only[Op.operands,Call.operands]at hρ;have aP:=hρ x aD;rw[hx]at aP;simp only[RV]at aP;obtain⟨_,ph,fj,aP⟩:=aP;have ho:dq bW id=some (.arr sz s aa):=by rw[bE]at ho ⊢;exact Gr.same hgr ho u6 Bl
 have hk:=cO hs fj ho;cases ph<;>try (simp only[bj]at hk;done)
 simp only[bj]at hk;obtain⟨rfl,rfl,a8,hk⟩:=hk;obtain⟨a1,n1,c1,p,c,hv1,hv,_⟩:=(aP _ _ _ _ rfl).2 rfl;have nB:n1=aa.length:=by grind
 subst nB;refine aZ hs (vv:=.int .i64 ↑(aa.length-r)) ?_ JY;have hu:=bX hg hT;simp only[execOp,resolve,Sem.run_bind,Sem.run_pure,Result.andThen_ok,invoke,builtin,sr,bM,fm,hv];simp[qF hu (.inr ⟨⟨_,rfl⟩,_,_,_,rfl,rfl⟩)]
theorem Zl(hg:di g){x i:Operand}
  {id s r sz q cq e:Nat}    {n:Int} (m:Nat)
  (bt:aH ad.toList E gd=some true) (hd:aQ ⟨g.ty,g.N⟩ dst=true) (dK:Fx pf=.load) (hx:ev E x=.vw id s r) (ho:dq objs id=some (.arr sz s aa)) (hi:ev E i=.d (.v (.int .i64 n))) (hT:g.ty T=some ⟨q,cq,z,.slice e⟩) (he:g.ty e=some τ) (hsz:τ.size=sz)
  (h0:0<=n) (fE:r+n.toNat<aa.length) (hm:r+n.toNat=m)
  (hr:R g pf Fin (.dr ad az::k) (bh E dst (.el id s m 0)) objs):R g pf Fin (.dr ad (⟨dst,.indexAddr T x i,ty,pos,after,gd⟩::az)::k) E objs:=by
 subst hm;refine cU ?_ hr;simp only[bQ,dK];refine aK.fW hg 0 bt hd aD λφ a w bW hgr hρ hs=>?_
 simp only[Op.operands]at hρ;have aP:=hρ x aD;rw[hx]at aP;have wQ:=hρ i aD;rw[hi]at wQ;simp only[RV]at wQ;generalize hvi:a.eval i=vi at wQ;cases wQ;simp only[RV]at aP;obtain⟨_,ph,fj,aP⟩:=aP;have ho:dq bW id=some (.arr sz s aa):=by rw[bE]at ho ⊢;exact Gr.same hgr ho u6 Bl
 have hk:=cO hs fj ho;cases ph<;>try (simp only[bj]at hk;done)
 simp only[bj]at hk;obtain⟨rfl,rfl,a8,hk⟩:=hk;obtain⟨a1,n1,c1,p,c,hv1,hv,hp⟩:=(aP _ _ _ _ rfl).2 rfl;rcases hk with ⟨a2,_,rfl,_⟩|⟨b,o,cap,cs,T',h1,rfl,h3,_⟩
 simp at fE;rw[h1]at hv1;cases hv1;obtain⟨b',o',h4,rfl⟩:=hp aq;cases h4;refine aZ hs (vv:=.pointer (some ⟨b,o+(r+n.toNat)*τ.size,none⟩)) ?_ ?_;have fo:(Instr.indexAt T (a.eval x) (a.eval i)).run g.P w=.ok (.pointer (some ⟨b,o+(r+n.toNat)*τ.size,none⟩)) w:=by simp only[Instr.indexAt,hv,hvi,asIntOf,underlying,Sem.run_bind,Sem.run_pure,run_program,Result.andThen_ok,bX hg hT];rw[Sem.run_ite,if_pos ⟨h0,by omega⟩];simp only[Sem.run_bind,run_sizeOf (hg.ty _ _ he),Result.andThen_ok,Sem.run_pure,fU,<-hsz];grind
 simp only[execOp,Sem.run_bind,fo,Result.andThen_ok,Sem.run_pure];simp only [RV];grind
theorem Zm(hg:di g){lo:Option Operand}
  {i s sz q cq e:Nat}    (rows':List (List D)) {h:Int}
  (bt:aH ad.toList E gd=some true) (hd:aQ ⟨g.ty,g.N⟩ dst=true) (dK:Rm pf=.bT 1) (hx:ev E x=.ow i s) (ho:dq objs i=some (.arr sz s aa)) (hl:rR E lo 0=some h) (hT:g.ty T=some ⟨q,cq,z,.slice e⟩) (he:g.ty e=some τ) (hsz:τ.size=sz)
  (h0:0<=h) (h2:h<=aa.length) (eE:aa.drop h.toNat=rows')
  (hr:R g pf Fin (.dr ad az::k) (bh E dst (.ow i (Nat.succ s))) (dj objs i (.arr sz (Nat.succ s) rows'))):R g pf Fin (.dr ad (⟨dst,.slice T x lo none none,ty,pos,after,gd⟩::az)::k) E objs:=by
 subst eE;refine cU ?_ hr;simp only[bQ,dK];refine aK.eU hg (BQ ho) bt hd aD λφ a w hρ hs=>?_
 simp only[Op.operands]at hρ;have aP:=hρ x aD;rw[hx]at aP;simp only[RV]at aP;obtain⟨_,ph,fj,aP⟩:=aP;have hk:=cO hs fj ho;cases ph<;>try (simp only[bj]at hk;done)
 rename_i Jy s2 v2 Hp;simp only[bj]at hk;obtain⟨e1,e2,mF,Nq⟩:=hk;subst e1;subst e2;have hv:=(aP _ _ _ _ rfl).2 rfl;clear aP;rw[bx];have fE:i<φ.length:=(fu.1 fj).1;have hτ:=hg.ty _ _ he;have RO:(aa.drop h.toNat).length=aa.length-h.toNat:=by simp_all
 have Rq:∀cap:Nat,aa.length<=cap->(Instr.sliceBounds true aa.length cap (lo.map a.eval) none none).run g.P w=.ok (h.toNat,aa.length,cap) w:=λcap hc=>by
  have:=nN (P:=g.P) (w:=w) (sl:=true) (a:=a) (len:=aa.length) (cap:=cap) (lo:=lo) (hi:=none) (h:=aa.length) hl rfl (λy hy n he=>by have:=hρ y iS;rw[he]at this;simp only[RV]at this;generalize a.eval y=u at this;cases this;rfl) (λy hy=>by cases hy) h0 h2 aq;simp_all
 have ez:∀r∈aa.drop h.toNat,r.length=sz:=λr hr=>mF r (Q9 hr)
 rcases Nq with ⟨a0,rfl,eE,rfl⟩|⟨b,o,cap,cs,Tb,rfl,rfl,bg,hn,su,hle,uK⟩
 subst eE;have Yz:h=0:=by grind
 subst Yz;have hb:=Rq 0 aD;exact alA;have hb:=Rq cap aq
 obtain⟨o',aqk,aiU⟩:∃o',(if cap=h.toNat then(some (⟨b,o,none⟩:Addr))else(some (⟨b,o,none⟩:Addr)).map (·.add (h.toNat*τ.size)))=some ⟨b,o',none⟩/\(o'+(cap-h.toNat)*τ.size<=cs.length/\(h.toNat<aa.length->o'=o+h.toNat*τ.size)):=by
  by_cases hc:cap=h.toNat;grind;refine ⟨o+h.toNat*τ.size,by rw [if_neg hc]; simp [fU],?_,λ_=>rfl⟩;have h3:h.toNat<=cap:=by omega
  have h4:h.toNat*sz+(cap-h.toNat)*sz=cap*sz:=by rw[<-Nat.add_mul];congr 1;omega
  rw[hsz];omega
 obtain⟨aiU,atE⟩:=aiU;refine⟨.value (.slice (some ⟨b,o',none⟩) (aa.length-h.toNat) (cap-h.toNat)),.slice (some ⟨b,o',none⟩) (aa.length-h.toNat) (cap-h.toNat),w,φ.set i (.o8 sz (Nat.succ s) (.slice (some ⟨b,o',none⟩) (aa.length-h.toNat) (cap-h.toNat)) (some b)),?_,.inl rfl,?_,?_⟩;simp only[execOp,Instr.sliceAt,Instr.slice,hv,underlying,Sem.run_bind,run_program,Result.andThen_ok,bX hg hT,Sem.run_pure,hb,run_sizeOf hτ,Option.map_none,aqk];simp only [RV];simp_all;refine j8.swap hs fj (.inr (.inl ⟨_,_,_,_,_,_,_,_,rfl,rfl,NL _⟩)) cZ (λ_ _ _=>rfl) (λb' hb=>.inl hb) rfl rfl rfl λbF _=>?_
 simp only[bj];refine⟨trivial,trivial,ez,.inr ⟨b,o',cap-h.toNat,cs,Tb,by rw[RO],rfl,bg,by rw[RO];omega,by omega,by rw[<-hsz];exact aiU,λi' r j x' hi hj=>?_⟩⟩;rw[Hk]at hi;have mG:=(fu.1 hi).1;obtain⟨y,h3,h4⟩:=uK (h.toNat+i') r j x' hi hj;refine⟨y,?_,h4.mono bF⟩;grind
theorem LJ(hg:di g){T T':Nat}{e:TypeId}
  (hu:g.P.underlying T=some (.pointer e)) (bt:aH ad.toList E gd=some true) (hd:aQ ⟨g.ty,g.N⟩ dst=true) (hx:ev E x=.d (.v (.pointer none)))
  (hr:R g pf Fin (.dr ad az::k) (bh E dst (.d (.v (.bool true)))) objs):R g pf Fin (.dr ad (⟨dst,.binOp .eql T x (.const (.pointer none)) T',ty,pos,after,gd⟩::az)::k) E objs:=by
 refine cU (aK.up (aK.quiet hg bt hd aD λφ objs w' w hρ fk=>?_)) hr;simp only[Op.operands]at hρ;have aP:=hρ x aD;rw[hx]at aP;simp only[RV]at aP;generalize k9:w'.eval x=vx at aP;cases aP;refine aZ fk (vv:=.bool true) ?_ ym;have h1:∀d,(Op.equalIn (d+1) T (.pointer none) (.pointer none)).run g.P w=.ok true w:=λd=>by simp[Op.equalIn,run_underlying hu]
 have h2:(Op.equal T (.pointer none) (.pointer none)).run g.P w=.ok true w:=h1 9999;have h3:(eqGuard .eql T x (.const (.pointer none)) (.pointer none) (.pointer none)).run g.P w=.ok () w:=by simp[eqGuard]
 have h4:w'.eval (.const (.pointer none))=.pointer none:=rfl;simp only[execOp,Sem.run_bind,k9,h4,h3,Result.andThen_ok,binOp,h2,Sem.run_pure]
end
theorem aU.one{P:Program}{Y:YP}{f:Nat}{t:Tm}{r:AV}{o o':List Ob}(h:aU P Y f [.d (.sl (Tm.aa [t]))] o r o'):aU P Y f [.d (.sl [Tm.row t])] o r o':=by rwa [Tm.eo]at h
end ax

namespace ax
open Go Go.RowKit
variable{gd:Option (Nat×Bool)}{after:Array Edge}{objs:List Ob}{dst:Option Nat}{az:List Oper}{pos:String}{k:List It}{x:Operand}{ty T i TT e T' off s:Nat}{bs:List UInt8}{E:bq}{l:List AV}{j:TypeInfo}{w:World}{v:Value}
section
variable {g:G} {pf:Nat->cI} {ad:Array Oper} {Fin:Exit->Act->World->Prop}
theorem Zn{n0 m i TT:Nat}(hm:m<3):¬ pF n0 m i (.gZ TT l):=by unfold pF Ob.lvl Ob.JN;grind
theorem abI(hg:di g)(m:Nat)
    {τ:Ty} {v:AV} (hm:m<3)
  (bt:aH ad.toList E gd=some true) (hd:aQ ⟨g.ty,g.N⟩ dst=true) (dK:kL pf x=.look (m+1)) (hx:ev E x=.lo i off) (ho:dq objs i=some (.gZ TT l)) (hT:g.ty T=some τ) (hp:kJ τ l off=some v)
  (hr:R g pf Fin (.dr ad az::k) (bh E dst v) objs):R g pf Fin (.dr ad (⟨dst,.load T x,ty,pos,after,gd⟩::az)::k) E objs:=by
 refine cU ?_ hr;simp only[bQ,dK];refine aK.fW hg m bt hd aD λφ a w bW hgr hρ hs=>?_
 simp only[Op.operands]at hρ;have aP:=hρ x aD;rw[hx]at aP;simp only[RV]at aP;obtain⟨b,hb,aP⟩:=aP;have ho:dq bW i=some (.gZ TT l):=by rw[bE]at ho ⊢;exact Gr.Fy hgr ho u6 (Zn hm)
 have hk:=cO hs hb ho;simp only[bj]at hk;obtain⟨cs,bg,lM⟩:=hk;obtain⟨vv,h1,h2⟩:=Hr (o:=0) (hg.ty _ _ hT) bg (by simpa using lM) hp;exact oF hs rfl aP TA h2
theorem CR(hg:di g){d x:Operand}
   {l new:List AV} {τ:Ty}
  (bt:aH ad.toList E gd=some true) (hd:aQ ⟨g.ty,g.N⟩ dst=true) (dK:js pf d=.jz) (hx:ev E d=.lo i off) (ho:dq objs i=some (.gZ TT l)) (hT:g.ty T=some τ) (hc:gn (ev E x)=some new) (a8:new.length=τ.size) (hle:off+τ.size<=l.length)
  (hr:R g pf Fin (.dr ad az::k) (bh E dst .any) (dj objs i (.gZ TT (gL l off new)))):R g pf Fin (.dr ad (⟨dst,.store T d x,ty,pos,after,gd⟩::az)::k) E objs:=by
 refine cU ?_ hr;simp only[bQ,dK];refine aK.effect hg bt hd aD λφ a w hρ hs=>?_
 simp only[Op.operands]at hρ;have hdv:=hρ d aD;have aP:=hρ x aD;rw[hx]at hdv;simp only[RV]at hdv;obtain⟨b,hb,hdv⟩:=hdv;have hk:=cO hs hb ho;simp only[bj]at hk;obtain⟨cs,bg,lM⟩:=hk;obtain⟨wc,Hs⟩:=ig aP hc;have dK:=wc.length;have V2:=lM.length;obtain⟨w',fo,cY⟩:=mP (P:=g.P) (hg.ty _ _ hT) off bg rfl Hs aq aq;have hJ:(bI.jK b).bl b:=rfl;have hkp:=tw (S0:=g.S0) hb hJ cY.other;refine⟨.skip,undef,w',φ,?_,.inr ⟨rfl,rfl⟩,by simp[RV],?_⟩;simp only[execOp,Instr.storeAt,Instr.sureAddr,hdv,Sem.run_bind,Sem.run_pure,Result.andThen_ok,fo];refine ⟨?_,hkp,.refl _,by rw [cY.size]; omega,cY.os,cY.tape,cY.out,λc hc hn=>cY.other c λe=>hn ⟨i,_,hb,by rw [e]; rfl⟩,λ_ h=>.inl h,λ_ _ _ B h=>⟨B,h⟩⟩;rw[bx];refine hs.bT hb hJ cY.size cY.other ?_;simp only[bj];exact⟨_,cY.at_,(lM.mono hkp (.refl _)).dB off (wc.mono hkp (.refl _))⟩
theorem OV{φ:List bI}{S0:Nat->Prop}(hs:HS S0 φ objs w)(hv:RV (SS S0 φ) w φ (.ow i s) v)(ho:dq objs i=some (.qG e s bs)) :
  φ[i]? = some (.o8 1 s v v.ownBlock)/\w.ownsRow 0 e 1 v bs.length (bs.map λx=>Value.int .u8 x.toNat):=by
 simp only[RV]at hv;obtain⟨_,ph,fj,hv⟩:=hv;have hk:=cO hs fj ho;cases ph<;>try (simp only[bj]at hk;done)
 simp only[bj]at hk;simp_all
theorem uT{e n:Nat}{xs:List Value}(h:w.ownsRow 0 e 1 v n xs):∃p c,v=.slice p n c:=by
 rcases h.2 with ⟨h1,h2⟩|⟨g,cap,cur,h1,_⟩
 exact⟨none,0,by rw[h1,h2]⟩;simp_all
theorem aho(hg:di g)
  {id s q cq e ee:Nat} {z:List Value}  {n:Int}
  (bt:aH ad.toList E gd=some true) (hd:aQ ⟨g.ty,g.N⟩ dst=true) (hx:ev E x=.ow id s) (ho:dq objs id=some (.qG ee s bs)) (hT:g.ty T=some ⟨q,cq,z,.slice e⟩) (hn:(bs.length:Int)=n)
  (hr:R g pf Fin (.dr ad az::k) (bh E dst (iV n)) objs) (dK:nF pf #[x]=.load:=by rfl):R g pf Fin (.dr ad (⟨dst,.call {callee:=.builtin .len,args:=#[x],argTypes:=#[T]},ty,pos,after,gd⟩::az)::k) E objs:=by
 subst hn;refine cU ?_ hr;simp only[bQ,dK];refine aK.fW hg 0 bt hd aD λφ a w bW hgr hρ hs=>?_
 simp only[Op.operands,Call.operands]at hρ;have aP:=hρ x aD;rw[hx]at aP;have EK:=aP;simp only[RV]at aP;obtain⟨_,ph,fj,aP⟩:=aP;have ho:dq bW id=some (.qG ee s bs):=by rw[bE]at ho ⊢;exact Gr.same hgr ho u6 Bl
 obtain⟨_,h4⟩:=OV hs EK ho;obtain⟨p,c,nB⟩:=uT h4;refine aZ hs (vv:=.int .i64 bs.length) ?_ JY;have hu:=bX hg hT;simp only[execOp,resolve,Sem.run_bind,Sem.run_pure,Result.andThen_ok,invoke,builtin,sr,bM,fm,nB];simp[qF hu (.inr ⟨⟨_,rfl⟩,_,_,_,rfl,rfl⟩)]
theorem Zo{n0:Nat}{i e s e' s':Nat}{bs bs':List UInt8}(ho:dq objs i=some (.qG e s bs)):Gr n0 1 objs (dj objs i (.qG e' s' bs')):=λj x hj=>by rw[bx];rw[bE]at ho;by_cases h:i=j;subst h;rw[ho]at hj;cases hj;exact⟨_,u7 (fu.1 ho).1,.inr ⟨.inl ⟨by omega,by simp[Ob.lvl]⟩,.inl ⟨by omega,by simp[Ob.lvl]⟩⟩⟩;simp_all
theorem UD{P:Program}{w w':World}{i:TypeInfo}(ht:P.underlying T=some (.slice e))(hu:P.underlying T'=some .string)(hi:P.info? e=some i)(hz:i.zero=some (.int .u8 0))(agx:i.size=1)(Lc:i.bytes=1)
  {v v':Value} {n:Nat} {xs:List Value} (ET:w.ownsRow 0 e 1 v n xs) {s:ByteArray} (hb:n+s.size<=140737488355328) (hr:(Builtin.append_ #[T,T'] ty #[v,.string s]).run P w=.ok v' w') :
  v'.ownBlock=v.ownBlock\/(v'.ownBlock=some w.heap.size/\w.heap.size<w'.heap.size):=by
 have hxl:xs.length=n:=by simpa using ET.1
 have hmx:n+s.size<=maxLen:=by unfold maxLen;omega
 rcases ET.2 with ⟨rfl,rfl⟩|⟨gb,cap,cur,rfl,_,hg,hnc,hcm,rC,ar1⟩
 have h0:xs=[]:=Xm hxl;subst h0;obtain⟨v2,w2,RN,ar2,atG,V8⟩:=Lib.run_append_own_string (P:=P) w w.heap.size T T' ty e i ht hu hi hz agx Lc (.slice none 0 0) 0 [] (World.ownsRow_nil w w.heap.size e 1) s hmx hb cZ;rw[hr]at RN;cases RN;by_cases hs:s.size=0;simp_all;have hrr:=run_append_nil_string (P:=P) w T T' ty e i (.int .u8 0) ht hu hi hz s aq aq (by rw [Lc]; omega);rw[hr]at hrr;obtain⟨rfl,rfl⟩:=Result.ok.inj hrr;exact .inr ⟨rfl,by simp⟩;by_cases BR:n+s.size<=cap;have hrr:=Lib.run_append_room_string (P:=P) w T T' ty e i ht hu hi agx gb n cap cur hg s BR aq;rw[hr]at hrr;cases hrr;exact .inl rfl;have holds:∀j u,xs[j]? = some u->w.cell? ((⟨gb,0,none⟩:Addr).add j)=some u:=ET.cells (g:=gb) rfl;have hrr:=Lib.run_append_grow_string (P:=P) w T T' ty e i (.int .u8 0) ht hu hi hz ⟨gb,0,none⟩ n cap xs ir holds s aq aq (by rw[Lc];exact growslice_fits aq aq);rw[hr]at hrr;cases hrr;exact .inr ⟨rfl,by simp⟩
theorem ahm(hg:di g){x y:Operand}
  (s1:Nat) {i s q cq e:Nat} {z:List Value}  {t:ByteArray} {τ:TypeInfo}
  (bt:aH ad.toList E gd=some true) (hd:aQ ⟨g.ty,g.N⟩ dst=true) (hx:ev E x=.ow i s) (ho:dq objs i=some (.qG e s bs)) (hy:ev E y=.d (.v (.string t)))
  (hT:g.ty T=some ⟨q,cq,z,.slice e⟩) (lf:g.P.underlying T'=some .string) (he:g.P.info? e=some τ) (hz:τ.zero=some (.int .u8 0)) (hsz:τ.size=1) (Lc:τ.bytes=1)
  (fE:s<s1) (uk:bs.length+t.size<=140737488355328)
  (hr:R g pf Fin (.dr ad az::k) (bh E dst (.ow i s1)) (dj objs i (.qG e s1 (bs++t.data.toList)))) :
  R g pf Fin (.dr ad (⟨dst,.call {callee:=.builtin .append,args:=#[x,y],argTypes:=#[T,T']},ty,pos,after,gd⟩::az)::k) E objs:=by
 refine cU (aK.eU hg (Zo ho) bt hd aD λφ a w hρ hs=>?_) hr;simp only[Op.operands,Call.operands]at hρ;have aP:=hρ x aD;rw[hx]at aP;have eC:=hρ y aD;rw[hy]at eC;simp only[RV]at eC;generalize hye:a.eval y=ye at eC;cases eC;obtain⟨fj,ET⟩:=OV hs aP ho;generalize Wa:a.eval x=v at aP fj ET;obtain⟨v',w',fo,ant,hgr,_⟩:=Lib.run_append_own_string (P:=g.P) w 0 T T' ty e τ (bX hg hT) lf he hz hsz Lc v bs.length _ ET t (by unfold maxLen;omega) uk fO;have qH:=UD (P:=g.P) (bX hg hT) lf he hz hsz Lc ET uk fo;have atH:i<φ.length:=(fu.1 fj).1;obtain⟨p',c',rY⟩:=uT ant;have sE:(bs++t.data.toList).map (λx=>Value.int .u8 x.toNat)=bs.map (λx=>Value.int .u8 x.toNat)++Lib.strCells t:=by simp[Lib.strCells]
 have a8:(bs++t.data.toList).length=bs.length+t.size:=by simp_all
 rw[bx];refine⟨.value v',v',w',φ.set i (.o8 1 s1 v' v'.ownBlock),?_,.inl rfl,?_,?_⟩;simp only[execOp,resolve,invoke,builtin,Sem.run_bind,Sem.run_pure,Result.andThen_ok,sr,bM,fm,Wa,hye,fo];simp only [RV];simp_all;refine j8.swap hs fj (.inr (.inl ⟨_,_,_,_,_,_,_,_,rfl,rfl,fE⟩)) hgr.size (λc hc hn=>hgr.block c hc λe=>hn e.symm) (λb hb=>?_) hgr.os hgr.tape hgr.output λbF _=>?_
 simp only [bI.bl]at hb ⊢;grind;simp only [bj];simp_all
theorem UE(hg:di g){x y:Operand}{e:TypeId}
  (hu:g.P.underlying T=some (.pointer e)) (hj:g.P.info? e=some j) (bt:aH ad.toList E gd=some true) (hd:aQ ⟨g.ty,g.N⟩ dst=true) (hx:ev E x=.lo i off) (hy:ev E y=.lo i off)
  (hr:R g pf Fin (.dr ad az::k) (bh E dst (.d (.v (.bool false)))) objs):R g pf Fin (.dr ad (⟨dst,.binOp .neq T x y T',ty,pos,after,gd⟩::az)::k) E objs:=by
 refine cU (aK.up (aK.quiet hg bt hd aD λφ objs w' w hρ fk=>?_)) hr;simp only[Op.operands]at hρ;have aP:=hρ x aD;have eC:=hρ y aD;rw[hx]at aP;rw[hy]at eC;simp only[RV]at aP eC;obtain⟨b,hb,k9⟩:=aP;obtain⟨b',uL,o6⟩:=eC;rw[hb]at uL;cases uL;refine aZ fk (vv:=.bool false) ?_ ym;have h2:=Lib.run_neq_ptr_same (P:=g.P) w ⟨b,off,none⟩ hu hj;have h3:(eqGuard .neq T x y (.pointer (some ⟨b,off,none⟩)) (.pointer (some ⟨b,off,none⟩))).run g.P w=.ok () w:=by simp[eqGuard]
 simp only[execOp,Sem.run_bind,k9,o6,h3,Result.andThen_ok,h2,Sem.run_pure]
theorem adl(hg:di g){e:TypeId}
  (hu:g.P.underlying T=some (.pointer e)) (hu':g.P.underlying T'=some .unsafePointer) (hj:g.P.info? e=some j) (hj0:j.size≠0) (ho:dq objs i=some (.gZ TT l)) (hl:off<l.length)
  (bt:aH ad.toList E gd=some true) (hd:aQ ⟨g.ty,g.N⟩ dst=true) (hx:ev E x=.lo i off) (dK:Hv pf=.jz)
  (hr:R g pf Fin (.dr ad az::k) (bh E dst (.lo i off)) objs):R g pf Fin (.dr ad (⟨dst,.convert T T' x,ty,pos,after,gd⟩::az)::k) E objs:=by
 refine cU ?_ hr;simp only[bQ,dK];refine aK.effect hg bt hd aD λφ a w hρ hs=>?_
 simp only[Op.operands]at hρ;have aP:=hρ x aD;rw[hx]at aP;have EK:=aP;simp only[RV]at aP;obtain⟨b,hb,k9⟩:=aP;have hk:=cO hs hb ho;simp only[bj]at hk;obtain⟨cs,bg,lM⟩:=hk;have eI:w.shape? b=some (TT,cs.length):=by simp[World.shape?,bg]
 refine aZ hs (vv:=.pointer (some ⟨b,off,none⟩)) ?_ (by rw[<-k9];exact EK);have h1:=Lib.run_to_unsafe (P:=g.P) w ⟨b,off,none⟩ hu hu' hj hj0 eI (by have:=lM.length;simp_all);simp only[execOp,k9,Sem.run_bind,h1,Result.andThen_ok,Sem.run_pure]
theorem UF(hg:di g){e:TypeId}
  (hu:g.P.underlying T=some .unsafePointer) (hu':g.P.underlying T'=some (.pointer e)) (hj:g.P.info? e=some j) (ho:dq objs i=some (.gZ TT l)) (hl:liesAt g.P g.P.depth TT (l.length / g.P.cellsOf TT) off e 1=true)
  (bt:aH ad.toList E gd=some true) (hd:aQ ⟨g.ty,g.N⟩ dst=true) (hx:ev E x=.lo i off) (dK:Hv pf=.jz)
  (hr:R g pf Fin (.dr ad az::k) (bh E dst (.lo i off)) objs):R g pf Fin (.dr ad (⟨dst,.convert T T' x,ty,pos,after,gd⟩::az)::k) E objs:=by
 refine cU ?_ hr;simp only[bQ,dK];refine aK.effect hg bt hd aD λφ a w hρ hs=>?_
 simp only[Op.operands]at hρ;have aP:=hρ x aD;rw[hx]at aP;have EK:=aP;simp only[RV]at aP;obtain⟨b,hb,k9⟩:=aP;have hk:=cO hs hb ho;simp only[bj]at hk;obtain⟨cs,bg,lM⟩:=hk;have eI:w.shape? b=some (TT,cs.length):=by simp[World.shape?,bg]
 refine aZ hs (vv:=.pointer (some ⟨b,off,none⟩)) ?_ (by rw[<-k9];exact EK);have h1:=Lib.run_from_unsafe (P:=g.P) w ⟨b,off,none⟩ hu hu' hj eI (by simp only;rw[<-lM.length];exact hl);simp only[execOp,k9,Sem.run_bind,h1,Result.andThen_ok,Sem.run_pure]
theorem aiV(hg:di g){f:Nat}{ts:Array Nat}
  (hf:∀(v:Value) (w:World),(callFunc f #[v]).run g.P w=.ok (.value v) w)
  (bt:aH ad.toList E gd=some true) (hd:aQ ⟨g.ty,g.N⟩ dst=true)
  (hr:R g pf Fin (.dr ad az::k) (bh E dst (ev E x)) objs):R g pf Fin (.dr ad (⟨dst,.call {callee:=.value (.func f),args:=#[x],argTypes:=ts},ty,pos,after,gd⟩::az)::k) E objs:=by
 refine cU (aK.quiet hg bt hd aD λφ objs w' w hρ fk=>?_) hr;simp only[Op.operands,Call.operands]at hρ;have aP:=hρ x aD;refine aZ fk (vv:=w'.eval x) ?_ aP;have h1:=hf (w'.eval x) w;have h2:(resolve w'.eval {callee:=.value (.func f),args:=#[x],argTypes:=ts} ty).run g.P w=.ok {target:=.fn (.func f) #[],args:=#[w'.eval x]} w:=by simp[resolve,Act.eval,Deferred.ofValue]
 simp only[execOp,Sem.run_bind,h2,Result.andThen_ok,invoke];simpa using h1
theorem aiW(hg:di g){ts:Array Nat}
  {id s e:Nat} 
  (bt:aH ad.toList E gd=some true) (hd:aQ ⟨g.ty,g.N⟩ dst=true) (hx:ev E x=.ow id s) (ho:dq objs id=some (.qG e s bs)) (h0:bs≠[])
  (hr:R g pf Fin (.dr ad az::k) (bh E dst (.el id s 0 0)) objs):R g pf Fin (.dr ad (⟨dst,.call {callee:=.builtin .unsafeSliceData,args:=#[x],argTypes:=ts},ty,pos,after,gd⟩::az)::k) E objs:=by
 refine cU ?_ hr;simp only[bQ];refine aK.fW hg 0 bt hd aD λφ a w bW hgr hρ hs=>?_
 simp only[Op.operands,Call.operands]at hρ;have aP:=hρ x aD;rw[hx]at aP;have EK:=aP;simp only[RV]at aP;obtain⟨_,ph,fj,aP⟩:=aP;have ho:dq bW id=some (.qG e s bs):=by rw[bE]at ho ⊢;exact Gr.same hgr ho u6 Bl
 obtain⟨fj,h4⟩:=OV hs EK ho;have RF:bs.length≠0:=by simpa using h0
 rcases h4.2 with ⟨_,h2⟩|⟨gb,cap,cur,h1,_,bg,hnc,_⟩
 omega;rw [h1]at fj;refine aZ hs (vv:=.pointer (some ⟨gb,0,none⟩)) ?_ ?_;have fo:=Lib.run_unsafeSliceData_row (P:=g.P) w ts ty ⟨gb,0,none⟩ bs.length cap aq;simp only[execOp,resolve,invoke,builtin,Sem.run_bind,Sem.run_pure,Result.andThen_ok,sr,bM,fm,h1,fo];simp only [RV];grind
theorem aiX(hg:di g){x y:Operand}
  {id s e:Nat}  {n:Int} (hT:g.P.underlying T=some (.pointer e)) (hc:g.P.cellsOf e=1)
  (bt:aH ad.toList E gd=some true) (hd:aQ ⟨g.ty,g.N⟩ dst=true) (hx:ev E x=.el id s 0 0) (hy:ev E y=iV n) (ho:dq objs id=some (.qG e s bs)) (hn:n=bs.length) (h0:bs≠[]) (h63:bs.length<=9223372036854775807)
  (hr:R g pf Fin (.dr ad az::k) (bh E dst (.d (.v (.string ⟨bs.toArray⟩)))) (dj objs id .dead)):R g pf Fin (.dr ad (⟨dst,.call {callee:=.builtin .unsafeString,args:=#[x,y],argTypes:=#[T,T']},ty,pos,after,gd⟩::az)::k) E objs:=by
 subst hn;refine cU ?_ hr;simp only[bQ];refine aK.effect hg bt hd aD λφ a w hρ hs=>?_
 simp only[Op.operands,Call.operands]at hρ;have aP:=hρ x aD;have eC:=hρ y aD;rw[hx]at aP;rw[hy]at eC;simp only[RV,iV]at aP eC;generalize hye:a.eval y=ye at eC;cases eC;obtain⟨_,ph,fj,aP⟩:=aP;have hk:=cO hs fj ho;cases ph<;>try (simp only[bj]at hk;done)
 rename_i Jy s2 v2 Hp;simp only[bj]at hk;obtain⟨rfl,rfl,wM,ET⟩:=hk;obtain⟨b,o,n,cap,yr,Wa⟩:=(aP _ _ _ _ rfl).2 rfl;have RF:bs.length≠0:=by simpa using h0
 rcases ET.2 with ⟨_,h2⟩|⟨gb,o9,cur,h1,_,bg,hnc,_,rC,_⟩
 omega;rw [yr]at h1;cases h1;simp only[Nat.zero_mul,Fp]at Wa;have fo:=Lib.run_unsafeString_row (P:=g.P) w T T' ty e hT hc b cur.size (by simp[World.shape?,bg]) bs h0 aq h63 (λj x' Rl=>by refine ET.cells (g:=b) (by rw[yr];rfl) j _ ?_;simp[Rl]);have hfz:∀c,c≠b->(w.freeze ⟨b,0,none⟩ bs.length).heap[c]? = w.heap[c]? := λc hc=>by unfold World.freeze;grind
 have X6:(w.freeze ⟨b,0,none⟩ bs.length).heap.size=w.heap.size:=by unfold World.freeze;split<;>simp
 have hfo:(w.freeze ⟨b,0,none⟩ bs.length).os=w.os/\(w.freeze ⟨b,0,none⟩ bs.length).tape=w.tape/\(w.freeze ⟨b,0,none⟩ bs.length).output=w.output:=by unfold World.freeze;simp_all
 have hJ:(bI.o8 1 s v2 Hp).bl b:=by simp only[bI.bl];rw[wM,yr];rfl
 have hkp:=tw (S0:=g.S0) fj hJ hfz;refine⟨.value (.string ⟨bs.toArray⟩),.string ⟨bs.toArray⟩,w.freeze ⟨b,0,none⟩ bs.length,φ,?_,.inl rfl,by simp only[RV];exact .v _,?_⟩;simp only[execOp,resolve,invoke,builtin,Sem.run_bind,Sem.run_pure,Result.andThen_ok,sr,bM,fm,Wa,hye,fo];refine ⟨?_,hkp,.refl _,by omega,hfo.1,hfo.2.1,hfo.2.2,λc _ hn=>hfz c λe=>hn ⟨id,_,fj,by simp_all⟩,λ_ h=>.inl h,λ_ _ _ B h=>⟨B,h⟩⟩;rw[bx];refine hs.bT fj hJ X6 hfz ?_;simp only[bj]
theorem aiY(hg:di g)
  (bt:aH ad.toList E gd=some true) (hd:aQ ⟨g.ty,g.N⟩ dst=true) (hc:gn (ev E x)=some l)
  (hr:R g pf Fin (.dr ad az::k) (bh E dst (.lo (len objs) 0)) (objs++[.gZ T l])):R g pf Fin (.dr ad (⟨dst,.box T x,ty,pos,after,gd⟩::az)::k) E objs:=by
 refine cU ?_ hr;simp only[bQ];refine aK.eU hg (λi x hx=>⟨x,by grind,.inl rfl⟩) bt hd aD λφ a w hρ hs=>?_
 simp only[Op.operands]at hρ;have aP:=hρ x aD;obtain⟨h1,h2⟩:=ig aP hc;have qH:∀b,(bI.jK w.heap.size).bl b->b=w.heap.size:=by intro b hb;simpa[bI.bl]using hb.symm
 refine⟨.value (.pointer (some ⟨w.heap.size,0,none⟩)),_,w.alloc (.cells (a.eval x).cells T),φ++[.jK w.heap.size],?_,.inl rfl,?_,.new hs qH ?_⟩;simp only [execOp,Instr.box,Sem.run_bind,Result.andThen_ok,newVar,newRow,run_newObj,Sem.run_pure];rfl;simp only [RV];exact⟨w.heap.size,by rw[bp,<-hs.len];simp,rfl⟩;simp only [bj];exact⟨(a.eval x).cells.toList,heap_alloc_new _ _,h1.mono (sy qH) (.app _ _)⟩
theorem aiZ(i j e:Nat)(ho:dq objs i=some (.gZ TT l))(h:dq l j=some (.d (.v (.slice none 0 0))))(ht:gM k=true)
  (hr:R g pf Fin k E (dj objs i (.gZ TT (dj l j (.ow (len objs) 0)))++[.qG e 0 []])):R g pf Fin k E objs:=by
 refine mT ht (λa w hs=>?_) hr;obtain⟨φ,h1,h2,h3,h4,h5,h6⟩:=hs;rw[bE]at ho h;have mG:=(fu.1 ho).1;have cY:j8 g.S0 φ w (φ++[bI.o8 1 0 (.slice none 0 0) none]) (objs++[.qG e 0 []]) w:=j8.add h1 cZ (λ_ _=>rfl) (λb hb=>by simp[bI.bl]at hb) rfl rfl rfl λ_=>by simp only[bj];exact⟨trivial,trivial,rfl,by simpa using World.ownsRow_nil w 0 e 1⟩
 have fj:φ[i]? = some (φ[i]' ab3):=dG _;generalize φ[i]' jD=ph at fj;have hk:=cY.hs.ok i ph (.gZ TT l) jD jD;cases ph<;>try (simp only[bj]at hk;done)
 rename_i b;have Nq:=hk;simp only[bj]at Nq;obtain⟨cs,hb,lM⟩:=Nq
 have ah8:j8 g.S0 (φ++[bI.o8 1 0 (.slice none 0 0) none]) w ((φ++[bI.o8 1 0 (.slice none 0 0) none]).set i (.jK b)) ((objs++[Ob.qG e 0 []]).set i (.gZ TT (dj l j (.ow (len objs) 0)))) w:=by
  refine j8.swap cY.hs jD (.inl rfl) cZ (λ_ _ _=>rfl) (λb hb=>.inl hb) rfl rfl rfl λbF hle=>?_
  simp only[bj];refine⟨cs,hb,?_⟩;rw[bx];obtain⟨v,hv1,yr⟩:=lM.get j h;have rC:cs=cs.set j v:=by apply TL;grind
  rw[rC];refine(lM.mono bF hle).set j ?_;simp only[RV]at yr ⊢;cases yr;refine⟨⟨_,_,_,rfl⟩,.o8 1 0 (.slice none 0 0) none,?_,λsz s x ob h=>by grind⟩;rw[wB (by rw[bp];omega),bp,<-h1.len];simp
 have e1:(φ++[bI.o8 1 0 (.slice none 0 0) none]).set i (.jK b)=φ++[bI.o8 1 0 (.slice none 0 0) none]:=by apply TL;grind
 have e2:(objs++[Ob.qG e 0 []]).set i (.gZ TT (dj l j (.ow (len objs) 0)))=dj objs i (.gZ TT (dj l j (.ow (len objs) 0)))++[.qG e 0 []]:=by rw[List.set_append,if_pos mG];rw[bx objs i]
 have V0:=ah8.hs;rw[e1,e2]at V0;exact alL
end
end ax

namespace Go.Proofs.YtmjmngigbachdaaGreatDoor
open Go ax Go.Proofs
def wrO (u:Bool)(bs:List UInt8):List Ob:=[.gZ 254 [bif u then .lo 0 0 else .d (.v (.pointer none)),.ow 1 bs.length],.qG 5 bs.length bs]
theorem anu (v:Value)(w:World):(callFunc 221 #[v]).run Tryz.prog w=.ok (.value v) w:=by rw[run_callFunc_extern Tryz.func221 da da da (e:=Extern.AbiNoEscape.same) da,Lib.run_noEscape];rfl
def ao4:Nat->cI:=λf=>bif Nat.beq f 4000000010 then .bT 90 else .jz
theorem LK (Y:YP)(s:Nat)(bs:List UInt8):aU Tryz.prog Y 217 [.lo 0 0] [.gZ 254 [.d (.v (.pointer none)),.ow 1 s],.qG 5 s bs] (.cP []) [.gZ 254 [.lo 0 0,.ow 1 s],.qG 5 s bs]:=by
 obtain⟨j,z,hj,hz,hjs,hjb,_⟩:=(gK 252 _ rfl).info;refine mH5 Tryz.func217 λw S φ hg=>?_
 refine Hf ?_;refine LJ hg.ok Tryz.underlying250 rfl rfl rfl (ag ?_);refine mM ?_;refine adl hg.ok Tryz.underlying250 Tryz.underlying275 hj (by rw[hjs];decide) rfl (by show 0<2;omega) rfl rfl rfl rfl (ag ?_);refine aiV hg.ok anu rfl rfl (ag ?_);refine UF hg.ok Tryz.underlying275 Tryz.underlying250 hj rfl da rfl rfl rfl rfl (ag ?_);refine CR hg.ok rfl rfl rfl rfl rfl rfl rfl rfl (by show 0+0+1<=2;omega) (ag ?_);exact mq hg 2 5 (by show(2:Nat)<=2;omega) rfl rfl rfl
theorem LL (Y:YP)(s:Nat)(bs:List UInt8):aU Tryz.prog Y 217 [.lo 0 0] [.gZ 254 [.lo 0 0,.ow 1 s],.qG 5 s bs] (.cP []) [.gZ 254 [.lo 0 0,.ow 1 s],.qG 5 s bs]:=by
 obtain⟨j,z,hj,hz,hjs,hjb,_⟩:=(gK 252 _ rfl).info;refine mH5 Tryz.func217 λw S φ hg=>?_
 refine Hf ?_;refine QD hg.ok Tryz.underlying250 rfl rfl rfl (ag ?_);refine gg ?_;refine Hf ?_;refine UE hg.ok Tryz.underlying250 hj rfl rfl rfl rfl (ag ?_);refine gg ?_;exact mq hg 2 5 (by show(2:Nat)<=2;omega) rfl rfl rfl
theorem CS (Y:YP)(s:Nat)(x:AV)(bs:List UInt8)(hx:x=.lo 0 0\/x=.d (.v (.pointer none))):aU Tryz.prog Y 176 [.lo 0 0] [.gZ 254 [x,.ow 1 s],.qG 5 s bs] (iV bs.length) [.gZ 254 [x,.ow 1 s],.qG 5 s bs]:=by
 rcases hx with rfl|rfl
 refine u0 Tryz.func176 λw S φ hg=>?_
 refine Hf ?_;refine WN ?_;exact JR;refine u0 Tryz.func176 λw S φ hg=>?_
 refine Hf ?_;refine WN ?_;exact JR
theorem LM (Y:YP)(s s1:Nat)(bs:List UInt8)(t:ByteArray)(hs:s<s1)(uk:bs.length+t.size<=140737488355328):aU Tryz.prog Y 205 [.lo 0 0,.d (.v (.string t))] [.gZ 254 [.d (.v (.pointer none)),.ow 1 s],.qG 5 s bs] (.cP [iV t.size,.d (.v .nilIface)]) [.gZ 254 [.lo 0 0,.ow 1 s1],.qG 5 s1 (bs++t.data.toList)]:=by
 obtain⟨j,z,hj,hz,hjs,hjb,hjz⟩:=(gK 5 _ rfl).info
 have hz':j.zero=some (.int .u8 0):=by
  have h:(Tryz.prog.info? 5).bind (·.zero)=some (.int .u8 0):=by kernel_rfl
  rw[hj]at h;exact h
 refine u0 Tryz.func205 λw S φ hg=>?_
 refine aj hg.ok hg.cm hg.wide hg.Y [0,1] [.gZ 254 [.lo 0 0,.ow 1 s],.qG 5 s bs] (LK Y s bs) cN rfl rfl rfl rfl rfl rfl rfl rfl (ag ?_);refine Hf ?_;refine afn ?_;refine CR hg.ok rfl rfl rfl rfl rfl rfl rfl rfl (by show 0+1+1<=2;omega) (ag ?_);exact JR
theorem LN (Y:YP)(s s1:Nat)(bs:List UInt8)(t:ByteArray)(hs:s<s1)(uk:bs.length+t.size<=140737488355328):aU Tryz.prog Y 205 [.lo 0 0,.d (.v (.string t))] [.gZ 254 [.lo 0 0,.ow 1 s],.qG 5 s bs] (.cP [iV t.size,.d (.v .nilIface)]) [.gZ 254 [.lo 0 0,.ow 1 s1],.qG 5 s1 (bs++t.data.toList)]:=by
 obtain⟨j,z,hj,hz,hjs,hjb,hjz⟩:=(gK 5 _ rfl).info
 have hz':j.zero=some (.int .u8 0):=by
  have h:(Tryz.prog.info? 5).bind (·.zero)=some (.int .u8 0):=by kernel_rfl
  rw[hj]at h;exact h
 refine u0 Tryz.func205 λw S φ hg=>?_
 refine aj hg.ok hg.cm hg.wide hg.Y [0,1] [.gZ 254 [.lo 0 0,.ow 1 s],.qG 5 s bs] (LL Y s bs) cN rfl rfl rfl rfl rfl rfl rfl rfl (ag ?_);refine Hf ?_;refine afn ?_;refine CR hg.ok rfl rfl rfl rfl rfl rfl rfl rfl (by show 0+1+1<=2;omega) (ag ?_);exact JR
theorem LO (Y:YP)(x:AV)(s:Nat)(bs:List UInt8)(hx:x=.lo 0 0\/x=.d (.v (.pointer none)))(h0:bs≠[])(h63:bs.length<=9223372036854775807):aU Tryz.prog Y 177 [.lo 0 0] [.gZ 254 [x,.ow 1 s],.qG 5 s bs] (.d (.v (.string ⟨bs.toArray⟩))) [.gZ 254 [x,.ow 1 s],.dead]:=by
 have hc:Tryz.prog.cellsOf 5=1:=by kernel_rfl
 rcases hx with rfl|rfl
 all_goals
  refine u0 Tryz.func177 λw S φ hg=>?_
  refine Hf ?_;refine aiW hg.ok rfl rfl rfl rfl h0 (ag ?_);refine Hf ?_;refine WN ?_;refine aiX hg.ok Tryz.underlying267 hc rfl rfl rfl rfl rfl rfl h0 h63 (ag ?_);exact JR
end Go.Proofs.YtmjmngigbachdaaGreatDoor

namespace Go.Proofs.YtmjmngigbachdaaGreatDoor
open Go ax Go.Proofs
variable{S:Nat->Prop}{bS:List Value}{w:World}
theorem ai0(h:gI Tryz.prog S w):Lib.TabIs Tryz.prog w "internal/strconv.uint64pow10" .u64 Lib.pow10Tab:=by have hn:∃i,Tryz.prog.globalNamed "internal/strconv.uint64pow10" = some i:=acd.1 da;obtain⟨i,hi⟩:=hn;obtain⟨_,o,ho,_,h1,_⟩:=h _ (.inl rfl) i hi;obtain⟨e,k,rfl⟩:=h1 rfl;simp only[Lib.TabIs,World.var?,hi,ab8,ho];rfl
theorem Zp(h:gI Tryz.prog S w):∃ (i:Nat) (m:Int),Tryz.prog.globalNamed "internal/bytealg.MaxLen" = some i∧w.cell? ⟨i,0,none⟩=some (.int .i64 m):=by have hn:∃i,Tryz.prog.globalNamed "internal/bytealg.MaxLen" = some i:=acd.1 da;obtain⟨i,hi⟩:=hn;obtain⟨_,o,ho,_,_,h1⟩:=h _ (.inr rfl) i hi;obtain⟨m,e,k,rfl⟩:=h1 rfl;exact⟨i,m,hi,by simp[World.cell?,ho]⟩
theorem anv{x:Value}(h:aW S w [] [.d (.v x)] bS):bS=[x]:=by
 match bS,h with
 |[v],h=>simp only[aW,RV,and_true]at h;cases h;rfl
 |[],h=>simp[aW]at h
 |_::_::_,h=>simp[aW]at h
theorem Sj(n:Int)(h0:-9223372036854775808<=n)(h1:n<=9223372036854775807):br Tryz.prog 188 [iV n] (.d (.v (.string ⟨(Lib.itoa n).toArray⟩))):=by refine⟨jc Tryz.func188 rfl da,λS w bS ha T4 hv=>?_⟩;rw[anv hv];refine(Tryz.strconv_Itoa n h0 h1 w (ai0 ha)).mono ?_;rintro e w' ⟨rfl,k,os,rfl⟩;exact⟨_,rfl,by simp only[RV];exact .v _,⟨rfl,rfl,rfl,by show w.heap.size<=(w.heap++os).size;simp,λb hb=>by show(w.heap++os)[b]? = _;exact Array.getElem?_append_left hb⟩⟩
theorem anw{x y:Value}(h:aW S w [] [.d (.v x),.d (.v y)] bS):bS=[x,y]:=by
 match bS,h with
 |[v,u],h=>simp only[aW,RV,and_true]at h;obtain⟨h1,h2⟩:=h;cases h1;cases h2;rfl
 |[],h=>simp[aW]at h
 |[_],h=>simp[aW]at h
 |_::_::_::_,h=>simp[aW]at h
theorem anz{x y z:Value}(h:aW S w [] [.d (.v x),.d (.v y),.d (.v z)] bS):bS=[x,y,z]:=by
 match bS,h with
 |[v,u,t],h=>simp only[aW,RV,and_true]at h;obtain⟨h1,h2,h3⟩:=h;cases h1;cases h2;cases h3;rfl
 |[],h=>simp[aW]at h
 |[_],h=>simp[aW]at h
 |[_,_],h=>simp[aW]at h
 |_::_::_::_::_,h=>simp[aW]at h
theorem LP(s t:ByteArray)(hs:s.size<4294967281):br Tryz.prog 219 [.d (.v (.string s)),.d (.v (.string t))] (.d (.v (.bool (Lib.contains s.data.toList t.data.toList)))):=by
 refine⟨jc Tryz.func219 rfl da,fun S w bS ha T4 hv=>?_⟩;rw[anw hv];obtain⟨i,m,hi,hm⟩:=Zp ha;have h0:Tryz.prog.globalNamed "internal/bytealg.MaxLen" = some 1:=by kernel_rfl
 rw[h0]at hi;cases hi;refine(Tryz.strings_Contains s t m w hs hm).mono ?_;rintro e w' ⟨rfl,rfl⟩;exact⟨_,rfl,by simp only[RV];exact .v _,.refl _ _⟩
theorem EU(s Wb new:ByteArray)(hs:s.size<4294967281)(h1:1<=Wb.size)(a8:s.size+Lib.countB s Wb*new.size<=140737488355328):br Tryz.prog 209 [.d (.v (.string s)),.d (.v (.string Wb)),.d (.v (.string new))] (.d (.v (.string ⟨(Lib.replaceAll s.data.toList Wb.data.toList new.data.toList).toArray⟩))):=by
 refine⟨jc Tryz.func209 rfl da,fun S w bS ha T4 hv=>?_⟩;rw[anz hv];obtain⟨i,m,hi,hm⟩:=Zp ha;have h0:Tryz.prog.globalNamed "internal/bytealg.MaxLen" = some 1:=by kernel_rfl
 rw[h0]at hi;cases hi;refine(Tryz.strings_ReplaceAll s Wb new m w hs hm h1 a8).mono ?_;rintro e w' ⟨rfl,hb⟩;exact⟨_,rfl,by simp only[RV];exact .v _,hb⟩
end Go.Proofs.YtmjmngigbachdaaGreatDoor

namespace Go.Proofs.YtmjmngigbachdaaGreatDoor
open Go ax Go.Proofs
def pE (bs:Bs):List Ob:=wrO (!bs.isEmpty) bs
theorem adm {f:AV->AV}(h0:f (.lo 0 0)=.lo 0 0)(h1:f (.d (.v (.pointer none)))=.d (.v (.pointer none)))(h2:∀s,f (.ow 1 s)=.ow 1 s)(bs:Bs):(pE bs).map (aR f)=pE bs:=by cases bs<;>simp[pE,wrO,aR,h0,h1,h2]
theorem Wp (o:List Ob)(bs:Bs):(pE bs).map (aR (bZ false 2 o 5))=pE bs:=adm rfl rfl cN bs
theorem mO (f:Nat->Nat)(h0:f 0=0)(h1:f 1=1)(bs:Bs):(pE bs).map (bG f)=pE bs:=by cases bs<;>simp[pE,wrO,bG,dh,iH,h0,h1]
theorem xy {bs:Bs}(h:bs≠[]):pE bs=[.gZ 254 [.lo 0 0,.ow 1 bs.length],.qG 5 bs.length bs]:=by
 cases bs with
 |nil=>exact absurd rfl h
 |cons c r=>rfl
theorem UH (Y:YP)(bs:Bs):aU Tryz.prog Y 176 [.lo 0 0] (pE bs) (iV bs.length) (pE bs):=by by_cases h:bs=[];subst h;exact CS Y 0 _ [] (.inr rfl);rw[xy h];exact CS Y _ _ bs (.inl rfl)
theorem LQ (Y:YP)(bs s:Bs)(hs:s≠[])(uk:bs.length+s.length<=140737488355328):aU Tryz.prog Y 205 [.lo 0 0,.d (.v (.string (Tx s)))] (pE bs) (.cP [iV s.length,.d (.v .nilIface)]) (pE (bs++s)):=by
 have Jz:0<s.length:=by cases s with|nil=>exact absurd rfl hs|cons c r=>simp
 have dR:bs++s≠[]:=by simp[hs]
 rw[xy dR,List.length_append];have ht:(Tx s).data.toList=s:=by simp[Tx]
 have hz:((Tx s).size:Int)=s.length:=by rw[j0]
 by_cases h:bs=[];subst h;have:=LM Y 0 (0+s.length) [] (Tx s) aq (by rw[j0];simpa using uk);rw[ht,hz]at this;exact this;rw [xy h];have:=LN Y bs.length (bs.length+s.length) bs (Tx s) aq (by rw[j0];exact uk);rw[ht,hz]at this;exact this
theorem jL (Y:YP)(bs s:Bs)(hs:s≠[])(hl:s.length<=1000000000):aU Tryz.prog Y 187 [.lo 0 0,.d (.v (.string (Tx s)))] (pE bs) (.cP []) (pE (kA bs s)):=by
 refine u0 Tryz.func187 λw S φ hg=>?_
 refine aj hg.ok hg.cm hg.wide hg.Y [0,1] (pE bs) (UH Y bs) cN rfl rfl rfl rfl rfl zh rfl zh (ag ?_);refine af (λh=>?_) λh=>?_
 have hle:bs.length<=8000:=by have:=of_decide_eq_true h; omega
 rw[show kA bs s=bs++s by unfold kA;rw[if_pos hle]];refine aj hg.ok hg.cm hg.wide hg.Y [0,1] (pE (bs++s)) (LQ Y bs s hs aq) cN rfl rfl rfl rfl rfl zh rfl zh (ag ?_);exact Bb;have hle:¬ bs.length<=8000:=by have:=of_decide_eq_false h; omega
 rw[show kA bs s=bs by unfold kA;rw[if_neg hle]];exact Bb
end Go.Proofs.YtmjmngigbachdaaGreatDoor

namespace ax
open Go
theorem adn (s:Bs):(39 ∉ s/\Lib.index s [39]=-1)\/∃a r,s=a++39::r/\39 ∉ a/\Lib.index s [39]=a.length:=by
 induction s with
 |nil=>left;exact⟨by simp,rfl⟩
 |cons b l ih=>
  by_cases hb:b=39;subst hb;exact .inr ⟨[],l,rfl,by simp,by simp[Lib.index,List.isPrefixOf]⟩;have hp:([39]:Bs).isPrefixOf (b::l)=false:=by simp [List.isPrefixOf] <;> exact λe=>hb e.symm
  rcases ih with ⟨h1,h2⟩|⟨a,r,h1,h2,h3⟩
  exact .inl ⟨λhm=>(cE.1 hm).elim (λe=>hb e.symm) h1,by simp[Lib.index,hp,h2]⟩;refine .inr ⟨b::a,r,by rw [h1]; rfl,by simp [h2] <;> exact λe=>hb e.symm,?_⟩;have:¬ ((a.length:Int) == -1)=true:=by simp<;>omega
  simp only[Lib.index,hp,h3,lq,if_false,this,dx];omega
theorem Zq (a b:Bs):q5 (a++b)=q5 a++q5 b:=by simp[q5]
theorem Sk {a:Bs}(h:39 ∉ a):q5 a=a:=by
 induction a with
 |nil=>rfl
 |cons c r ih=>
  simp only[cE,not_or]at h;have h1:¬ c=39:=λe=>h.1 e.symm
  simp only[q5,List.flatMap_cons]at ih ⊢;rw[ih h.2,if_neg h1];rfl
theorem OW:∀(n:Nat) (s:Bs) (f:Nat),s.length<=n->s.length<f->Lib.replaceK [39] [39,39] (Lib.countFrom [39] f s) s=q5 s:=by
 intro n;induction n with
 |zero=>
  intro s f h hf;have:s=[]:=Xm aq;subst this;cases f with
  |zero=>simp at hf
  |succ f=>rfl
 |succ n ih=>
  intro s f h hf;cases f with
  |zero=>omega
  |succ f=>
   rcases adn s with ⟨h1,h2⟩|⟨a,r,h1,h2,h3⟩
   rw[Lib.countFrom,h2,Sk h1];rfl;have dR:¬ (Lib.index s [39] == -1)=true:=by rw [h3]; simp <;> omega
   have hl:s.length=a.length+(r.length+1):=by rw[h1];simp
   rw[Lib.countFrom,if_neg dR,Nat.add_comm 1,Lib.replaceK_hit _ _ _ s a.length h3,h3];have hd:s.drop (a.length+([39]:Bs).length)=r:=by rw[h1];simp[List.drop_append,cX]
   have ht:s.take a.length=a:=by rw[h1];simp
   simp only[zk];rw[hd,ht,ih r f aq aq,h1,Zq,Sk h2];simp[q5]
theorem Ie:∀(f:Nat) (s:Bs),Lib.countFrom [39] f s<=f:=by
 intro f;induction f with
 |zero=>intro s;simp[Lib.countFrom]
 |succ f ih=>intro s;rw[Lib.countFrom];split;omega;have:=ih (s.drop ((Lib.index s [39]).toNat+([39]:Bs).length));omega
theorem Ig (s:Bs):Lib.replaceAll s [39] [39,39]=q5 s:=by rw[Lib.replaceAll,Lib.replace,if_neg eA,Lib.replaceNum,if_pos (.inl eA),Lib.count];exact OW s.length s _ cZ aq
theorem ado (s:Bs):Lib.count s [39]<=s.length+1:=Ie _ _
end ax
namespace ax
open Go
end ax
namespace ax
open Go
end ax

namespace Go.Proofs.YtmjmngigbachdaaGreatDoor
open Go ax Go.Proofs
def UI (L:Bs):AV:=.d (.v (.string (Tx L)))
theorem ai1 {a b:Bool}(h:a=true↔b=true):bV a=bV b:=by rw[o5.2 h]
theorem bvF {b:Bool}(h:b=false):AV.d (.v (.bool false))=bV b:=by rw[h];rfl
theorem decode_ascii {L:Bs}{i:Nat}{c:UInt8}(h:L[i]? = some c)(hc:c.toNat<128):Utf8.decode (Tx L) i=(c.toNat,1):=by
 have hl:=(fu.1 h).1
 have e:(Tx L).get! (i+0)=c:=by
  show(Tx L).data[i]! = c
  have:=(fu.1 h).2;simp[Tx,hl,this]
 unfold Utf8.decode;simp only[e];rw[if_pos aq]
theorem UJ (L:Bs)(hL:∀c∈L,c.toNat<128):br Tryz.prog 207 [UI L] (bV (qj L)):=by
 refine v8 Tryz.func207 λw S hg=>?_
 refine Cc hg.ok rfl rfl rfl rfl (ag ?_);refine a7 (λk:Nat=>([(0,UI L),(8,.lo 0 0)],[.Jw (Tx L) k])) (λk=>k<=L.length/\qj L=wlB L k) (λk=>L.length-k) 0 ⟨bU _,rfl⟩ Bj rfl ?_;rintro k ⟨hk,hm⟩;refine ag ?_;by_cases aI:k<L.length
 ·have e1:L[k]? = some L[k]:=dG aI;have ha:L[k].toNat<128:=hL _ (dy aI);refine HX hg.ok rfl rfl rfl rfl (by rw[j0];exact aI) (decode_ascii e1 ha) ?_;generalize L[k]=c at e1 ha;refine ag ?_
  repeat' (refine iq rfl rfl (λh=>?_) (λh=>?_)<;>(first|have h:=of_decide_eq_true h|have h:=of_decide_eq_false h|(simp at h;done)|simp at h|skip)<;>refine dJ hg.ok rfl rfl ?_)
  all_goals first
   |(refine wj hg 5 rfl rfl ?_;exact bvF (anp e1 hm Q1 Q1))
   |exact bb (k+1) ⟨aI,adi e1 hm Q1 Q1⟩ aq Bj rfl
 refine HY hg.ok rfl rfl rfl rfl (by rw [j0]; omega) (ag ?_);refine bz ?_;rw[aiS aq hm];exact ai1 (by rw[show({data:=#[]}:ByteArray)=Tx []from rfl,CL])
theorem Ih (c:UInt8)(hc:c.toNat<128):Lib.contains sgW (Utf8.encode (c.toNat:Int)).data.toList=OQ c:=by have h:=Zj (p:=λc=>!decide (c.toNat<128)||(Lib.contains sgW (Utf8.encode (c.toNat:Int)).data.toList==OQ c)) (by decide +kernel) c;simpa[hc]using h
theorem UK (L:Bs)(hL:∀c∈L,c.toNat<128):br Tryz.prog 208 [UI L] (bV (Lz L)):=by
 refine v8 Tryz.func208 λw S hg=>?_
 refine Cc hg.ok rfl rfl rfl rfl (ag ?_);refine a7 (λk:Nat=>([(0,UI L),(6,.lo 0 0)],[.Jw (Tx L) k])) (λk=>k<=L.length/\L.all OQ=(L.drop k).all OQ) (λk=>L.length-k) 0 ⟨bU _,rfl⟩ Bj rfl ?_;rintro k ⟨hk,hm⟩;refine ag ?_;by_cases aI:k<L.length;have e1:L[k]? = some L[k]:=dG aI;have ha:L[k].toNat<128:=hL _ (dy aI);rw[List.drop_eq_getElem_cons aI,pK]at hm;refine HX hg.ok rfl rfl rfl rfl (by rw[j0];exact aI) (decode_ascii e1 ha) ?_;generalize L[k]=c at e1 ha hm;refine ag ?_;refine RW hg.ok (Utf8.encode (c.toNat:Int)) rfl rfl rfl rfl rfl rfl (ag ?_);refine aA (LP (Tx sgW) (Utf8.encode (c.toNat:Int)) eA) ?_;rw[show(Tx sgW).data.toList=sgW from rfl,Ih c ha];refine af (λh=>?_) λh=>?_
 refine bz ?_;have h:OQ c=false:=by simpa using h
 exact bvF (by rw[Lz,hm,h];simp);have h:OQ c=true:=by simpa using h
 exact bb (k+1) ⟨aI,by rw[hm,h,iu]⟩ aq Bj rfl;refine HY hg.ok rfl rfl rfl rfl (by rw [j0]; omega) (ag ?_);refine bz ?_;rw[cX aq]at hm;exact ai1 (by rw[show({data:=#[]}:ByteArray)=Tx []from rfl,CL,Lz,hm];cases L<;>rfl)
theorem UL (L:Bs)(hL:∀c∈L,c.toNat<128)(hl:L.length<=1000000):br Tryz.prog 191 [UI L] (UI (qk L)):=by
 refine ng Tryz.func191 λw S hg=>?_
 refine aA (UJ L hL) ?_;have e1:aX (Tx L) ⟨#[33]⟩=(L==[33]):=CL L [33];have e2:aX (Tx L) ⟨#[59]⟩=(L==[59]):=CL L [59];have e3:aX (Tx L) ⟨#[91,93]⟩=(L==[91,93]):=CL L [91,93];refine af (λh=>?_) λh=>?_
 refine bz ?_;rw[qk,if_pos (by simp[sJ,h])];rfl;refine aA (UK L hL) ?_;refine af (λh2=>?_) λh2=>?_
 refine bz ?_;rw[qk,if_pos (by simp[sJ,h2])];rfl;refine af (λh3=>?_) λh3=>?_
 refine bz ?_;rw[e1]at h3;rw[qk,if_pos (by simp[sJ,h3])];rfl;refine af (λh4=>?_) λh4=>?_
 refine bz ?_;rw[e2]at h4;rw[qk,if_pos (by simp[sJ,h4])];rfl;refine af (λh5=>?_) λh5=>?_
 refine bz ?_;rw[e3]at h5;rw[qk,if_pos (by simp[sJ,h5])];rfl;rw[e1]at h3;rw[e2]at h4;rw[e3]at h5;have Ii:=ado L;refine aA (EU (Tx L) (Tx [39]) (Tx [39,39]) (by rw[j0];omega) eA (by rw[j0];show L.length+Lib.count (Tx L).data.toList [39]*2<=_;rw[show(Tx L).data.toList=L by simp[Tx]];omega)) ?_;rw[show(Tx L).data.toList=L by simp[Tx],show(Tx [39]).data.toList=[39]from rfl,show(Tx [39,39]).data.toList=[39,39]from rfl,Ig];have RO:=LB L;refine Cb hg.ok (Tx (39::q5 L)) rfl rfl rfl rfl (by rw[show(⟨(q5 L).toArray⟩:ByteArray)=Tx (q5 L)from rfl,j0];show 1+_<=_;omega) (OO [39] (q5 L)) (ag ?_);refine Cb hg.ok (Tx (39::(q5 L++[39]))) rfl rfl rfl rfl (by rw[j0];show _+1<=_;simp only[dx];omega) ((OO (39::q5 L) [39]).trans (by rw[jo])) (ag ?_);refine bz ?_;rw[qk,if_neg (by simp[sJ,h,h2,h3,h4,h5])];rfl
theorem Gu (t:Tm):br Tryz.prog 189 [t.av] (bV (jf t)):=by
 have e1:aX t.s ⟨#[46]⟩=(t.s.data.toList==[46]):=by have:=CL t.s.data.toList [46];rw[Ib]at this;exact this
 have mF:=Tm.ao t.l;refine ng Tryz.func189 λw S hg=>?_
 refine af (λh=>?_) λh=>?_
 have h:=of_decide_eq_true h;refine af (λh2=>?_) λh2=>?_
 refine bz ?_;rw[e1]at h2;have hk:decide (t.k=3)=true:=decide_eq_true h;exact ai1 (by rw[jf,xv,hk,h2,iu,iu,mF];by_cases h9:t.l.length=2<;>simp[h9]<;>omega);refine bz ?_;rw[e1]at h2;exact bvF (by rw[jf,xv,h2,Ki,rA]);have h:=of_decide_eq_false h;refine bz ?_;exact bvF (by rw[jf,xv,decide_eq_false h,rA,rA])
def zd (t:Tm):Ob:=.box [iV t.k,.d (.v (.string t.s)),iV t.n,.d (.sl (Tm.aa t.l))]
def WrT (t:Tm):Prop:=∀(Y:YP) (bs:Bs),aU Tryz.prog Y 175 [.lo 0 0,t.av] (pE bs) (.cP []) (pE (fJ bs (u3 t)))
def WrL (t:Tm):Prop:=∀(Y:YP) (bs:Bs),aU Tryz.prog Y 190 [.lo 0 0,t.av] (pE bs) (.cP []) (pE (fJ bs (u3 t)))
theorem UM (b:Bs)(x y:Tm):((pE b++[zd x,zd y]).take 3).map (aR (dD 3))=pE b++[zd x]:=by cases b<;>rfl
theorem OX (t:Tm)(ho:LG t)(CT:jf t=true->WrL t)(eV:∀x∈t.l,WrT x):WrT t:=by
 intro Y bs;obtain⟨ha,hl,h0,h1,qI,_⟩:=ho;have mF:=Tm.ao t.l;have hi:=LH t.n h0 h1;refine u0 Tryz.func175 λw S φ hg=>?_
 refine af (λh=>?_) λh=>?_
 have h:=of_decide_eq_true h;have hc:jf t=false:=by rw[jf,xv,h];rfl
 rw[sL hc,CN,if_pos h,ei,lE];refine aA (Sj t.n h0 h1) ?_;refine Cb hg.ok (Tx (95::Lib.itoa t.n)) rfl rfl rfl rfl (by rw[show(⟨(Lib.itoa t.n).toArray⟩:ByteArray)=Tx (Lib.itoa t.n)from rfl,j0];show 1+_<=_;omega) (OO [95] (Lib.itoa t.n)) (ag ?_);refine aj hg.ok hg.cm hg.wide hg.Y [0,1] (pE (kA bs (95::Lib.itoa t.n))++[zd t]) (jL Y bs _ aD ahw) cN rfl rfl rfl rfl rfl zh rfl zh (ag ?_);exact Bb;have h:=of_decide_eq_false h;refine af (λh2=>?_) λh2=>?_
 have h2:=of_decide_eq_true h2;have hc:jf t=false:=by rw[jf,xv,h2];rfl
 rw[sL hc,CN,if_neg h,if_pos h2,ei,lE];refine aA (Sj t.n h0 h1) ?_;refine aj hg.ok hg.cm hg.wide hg.Y [0,1] (pE (kA bs (Lib.itoa t.n))++[zd t]) (jL Y bs _ hi.2 aq) cN rfl rfl rfl rfl rfl zh rfl zh (ag ?_);exact Bb;have h2:=of_decide_eq_false h2;refine aA (Gu t) ?_;refine af (λh3=>?_) λh3=>?_
 refine aj hg.ok hg.cm hg.wide hg.Y [0,1] (pE (fJ bs (u3 t))++[zd t]) (CT h3 Y bs) cN rfl rfl rfl rfl rfl (by rw [mO _ rfl rfl]; rfl) rfl (by rw [mO _ rfl rfl]; rfl) (ag ?_);exact Bb;rw[sL h3,CN,if_neg h,if_neg h2,ei];have hn:=UL t.s.data.toList ha aq;rw[show UI t.s.data.toList=.d (.v (.string t.s)) by rw[UI,Ib]]at hn;have X8:=Uy t.s.data.toList;refine aA (hn) ?_;generalize Sf:kA bs (qk t.s.data.toList)=b1;refine aj hg.ok hg.cm hg.wide hg.Y [0,1] (pE b1++[zd t]) (Sf ▸ jL Y bs _ (LA _) aq) cN rfl rfl rfl rfl rfl zh rfl zh (ag ?_);refine a7 (λq:Nat×Bs=>([(0,.lo 0 0),(3,.lo 2 0),(12,.d (.sl (Tm.aa t.l))),(13,iV t.l.length),(14,iV q.1)],pE q.2++[zd t])) (λq=>q.1<=t.l.length/\fJ q.2 (lV (q.1==0) (t.l.drop q.1))=fJ b1 (lV true t.l)) (λq=>t.l.length-q.1) (0,b1) ⟨bU _,rfl⟩ ⟨.refl _,.refl _,.refl _,by rw[mF];exact .refl _,.refl _,trivial⟩ rfl ?_;rintro⟨k,b⟩ ⟨hk,hm⟩;simp only at hk hm;refine ag ?_;refine af (λh=>?_) λh=>?_
 have aI:k<t.l.length:=bo h rfl;have e1:t.l[k]? = some t.l[k]:=dG aI;refine cJ (Tm.ay e1) ?_;refine agl hg.ok rfl rfl rfl rfl ?_;have ai2:min (k:Int) 1=((if k=0 then 0 else 1:Nat):Int):=by split<;>omega
 rw[ai2];refine ag ?_;have jS:([[D.v (.string ⟨#[40]⟩)],[D.v (.string ⟨#[44]⟩)]]:List (List D))[if k=0 then 0 else 1]? = some [D.v (.string (Tx (if k==0 then [40]else [44])))]:=by by_cases h0:k=0<;>simp[h0]<;>rfl
 refine cJ jS ?_;have hp0:(if k==0 then [40]else [44]:Bs)≠[]:=by split<;>simp
 have yF:(if k==0 then [40]else [44]:Bs).length<=1000000000:=by split<;>simp
 rw[OT b _ e1,ei,lD]at hm;refine aj hg.ok hg.cm hg.wide hg.Y [0,1] (pE (kA b (if k==0 then [40]else [44]))++[zd t,zd t.l[k]]) (jL Y b _ hp0 yF) cN rfl rfl rfl rfl rfl zh rfl zh (ag ?_);refine aj hg.ok hg.cm hg.wide hg.Y [0,1] (pE (fJ (kA b (if k==0 then [40]else [44])) (u3 t.l[k]))++[zd t,zd t.l[k]]) (eV _ (dy aI) Y _) cN rfl rfl rfl rfl rfl zh rfl zh (ag ?_);refine bf 3 (pE (fJ (kA b (if k==0 then [40]else [44])) (u3 t.l[k]))++[zd t]) (by show φ.length<=3;exact Nat.le_succ_of_le (Nat.le_of_eq hg.kh.len)) rfl (UM _ t t.l[k]) ?_;refine bb (k+1,fJ (kA b (if k==0 then [40]else [44])) (u3 t.l[k])) ⟨aI,?_⟩ (by show t.l.length-(k+1)<t.l.length-k;omega) JW rfl;rw[<-hm];rfl;have mn:t.l.length<=k:=bw h rfl;rw[cX mn,lV,lE]at hm;rw[lD,<-hm];refine af (λh5=>?_) λh5=>?_
 have h5:=of_decide_eq_true h5;have he:t.l.isEmpty=false:=by cases hc:t.l with|nil=>rw[mF,hc]at h5;simp at h5|cons c r=>rfl
 rw[he];refine aj hg.ok hg.cm hg.wide hg.Y [0,1] (pE (kA b [41])++[zd t]) (jL Y b [41] aD aD) cN rfl rfl rfl rfl rfl zh rfl zh (ag ?_);exact Bb;have h5:=of_decide_eq_false h5;have he:t.l.isEmpty=true:=by cases hc:t.l with|nil=>rfl|cons c r=>rw[mF,hc]at h5;simp at h5<;>omega
 rw[he];exact Bb
theorem OY (t:Tm)(ho:LG t)(hc:jf t=true)(eV:∀x,LG x->x.size<t.size->WrT x):WrL t:=by
 intro Y bs;obtain⟨a,b,hl⟩:=Ic hc;have Hy:∀x∈t.l,LG x:=by cases ho;assumption
 have hsz:∀x∈t.l,x.size<t.size:=λx hx=>by have:=Tm.b8 hx;rw[Tm.size_eq t];omega
 rw[LF hc hl,ei,lD];have e0:t.l[0]? = some a:=by rw[hl];rfl
 have e1:t.l[1]? = some b:=by rw[hl];rfl
 have ma:a∈t.l:=by rw[hl];simp
 have mb:b∈t.l:=by rw[hl];simp
 refine u0 Tryz.func190 λw S φ hg=>?_
 refine aj hg.ok hg.cm hg.wide hg.Y [0,1] (pE (kA bs [91])++[zd t]) (jL Y bs [91] aD aD) cN rfl rfl rfl rfl rfl zh rfl zh (ag ?_);refine dX hg.ok rfl rfl rfl rfl rfl rfl (kH _) (Tm.ay e0) rfl (ag ?_);refine aj hg.ok hg.cm hg.wide hg.Y [0,1] (pE (fJ (kA bs [91]) (u3 a))++[zd t]) (eV a (Hy a ma) (hsz a ma) Y _) cN rfl rfl rfl rfl rfl zh rfl zh (ag ?_);refine dX hg.ok rfl rfl rfl rfl rfl rfl eA (Tm.ay e1) rfl (ag ?_);generalize Sf:fJ (kA bs [91]) (u3 a)=b1;refine a7 (λq:Tm×Bs=>([(0,.lo 0 0),(3,.lo 2 0)],pE q.2++[zd q.1])) (λq=>LG q.1/\q.1.size<t.size/\fJ q.2 (sK q.1)=fJ b1 (sK b)) (λq=>q.1.size) (b,b1) ⟨Hy b mb,hsz b mb,rfl⟩ Bj rfl ?_;rintro⟨x,c⟩ ⟨ov,hs1,hm⟩;simp only at ov hs1 hm;refine ag ?_;refine aA (Gu x) ?_;refine af (λh=>?_) λh=>?_
 obtain ⟨a2,b2,ky⟩:=Ic h;have f0:x.l[0]? = some a2:=by rw[ky];rfl
 have f1:x.l[1]? = some b2:=by rw[ky];rfl
 have ma2:a2∈x.l:=by rw[ky];simp
 have mb2:b2∈x.l:=by rw[ky];simp
 have anB:∀y∈x.l,LG y:=by cases ov;assumption
 have EF:∀y∈x.l,y.size<x.size:=λy hy=>by have:=Tm.b8 hy;rw[Tm.size_eq x];omega
 rw[OS h ky,ei,lD]at hm;refine aj hg.ok hg.cm hg.wide hg.Y [0,1] (pE (kA c [44])++[zd x]) (jL Y c [44] aD aD) cN rfl rfl rfl rfl rfl zh rfl zh (ag ?_);refine dX hg.ok rfl rfl rfl rfl rfl rfl (kH _) (Tm.ay f0) rfl (ag ?_);refine aj hg.ok hg.cm hg.wide hg.Y [0,1] (pE (fJ (kA c [44]) (u3 a2))++[zd x]) (eV a2 (anB a2 ma2) (by have:=EF a2 ma2;omega) Y _) cN rfl rfl rfl rfl rfl zh rfl zh (ag ?_);refine dX hg.ok rfl rfl rfl rfl rfl rfl eA (Tm.ay f1) rfl (ag ?_);exact bb (b2,fJ (kA c [44]) (u3 a2)) ⟨anB b2 mb2,by have:=EF b2 mb2;show b2.size<t.size;omega,hm⟩ (EF b2 mb2) Bj rfl;have hxl:=Tm.ao x.l;have e3:aX x.s ⟨#[91,93]⟩=(x.s.data.toList==[91,93]):=by have:=CL x.s.data.toList [91,93];rw[Ib]at this;exact this
 refine af (λh5=>?_) λh5=>?_
 have hn:CM x.k x.s x.l=false:=by simp at h5; simp [CM,h5]
 rw[vN h hn,ei,lD,ei,lE]at hm;rw[<-hm];refine ag4 ?_;refine ag5 ?_;refine ag3 ?_;exact Bb;have k3:x.k=3:=by simp at h5;omega
 refine af (λh6=>?_) λh6=>?_
 have hn:CM x.k x.s x.l=false:=by rw [e3]at h6; simp at h6; simp [CM,h6]
 rw[vN h hn,ei,lD,ei,lE]at hm;rw[<-hm];refine ag4 ?_;refine ag5 ?_;refine ag3 ?_;exact Bb;rw[e3]at h6;refine af (λh7=>?_) λh7=>?_
 have hn:CM x.k x.s x.l=false:=by
  have h7:=of_decide_eq_true h7;rw[hxl]at h7;cases Hs:x.l with
  |nil=>rw[Hs]at h7;simp at h7
  |cons p q=>simp[CM]
 rw[vN h hn,ei,lD,ei,lE]at hm;rw[<-hm];refine ag4 ?_;refine ag5 ?_;refine ag3 ?_;exact Bb
 have hn:CM x.k x.s x.l=true:=by
  have h7:=of_decide_eq_false h7;rw[hxl]at h7;cases Hs:x.l with
  |nil=>simp at h6;simp[CM,k3,h6]
  |cons p q=>rw[Hs]at h7;simp at h7<;>omega
 rw[Uz h hn,ei,lE]at hm;rw[<-hm];refine aj hg.ok hg.cm hg.wide hg.Y [0,1] (pE (kA c [93])++[zd x]) (jL Y _ [93] aD aD) cN rfl rfl rfl rfl rfl zh rfl zh (ag ?_);exact Bb
theorem vO:∀(n:Nat) (t:Tm),t.size<=n->LG t->WrT t
 |0,t,h,_=>by have:=Tm.size_eq t;omega
 |n+1,t,h,ho=>by
  have Hy:∀x∈t.l,LG x:=by cases ho;assumption
  refine OX t ho (λhc=>OY t ho hc λx hx hs=>vO n x aq hx) λx hx=>vO n x (by have:=Tm.b8 hx;have:=Tm.size_eq t;omega) (Hy x hx)
theorem UN (t:Tm)(ho:LG t):WrT t:=vO _ t cZ ho
theorem LR {b:Bs}(h:b≠[]):∀(l:List Bs),fJ b l≠[]|[]=>h|x::r=>by rw[ei];refine LR ?_ r;unfold kA;split;simp[h];exact h
theorem ai3 {t:Tm}(ho:LG t):∃x r,u3 t=x::r/\x≠[]:=by obtain⟨ha,hl,h0,h1,hn,_⟩:=ho;have hi:=LH t.n h0 h1;cases hc:jf t;rw [sL hc,CN];split;exact⟨_,_,rfl,by simp⟩;split;exact⟨_,_,rfl,hi.2⟩;exact⟨_,_,rfl,LA _⟩;obtain ⟨a,b,hl⟩:=Ic hc;rw[LF hc hl];exact⟨_,_,rfl,by simp⟩
theorem Ij {t:Tm}(ho:LG t):fJ [] (u3 t)≠[]:=by obtain⟨x,r,h1,h2⟩:=ai3 ho;rw[h1,ei];exact LR (adg h2) r
def sM (t:Tm):Bs×Int:=if de t then(if(fJ [] (u3 t)).length<=8000 then(fJ [] (u3 t),0)else([],3))else([],1)
def anC (b:Bs):List Ob:=[.gZ 254 [.lo 1 0,.ow 2 b.length],.qG 5 b.length b]
theorem Ik (t:Tm)(hd:t.size<1000000000)(hs:∀e∈t.gX 1,e.2.s.size<1000000000)(ho:de t=true->LG t):br Tryz.prog 163 [t.av] (.cP [UI (sM t).1,iV (sM t).2]):=by
 refine v8 Tryz.func163 λw S hg=>?_
 refine aA (fe t hd hs) ?_;refine iG (λh=>?_) λh=>?_
 refine ag ?_;refine bz ?_;rw[sM,if_neg ln];rfl;have h:de t=true:=by simpa using h
 have ho:=ho h;have dR:=Ij ho;refine eW hg.ok 4 rfl rfl ?_;refine oX ?_;refine aiY hg.ok rfl rfl rfl ?_;refine wo ?_;refine aiZ 1 1 5 rfl rfl rfl (ag ?_);refine aj hg.ok hg.cm ⟨rfl,rfl⟩ (λi l I B h=>by simp[Rv]at h) [1,2] ([zd t]++anC (fJ [] (u3 t))) (UN t ho ⟨[],λ_=>true⟩ []) (λ⟨i,l,I,B,h⟩=>by simp[Rv]at h) rfl rfl rfl rfl rfl rfl rfl (by rw[xy dR];rfl) (ag ?_);generalize hR:fJ [] (u3 t)=R at dR;refine aj hg.ok hg.cm ⟨rfl,rfl⟩ (λi l I B h=>by simp[Rv]at h) [1,2] ([zd t]++anC R) (CS ⟨[],λ_=>true⟩ R.length (.lo 0 0) R (.inl rfl)) (λ⟨i,l,I,B,h⟩=>by simp[Rv]at h) rfl rfl rfl rfl rfl rfl rfl rfl (ag ?_);refine af (λh2=>?_) λh2=>?_
 have h2:=of_decide_eq_true h2;refine bz ?_;rw[sM,if_pos h,hR,if_neg aq];rfl;have h2:=of_decide_eq_false h2;refine aj hg.ok hg.cm ⟨rfl,rfl⟩ (λi l I B h=>by simp[Rv]at h) [1,2] [zd t,.gZ 254 [.lo 1 0,.ow 2 R.length],.dead] (LO ⟨[],λ_=>true⟩ (.lo 0 0) R.length R (.inl rfl) dR aq) (λ⟨i,l,I,B,h⟩=>by simp[Rv]at h) rfl rfl rfl rfl rfl rfl rfl rfl (ag ?_);refine bz ?_;rw[sM,if_pos h,hR,if_pos aq];rfl
end Go.Proofs.YtmjmngigbachdaaGreatDoor

namespace ax
open Go
theorem ai4 (t:Tm):Tm.bA t=true->t.Fit->LG t:=by
 induction t using Tm.ind with
 |h t ih=>
  intro hf hn;rw[Tm.kO]at hf;simp only[aV]at hf;obtain⟨⟨h1,h2⟩,h3⟩:=hf;have hb:∀c∈t.s.data.toList,c.toNat<128:=λc hc=>by have:=fB.1 h1 c hc;simp[gG]at this;omega
  have hi:=hn 0 (0,t) WX;have eV:∀x∈t.l,LG x:=λx hx=>ih x hx (Tm.fz.1 h2 x hx) (Tm.Fit.sub hn hx)
  have Rk:t.s.data.toList.length=t.s.size:=rfl
  have hk:t.s.size<=1000/\t.l.length<=1000000:=by
   unfold Tm.l8 at h3;have he:aX t.s ⟨#[]⟩=true->t.s.size=0:=λh=>by rw[Tm.bn.1 h];rfl
   split at h3;simp only [aV,beq_iff_eq]at h3;have:=he h3.1.2;have:=h3.2;omega;split at h3;simp only [aV,beq_iff_eq]at h3;have:=he h3.1;have:=h3.2;omega;simp only [aV,decide_eq_true_eq]at h3;omega
  exact⟨hb,by omega,hi.2.1,hi.2.2,hk.2,eV⟩
end ax

namespace ax
open Go
def ef (t:Tm):Sg:=(t.s,(t.l.length:Int))
def yO:List Bs:=[[61],[92,61],[61,61],[92,61,61],[64,60],[64,62],[64,61,60],[64,62,61],[105,115],[61,58,61],[61,92,61],[60],[62],[61,60],[62,61],[61,46,46]]
def yP:List (Bs×Int):=[([102,97,105,108],0),([110,108],0),([118,97,114],1),([110,111,110,118,97,114],1),([97,116,111,109],1),([105,110,116,101,103,101,114],1),([119,114,105,116,101],1),([102,117,110,99,116,111,114],3),([97,114,103],3)]
def Il (n:Int):List (Bs×Int):=[([116,114,117,101],0),([33],0),([44],2),([59],2),([45,62],2),([92,43],1),([58,45],2),([63],n)]
def anyS (l:List (Bs×Int))(p:Sg):Bool:=l.any λx=>decide ((Tx x.1,x.2)=p)
def ku (p:Sg):Bool:=anyS (yO.map λs=>(s,2)) p||anyS yP p
def Ip (p:Sg):Bool:=anyS (Il p.2) p
def nV (t:Tm):Bool:=(t.k==3)&&!ku (ef t)&&!Ip (ef t)
def iy (t:Tm):Bool:=(t.k==0)&&aX t.s ⟨#[]⟩&&(t.n==0)&&decide (t.l.length=0)
theorem UO (t:Tm):t.same aJ=iy t:=by
 rw[Tm.wY];unfold iy aJ;have h1:Tm.gJ t.l []=decide (t.l.length=0):=by cases t.l<;>simp[Tm.gJ]
 show((t.k==0)&&(t.n==0)&&aX t.s ⟨#[]⟩&&Tm.gJ t.l [])=_
 grind
def q6 (v:Int)(t:Tm):Bool:=de t&&(bP [t]).all λx=>decide (x<v)
def fX (a b c:List Gl):Bool:=decide (a.length+b.length+c.length=0)
mutual
def iW (v:Int):Gl->Int->Int->Bool->Bool×Int
 | .mk k t a b c,left,ak,aE=>
  if k=1 then(fX a b c&&q6 v t&&nV t,left)
  else if k=2 then(fX a b c&&q6 v t&&(t.k==3)&&ku (ef t),left)
  else if k=3 then(fX a b c&&iy t&&aE,left)
  else if k=4 then
   if iy t then
    if (cA v a left (ak+1) false).1 then
     if(cA v b (cA v a left (ak+1) false).2 (ak+1) aE).1 then cA v c (cA v b (cA v a left (ak+1) false).2 (ak+1) aE).2 (ak+1) aE
     else(false,(cA v b (cA v a left (ak+1) false).2 (ak+1) aE).2)
    else(false,(cA v a left (ak+1) false).2)
   else(false,left)
  else if k=5 then(if iy t&&decide (b.length+c.length=0)then cA v a left (ak+1) false else(false,left))
  else(false,left)
def cA (v:Int):List Gl->Int->Int->Bool->Bool×Int|[],left,_,_=>(true,left)|g::r,left,ak,aE=>if !(iW v g (left-1) ak aE).1||decide ((iW v g (left-1) ak aE).2<0)||decide (10<ak)then(false,(iW v g (left-1) ak aE).2)else cA v r (iW v g (left-1) ak aE).2 ak aE
end
def iX (x:Cs):Bool:=decide (0<=x.vars)&&decide (x.vars<=1000)&&q6 x.vars x.head&&nV x.head&&(cA x.vars x.body 20 1 true).1
mutual
def yQ (has:Sg->Bool):Gl->Bool| .mk k t a b c=>!((k==1)&&!has (ef t))&&bm has a&&bm has b&&bm has c
def bm (has:Sg->Bool):List Gl->Bool|[]=>true|g::r=>yQ has g&&bm has r
end
def eO (l:List Cs)(p:Sg):Bool:=l.any λc=>decide (ef c.head=p)
def fG {α:Type} (p:α->Bool):List α->Nat->Option Nat|[],_=>none|x::r,i=>if p x then fG p r (i+1)else some i
def fH (l:List Cs):Int×Int :=
 if 200<l.length then(200,3)
 else match fG iX l 0 with
  |some i=>((i:Int),1)
  |none=>match fG (λc=>bm (eO l) c.body) l 0 with
   |some i=>((i:Int),9)
   |none=>(0,0)
def nW (v:Int)(t:Tm):Bool:=(bP [t]).all (λx=>decide (x<v))&&t.bB
def oQ (v:Int):Gl->Bool
 | .mk k t a b c=>
  if k=1 then fX a b c&&nV t&&nW v t
  else if k=2 then fX a b c&&(t.k==3)&&ku (ef t)&&nW v t
  else if k=3 then fX a b c&&iy t
  else iy t&&((k==4)||(k==5)&&decide (b.length+c.length=0))
mutual
def uz (v:Int):Gl->Int->Bool->Int
 | .mk k t a b c,ak,aE=>
  if !oQ v (.mk k t a b c)||((k==3)&&!aE)then -1
  else if(if a.length≠0/\10<ak+1 then -1 else jT v a (ak+1) false)<0\/(if b.length≠0/\10<ak+1 then -1 else jT v b (ak+1) aE)<0\/(if c.length≠0/\10<ak+1 then -1 else jT v c (ak+1) aE)<0 then -1
  else 1+(if a.length≠0/\10<ak+1 then -1 else jT v a (ak+1) false)+(if b.length≠0/\10<ak+1 then -1 else jT v b (ak+1) aE)+(if c.length≠0/\10<ak+1 then -1 else jT v c (ak+1) aE)
def jT (v:Int):List Gl->Int->Bool->Int|[],_,_=>0|g::r,ak,aE=>if uz v g ak aE<0 then -1 else if jT v r ak aE<0 then -1 else uz v g ak aE+jT v r ak aE
end
def gS (v:Int)(l:List Gl)(ak:Int)(aE:Bool):Int:=if l.length≠0/\10<ak then -1 else jT v l ak aE
theorem xz (v:Int)(g:Gl)(ak:Int)(aE:Bool):uz v g ak aE=if !oQ v g||((g.k==3)&&!aE)then -1 else if gS v g.a (ak+1) false<0\/gS v g.b (ak+1) aE<0\/gS v g.c (ak+1) aE<0 then -1 else 1+gS v g.a (ak+1) false+gS v g.b (ak+1) aE+gS v g.c (ak+1) aE:=by cases g;rw[uz];rfl
theorem kR (v:Int)(g:Gl)(left ak:Int)(aE:Bool):iW v g left ak aE =
  if g.k=1 then(fX g.a g.b g.c&&q6 v g.t&&nV g.t,left)
  else if g.k=2 then(fX g.a g.b g.c&&q6 v g.t&&(g.t.k==3)&&ku (ef g.t),left)
  else if g.k=3 then(fX g.a g.b g.c&&iy g.t&&aE,left)
  else if g.k=4 then
   if iy g.t then
    if (cA v g.a left (ak+1) false).1 then
     if(cA v g.b (cA v g.a left (ak+1) false).2 (ak+1) aE).1 then cA v g.c (cA v g.b (cA v g.a left (ak+1) false).2 (ak+1) aE).2 (ak+1) aE
     else(false,(cA v g.b (cA v g.a left (ak+1) false).2 (ak+1) aE).2)
    else(false,(cA v g.a left (ak+1) false).2)
   else(false,left)
  else if g.k=5 then(if iy g.t&&decide (g.b.length+g.c.length=0)then cA v g.a left (ak+1) false else(false,left))
  else(false,left):=by
 cases g;rw[iW];rfl
def adp (x:Cs):Bool:=decide (0<=x.vars)&&decide (x.vars<=1000)&&nW x.vars x.head&&nV x.head&&decide (0<=gS x.vars x.body 1 true)&&decide (gS x.vars x.body 1 true<=20)
theorem xA (v:Int)(t:Tm):q6 v t=nW v t:=by unfold q6 nW;rw[cV,Bool.and_comm]
theorem nX (v:Int):∀(l:List Gl) (ak:Int) (aE:Bool),-1<=gS v l ak aE:=by
 have h1:∀(g:Gl) (ak:Int) (aE:Bool),-1<=uz v g ak aE:=λg ak aE=>by rw[xz];split;omega;split;omega;omega
 have h2:∀(l:List Gl) (ak:Int) (aE:Bool),-1<=jT v l ak aE:=λl=>by
  induction l with
  |nil=>intro _ _;simp[jT]
  |cons g r ih=>intro ak aE;simp only[jT];split;omega;split;omega;omega
 intro l ak aE;unfold gS;grind
def Zr (v:Int)(l:List Gl):Prop:=∀(left ak:Int) (aE:Bool),((cA v l left ak aE).1=true↔0<=gS v l ak aE/\(l.length=0\/gS v l ak aE<=left))/\((cA v l left ak aE).1=true->(cA v l left ak aE).2=left-gS v l ak aE)/\(cA v l left ak aE).2<=left
theorem iQ {v:Int}{l:List Gl}{ak:Int}{aE:Bool}(h:l.length=0):gS v l ak aE=0:=by have:l=[]:=kG.1 h;subst this;simp[gS,jT]
theorem agy {v:Int}{g:Gl}(ha:Zr v g.a)(hb:Zr v g.b)(hc:Zr v g.c)(left ak:Int)(aE:Bool) :
  ((iW v g left ak aE).1=true/\0<=(iW v g left ak aE).2↔0<=uz v g ak aE/\uz v g ak aE<=left+1)/\((iW v g left ak aE).1=true->0<=(iW v g left ak aE).2->(iW v g left ak aE).2=left+1-uz v g ak aE)/\(iW v g left ak aE).2<=left:=by
 rw[kR,xz];have dR:fX g.a g.b g.c=true->g.a.length=0/\g.b.length=0/\g.c.length=0:=λh=>by unfold fX at h;have:=of_decide_eq_true h;omega
 by_cases h1:g.k=1;have hf:oQ v g=(fX g.a g.b g.c&&nV g.t&&nW v g.t):=by cases g; simp only [Gl.k]at h1; simp [oQ,h1,Gl.a,Gl.b,Gl.c,Gl.t]
 rw[if_pos h1,hf,h1,xA];cases hn:fX g.a g.b g.c with
 |false=>simp
 |true=>obtain⟨n1,n2,n3⟩:=dR hn;rw[iQ n1,iQ n2,iQ n3];cases nV g.t<;>cases nW v g.t<;>simp<;>omega
 rw[if_neg h1];by_cases h2:g.k=2;have hf:oQ v g=(fX g.a g.b g.c&&(g.t.k==3)&&ku (ef g.t)&&nW v g.t):=by cases g; simp only [Gl.k]at h2; simp [oQ,h2,Gl.a,Gl.b,Gl.c,Gl.t]
 rw[if_pos h2,hf,h2,xA];cases hn:fX g.a g.b g.c with
 |false=>simp
 |true=>obtain⟨n1,n2,n3⟩:=dR hn;rw[iQ n1,iQ n2,iQ n3];cases (g.t.k==3)<;>cases ku (ef g.t)<;>cases nW v g.t<;>simp<;>omega
 rw[if_neg h2];by_cases h3:g.k=3;have hf:oQ v g=(fX g.a g.b g.c&&iy g.t):=by cases g; simp only [Gl.k]at h3; simp [oQ,h3,Gl.a,Gl.b,Gl.c,Gl.t]
 rw[if_pos h3,hf,h3];cases hn:fX g.a g.b g.c with
 |false=>simp
 |true=>obtain⟨n1,n2,n3⟩:=dR hn;rw[iQ n1,iQ n2,iQ n3];cases iy g.t<;>cases aE<;>simp<;>omega
 rw[if_neg h3];have hf:oQ v g=(iy g.t&&((g.k==4)||(g.k==5)&&decide (g.b.length+g.c.length=0))):=by cases g;simp only[Gl.k]at h1 h2 h3;simp[oQ,h1,h2,h3,Gl.k,Gl.b,Gl.c,Gl.t]
 rw[hf];have h3':(g.k==3)=false:=by simpa using h3
 have ga:=nX v g.a (ak+1) false;have gb:=nX v g.b (ak+1) aE;have gc:=nX v g.c (ak+1) aE;by_cases h4:g.k=4;rw [if_pos h4,h3',h4];cases hn:iy g.t with
 |false=>simp
 |true=>
  obtain⟨a1,a2,a3⟩:=ha left (ak+1) false;simp only[if_true,iu,rA,Kh,show((4:Int)==4)=true from rfl,Bool.true_or,u9,lq,if_false];generalize gS v g.a (ak+1) false=ca at *;cases hA:(cA v g.a left (ak+1) false).1 with
  |false=>rw[hA]at a1;simp only[lq,false_iff,if_false,false_and]at a1 ⊢;exact acj
  |true=>
   rw[hA]at a1;simp only[if_true,true_iff]at a1 ⊢;have a2:=a2 hA;rw[a2];obtain⟨b1,b2,b3⟩:=hb (left-ca) (ak+1) aE;generalize gS v g.b (ak+1) aE=cb at *;cases hB:(cA v g.b (left-ca) (ak+1) aE).1 with
   |false=>rw[hB]at b1;simp only[lq,false_iff,if_false,false_and]at b1 ⊢;exact acj
   |true=>
    rw[hB]at b1;simp only[if_true,true_iff]at b1 ⊢;have b2:=b2 hB;rw[b2];obtain⟨c1,c2,c3⟩:=hc (left-ca-cb) (ak+1) aE;generalize gS v g.c (ak+1) aE=cc at *;cases hC:(cA v g.c (left-ca-cb) (ak+1) aE).1 with
    |false=>rw[hC]at c1;simp only[lq,false_iff,false_and]at c1 ⊢;exact acj
    |true=>rw[hC]at c1;simp only[true_iff,true_and]at c1 ⊢;have c2:=c2 hC;rw[c2];rw[if_neg aq];exact⟨by omega,λ_ _=>by omega,by omega⟩
 rw[if_neg h4];have h4':(g.k==4)=false:=by simpa using h4
 rw[h4',h3'];by_cases h5:g.k=5;rw [if_pos h5,h5];cases hn:iy g.t with
 |false=>simp
 |true=>
  by_cases hbc:g.b.length+g.c.length=0;obtain ⟨a1,a2,a3⟩:=ha left (ak+1) false;rw[iQ (l:=g.b) aq,iQ (l:=g.c) aq];simp only[hbc,decide_true,Bool.and_true,iu,uq,show((5:Int)==5)=true from rfl,u9,rA,if_true,lq,if_false];generalize gS v g.a (ak+1) false=ca at *;cases hA:(cA v g.a left (ak+1) false).1 with
  |false=>rw[hA]at a1;simp only[lq,false_iff,false_and]at a1 ⊢;exact acj
  |true=>rw[hA]at a1;simp only[true_iff,true_and]at a1 ⊢;have a2:=a2 hA;rw[a2,if_neg aq];exact⟨by omega,λ_ _=>by omega,by omega⟩
  have hd:decide (g.b.length+g.c.length=0)=false:=decide_eq_false hbc;rw[hd];simp
 simp_all
theorem Gv (v:Int)(l:List Gl):Zr v l:=by
 refine Gl.Cx (p:=Zr v) (λl=>?_) l;intro eV;induction l with
 |nil=>intro left ak aE;simp[cA,iQ]
 |cons g r ih=>
  obtain⟨ga,gb,gc⟩:=eV g aD;have ih:=ih λx hx=>eV x oZ
  intro left ak aE;obtain⟨p1,p2,p3⟩:=agy ga gb gc (left-1) ak aE;have hn:(g::r).length≠0:=by simp
  simp only[cA];have Ii:gS v (g::r) ak aE=if 10<ak then -1 else if uz v g ak aE<0 then -1 else if jT v r ak aE<0 then -1 else uz v g ak aE+jT v r ak aE:=by unfold gS;by_cases hd:10<ak;rw[if_pos ⟨hn,hd⟩,if_pos hd];rw[if_neg (λh=>hd h.2),if_neg hd];simp only[jT]
  have hr:¬ 10<ak->gS v r ak aE=jT v r ak aE:=λhd=>by unfold gS;rw[if_neg (λh=>hd h.2)]
  have anD:0<=uz v g ak aE->1<=uz v g ak aE:=λh=>by rw[xz]at h ⊢;split at h;omega;rename_i hf;rw[if_neg hf];split at h;omega;rename_i hq;rw[if_neg hq];have:=nX v g.a (ak+1) false;have:=nX v g.b (ak+1) aE;have:=nX v g.c (ak+1) aE;omega
  rw[Ii];generalize uz v g ak aE=cg at *;obtain⟨q1,q2,q3⟩:=ih (iW v g (left-1) ak aE).2 ak aE;generalize iW v g (left-1) ak aE=x at *;obtain⟨xb,xl⟩:=x;simp only at p1 p2 p3 q1 q2 q3 ⊢;have hgr:=nX v r ak aE;by_cases hd:10<ak;have:(!xb||decide (xl<0)||decide (10<ak))=true:=by simp [hd]
  rw[if_pos this,if_pos hd];exact⟨⟨(λh=>by cases h),λh=>by omega⟩,(λh=>by cases h),by simp only;omega⟩;rw[if_neg hd];rw[hr hd]at q1 q2 hgr;generalize jT v r ak aE=cr at *;by_cases hx:xb=true/\0<=xl;have:(!xb||decide (xl<0)||decide (10<ak))=false:=by simp [hd,hx.1]; omega
  rw[if_neg (by rw[this];simp)];have hp:=p1.1 hx;have hp2:=p2 hx.1 hx.2;have hp3:=anD hp.1;rw[if_neg aq];refine⟨q1.trans ⟨λh=>?_,λh=>?_⟩,λh=>?_,by omega⟩;rw [if_neg aq];refine⟨by omega,.inr ?_⟩;rcases h.2 with h2|h2
  have:cr=0:=by have h4:=hr hd;have:r=[]:=kG.1 h2;subst this;rw[iQ rfl]at h4;exact h4.symm
  omega;omega;split at h;omega;refine⟨by omega,.inr aq⟩;have h2:=q2 h;have h3:=(q1.1 h).1;rw[if_neg aq];omega;grind
theorem LS (x:Cs):iX x=adp x:=by
 unfold iX adp;rw[xA];obtain⟨h,_⟩:=Gv x.vars x.body 20 1 true
 have:(cA x.vars x.body 20 1 true).1=(decide (0<=gS x.vars x.body 1 true)&&decide (gS x.vars x.body 1 true<=20)):=by
  rw[o5,h];simp only[aV,decide_eq_true_eq];constructor;rintro ⟨h1,h2⟩;refine⟨h1,?_⟩;rcases h2 with h2|h2
  rw[iQ h2];omega;exact h2;rintro ⟨h1,h2⟩;exact⟨h1,.inr h2⟩
 grind
end ax

namespace ax
open Go
theorem Zs (x:Bs)(c:Int)(s:ByteArray)(n:Int):decide ((Tx x,c)=(s,n))=(aX s (Tx x)&&(n==c)):=by rw[o5];simp only[decide_eq_true_eq,Prod.mk.injEq,aV,beq_iff_eq,Tm.bn];grind
def ai5 (s:ByteArray)(n:Int):Bool:=((n==2)&&(aX s ⟨#[61]⟩ || aX s ⟨#[92,61]⟩ || aX s ⟨#[61,61]⟩ || aX s ⟨#[92,61,61]⟩ || aX s ⟨#[64,60]⟩ || aX s ⟨#[64,62]⟩ || aX s ⟨#[64,61,60]⟩ || aX s ⟨#[64,62,61]⟩ || aX s ⟨#[105,115]⟩ || aX s ⟨#[61,58,61]⟩ || aX s ⟨#[61,92,61]⟩ || aX s ⟨#[60]⟩ || aX s ⟨#[62]⟩ || aX s ⟨#[61,60]⟩ || aX s ⟨#[62,61]⟩ || aX s ⟨#[61,46,46]⟩))||((n==1)&&(aX s ⟨#[118,97,114]⟩ || aX s ⟨#[110,111,110,118,97,114]⟩ || aX s ⟨#[97,116,111,109]⟩ || aX s ⟨#[105,110,116,101,103,101,114]⟩ || aX s ⟨#[119,114,105,116,101]⟩))||((n==0)&&(aX s ⟨#[102,97,105,108]⟩ || aX s ⟨#[110,108]⟩))||((n==3)&&(aX s ⟨#[102,117,110,99,116,111,114]⟩ || aX s ⟨#[97,114,103]⟩))
def ai6 (s:ByteArray)(n:Int):Bool:=aX s ⟨#[63]⟩ || ((n==0)&&(aX s ⟨#[116,114,117,101]⟩ || aX s ⟨#[33]⟩))||((n==1)&&aX s ⟨#[92,43]⟩)||((n==2)&&(aX s ⟨#[44]⟩ || aX s ⟨#[59]⟩ || aX s ⟨#[45,62]⟩ || aX s ⟨#[58,45]⟩))
theorem adq (s:ByteArray)(n:Int):ku (s,n)=ai5 s n:=by unfold ku ai5 anyS;simp only[yO,yP,bM,fm,List.any_cons,List.any_nil,Zs,Kh];simp only[Tx];grind
theorem adr (s:ByteArray)(n:Int):Ip (s,n)=ai6 s n:=by unfold Ip ai6 anyS;simp only[Il,bM,fm,List.any_cons,List.any_nil,Zs,Kh,BEq.rfl,Bool.and_true];simp only[Tx];grind
end ax
namespace ax
open Go
mutual
def ads (P:Tm->Prop):Gl->Prop| .mk _ t a b c=>P t/\fv P a/\fv P b/\fv P c
def fv (P:Tm->Prop):List Gl->Prop|[]=>True|g::r=>ads P g/\fv P r
end
theorem Iq (P:Tm->Prop)(g:Gl):ads P g↔P g.t/\fv P g.a/\fv P g.b/\fv P g.c:=by cases g;rw[ads];rfl
theorem tN {P:Tm->Prop}:∀{l:List Gl},fv P l->∀g∈l,P g.t/\fv P g.a/\fv P g.b/\fv P g.c
 |[],_,g,h=>by cases h
 |x::r,h,g,hg=>by
  simp only[fv]at h;rcases cE.1 hg with rfl|hg
  exact(Iq P g).1 h.1;exact tN h.2 g hg
theorem LU {P:Tm->Prop}:∀{l:List Gl},(∀g∈l,P g.t/\fv P g.a/\fv P g.b/\fv P g.c)->fv P l|[],_=>by simp only[fv]|x::r,h=>by simp only[fv];exact⟨(Iq P x).2 (h x aD),LU λg hg=>h g (by simp[hg])⟩
theorem tO (v:Int)(l:List Gl):∀(left ak:Int) (aE:Bool),left-Gl.aw l<=(cA v l left ak aE).2:=by
 refine Gl.Cx (p:=λl=>∀(left ak:Int) (aE:Bool),left-Gl.aw l<=(cA v l left ak aE).2) (λl=>?_) l;intro eV;induction l with
 |nil=>intro left ak aE;simp[cA,Gl.aw]
 |cons g r ih=>
  obtain⟨ga,gb,gc⟩:=eV g aD;have ih:=ih λx hx=>eV x oZ
  intro left ak aE
  have h1:left-g.size<=(iW v g (left-1) ak aE).2:=by
   rw[kR,Gl.size_eq];have:=Gl.uP g.t;split;· simp only;omega
   split;· simp only;omega
   split;· simp only;omega
   split;split;have a1:=ga (left-1) (ak+1) false;split;have b1:=gb (cA v g.a (left-1) (ak+1) false).2 (ak+1) aE;split;have c1:=gc (cA v g.b (cA v g.a (left-1) (ak+1) false).2 (ak+1) aE).2 (ak+1) aE;omega;simp only;omega;simp only;omega;simp only;omega;split;split;have a1:=ga (left-1) (ak+1) false;omega;simp only;omega;simp only;omega
  simp only[cA,Gl.aw];grind
theorem Zt (v:Int)(g:Gl)(left ak:Int)(aE:Bool):left+1-g.size<=(iW v g left ak aE).2/\(iW v g left ak aE).2<=left:=by
 refine⟨?_,(agy (Gv v g.a) (Gv v g.b) (Gv v g.c) left ak aE).2.2⟩;rw[kR,Gl.size_eq];have:=Gl.uP g.t;split;· simp only;omega
 split;· simp only;omega
 split;· simp only;omega
 split;split;have a1:=tO v g.a left (ak+1) false;split;have b1:=tO v g.b (cA v g.a left (ak+1) false).2 (ak+1) aE;split;have c1:=tO v g.c (cA v g.b (cA v g.a left (ak+1) false).2 (ak+1) aE).2 (ak+1) aE;omega;simp only;omega;simp only;omega;simp only;omega;split;split;have a1:=tO v g.a left (ak+1) false;omega;simp only;omega;omega
end ax
namespace ax
open Go
def jg (ks:List Sg)(p:Sg):Bool:=ks.any λq=>decide (q=p)
def EV (ks:List Sg)(p:Sg):List Sg:=if jg ks p then ks else ks++[p]
def Nu (ks:List Sg):List (Sg×AV):=ks.map λp=>(p,bV true)
def dsM (ks:List Sg):List (Value×D):=ks.map λp=>(qB p,.v (.bool true))
def hdS (l:List Cs):List Sg:=l.foldl (λks c=>EV ks (ef c.head)) []
theorem OZ (ks:List Sg):(dsM ks).map (λp=>(p.1,AV.d p.2))=mW (Nu ks):=by unfold dsM mW Nu;rw[kn,kn];rfl
theorem tP (k:Sg)(r:List Sg)(p:Sg):jg (k::r) p=(decide (k=p)||jg r p):=rfl
theorem Sl (ks:List Sg)(p:Sg):EM (Nu ks) p=if jg ks p then some (bV true)else none:=by
 induction ks with
 |nil=>rfl
 |cons k r ih=>
  simp only[Nu,bM,EM]at ih ⊢;by_cases h:k=p;rw[if_pos h,if_pos (by rw[tP,decide_eq_true h];rfl)];have h1:jg (k::r) p=jg r p:=by rw [tP,decide_eq_false h]; rfl
  simp_all
theorem adt (ks:List Sg)(p:Sg):EN (Nu ks) p (bV true)=Nu (EV ks p):=by
 unfold EV;induction ks with
 |nil=>rfl
 |cons k r ih=>
  simp only[Nu,bM,EN]at ih ⊢;by_cases h:k=p;rw[if_pos h,if_pos (by rw[tP,decide_eq_true h];rfl),h];rfl;have h1:jg (k::r) p=jg r p:=by rw [tP,decide_eq_false h]; rfl
  grind
theorem Zu (ks:List Sg)(p q:Sg):jg (EV ks p) q=(jg ks q||decide (p=q)):=by unfold EV;split;grind;unfold jg;simp_all
theorem Zv {f:AV->AV}(h:f (bV true)=bV true)(ks:List Sg):aR f (.map (mW (Nu ks)))=.map (mW (Nu ks)):=by simp[aR,mW,Nu,Function.comp_def,h]
theorem adu (l:List Cs)(q:Sg):jg (hdS l) q=eO l q:=by
 have key:∀(l:List Cs) (ks:List Sg),jg (l.foldl (λks c=>EV ks (ef c.head)) ks) q=(jg ks q||eO l q):=by
  intro l;induction l with
  |nil=>intro ks;simp[eO]
  |cons c r ih=>intro ks;simp only[wC];rw[ih,Zu,Bool.or_assoc];rfl
 have:=key l [];simpa[hdS,jg]using this
theorem tQ (has:Sg->Bool)(g:Gl):yQ has g=(!((g.k==1)&&!has (ef g.t))&&bm has g.a&&bm has g.b&&bm has g.c):=by cases g;rw[yQ];rfl
def SmT (t:Tm):Prop:=t.size<=1000000/\∀x e,e∈t.gX x->e.2.s.size<1000000000
structure Ir (x:Cs):Prop where
 head:SmT x.head
 body:fv SmT x.body
 size:Gl.aw x.body<=1000000
end ax
namespace ax
open Go
theorem O0 (v:Int)(l:List Gl):∀(ak:Int) (aE:Bool),gS v l ak aE<=Gl.aw l:=by
 refine Gl.Cx (p:=λl=>∀(ak:Int) (aE:Bool),gS v l ak aE<=Gl.aw l) (λl=>?_) l;intro eV
 have key:∀ak aE,jT v l ak aE<=Gl.aw l:=by
  induction l with
  |nil=>intro _ _;simp[jT,Gl.aw]
  |cons g r ih=>
   intro ak aE;obtain⟨ga,gb,gc⟩:=eV g aD;have ih:=ih (λx hx=>eV x oZ) ak aE;simp only[jT,Gl.aw];have h1:uz v g ak aE<=g.size:=by rw[xz,Gl.size_eq];have:=Gl.uP g.t;have:=ga (ak+1) false;have:=gb (ak+1) aE;have:=gc (ak+1) aE;split;omega;split<;>omega
   split;omega;split<;>omega
 intro ak aE;unfold gS;grind
def Iu (v:Int)(l:List Gl)(ak:Int)(aE:Bool)(m:Int):Int:=if jT v l ak aE<0 then -1 else m+jT v l ak aE
theorem UP (v:Int)(g:Gl)(r:List Gl)(ak:Int)(aE:Bool)(m:Int):Iu v (g::r) ak aE m=if uz v g ak aE<0 then -1 else Iu v r ak aE (m+uz v g ak aE):=by
 have h2:∀(l:List Gl) ,-1<=jT v l ak aE:=λl=>by
  cases l with
  |nil=>simp[jT]
  |cons g r=>simp only[jT];split;omega;split;omega;omega
 unfold Iu;simp only[jT];omega
mutual
def Zw:Gl->Int->Int->Int| .mk _ t a b c,m,d=>(if d-1<1 then -1 else mg c (if d-1<1 then -1 else mg b (if d-1<1 then -1 else mg a (t.pB m 200) (d-1)) (d-1)) (d-1))
def mg:List Gl->Int->Int->Int|[],m,_=>m|g::r,m,d=>if m ≥ 0 then mg r (Zw g m d) d else m
end
def fh (l:List Gl)(m d:Int):Int:=if d<1 then -1 else mg l m d
theorem LV (g:Gl)(m d:Int):Zw g m d=fh g.c (fh g.b (fh g.a (g.t.pB m 200) (d-1)) (d-1)) (d-1):=by cases g;rw[Zw];rfl
def nY:List Cs->Int->Int|[],m=>m|c::r,m=>if m ≥ 0 then nY r (fh c.body (c.head.pB m 200) 30)else m
def UQ (l:List Cs):Bool:=decide (nY l 3000 ≥ 0)&&decide (l.length<=210)
def FwT (t:Tm):Prop:=∀x e,e∈t.gX x->e.2.s.size<=100
theorem agC (t:Tm){m:Int}(h0:-1<=m)(h1:m<=1000000):-1<=t.pB m 200/\t.pB m 200<=m/\(0<=t.pB m 200->0<=m/\t.pB m 200+t.size<=m/\FwT t):=by obtain⟨a,b,c⟩:=Ur t (m:=m) (d:=200) h0 aq aq;refine⟨a,b,λh=>?_⟩;obtain⟨d,e⟩:=c h;exact⟨by omega,d,e⟩
theorem adw (l:List Gl):∀(m d:Int),-1<=m->m<=1000000->-1<=fh l m d/\fh l m d<=max m (-1)/\(0<=fh l m d->0<=m/\fh l m d+Gl.aw l<=m/\fv FwT l/\1<=d):=by
 refine Gl.Cx (p:=λl=>∀(m d:Int),-1<=m->m<=1000000->-1<=fh l m d/\fh l m d<=max m (-1)/\(0<=fh l m d->0<=m/\fh l m d+Gl.aw l<=m/\fv FwT l/\1<=d)) (λl=>?_) l;intro eV
 have key:∀(m d:Int),-1<=m->m<=1000000->-1<=mg l m d/\mg l m d<=m/\(0<=mg l m d->0<=m/\mg l m d+Gl.aw l<=m/\fv FwT l):=by
  induction l with
  |nil=>intro m d h0 h1;simp only[mg,Gl.aw,fv];exact⟨h0,kH _,λh=>⟨h,by omega,trivial⟩⟩
  |cons g r ih=>
   intro m d h0 h1;obtain⟨ga,gb,gc⟩:=eV g aD;have ih:=ih λx hx=>eV x oZ
   simp only[mg];split;rename_i hm;rw[LV];obtain⟨t1,t2,t3⟩:=agC g.t h0 h1;obtain⟨a1,a2,a3⟩:=ga (g.t.pB m 200) (d-1) t1 aq;obtain⟨b1,b2,b3⟩:=gb (fh g.a (g.t.pB m 200) (d-1)) (d-1) a1 aq;obtain⟨c1,c2,c3⟩:=gc (fh g.b (fh g.a (g.t.pB m 200) (d-1)) (d-1)) (d-1) b1 aq;generalize fh g.c (fh g.b (fh g.a (g.t.pB m 200) (d-1)) (d-1)) (d-1)=x3 at *;generalize fh g.b (fh g.a (g.t.pB m 200) (d-1)) (d-1)=x2 at *;generalize fh g.a (g.t.pB m 200) (d-1)=x1 at *;obtain⟨r1,r2,r3⟩:=ih x3 d c1 aq;refine⟨r1,by omega,λh=>?_⟩;obtain⟨r4,r5,r6⟩:=r3 h;obtain⟨c4,c5,c6,_⟩:=c3 r4;obtain⟨b4,b5,b6,_⟩:=b3 c4;obtain⟨a4,a5,a6,_⟩:=a3 b4;obtain⟨t4,t5,t6⟩:=t3 a4;refine⟨by omega,?_,?_⟩;simp only[Gl.aw];rw[Gl.size_eq];omega;simp only[fv];exact⟨(Iq FwT g).2 ⟨t6,a6,b6,c6⟩,r6⟩;rename_i hm;exact⟨h0,kH _,λh=>by omega⟩
 intro m d h0 h1;unfold fh;grind
theorem O1 {P Q:Tm->Prop}{l:List Gl}(h:∀t:Tm,t.size<=Gl.aw l->P t->Q t)(hp:fv P l):fv Q l:=by
 have key:∀(N:Nat) (l:List Gl),Gl.aw l<=N->(∀t:Tm,t.size<=N->P t->Q t)->fv P l->fv Q l:=by
  intro N l;refine Gl.Cx (p:=λl=>Gl.aw l<=N->(∀t:Tm,t.size<=N->P t->Q t)->fv P l->fv Q l) (λl=>?_) l;intro eV hN h hp;refine LU λg hg=>?_
  obtain⟨h1,h2,h3,h4⟩:=tN hp g hg;have:=Gl.b8 hg;have:=Gl.size_eq g;grind
 exact key _ l cZ h hp
theorem agD {t:Tm}(h:t.size<=1000000)(hf:FwT t):SmT t:=⟨h,λx e he=>by have:=hf x e he;omega⟩
theorem Sm:∀(l:List Cs) (m:Int),-1<=m->m<=1000000->-1<=nY l m/\(0<=nY l m->0<=m/\(∀c∈l,Ir c/\Cs.size c<=m)/\nY l m+Cs.aw l<=m)
 |[],m,h0,h1=>by simp only[nY,Cs.aw];simp_all
 |c::r,m,h0,h1=>by
  simp only[nY];split;rename_i hm;obtain⟨t1,t2,t3⟩:=agC c.head h0 h1;obtain⟨a1,a2,a3⟩:=adw c.body (c.head.pB m 200) 30 t1 aq;obtain⟨r1,r3⟩:=Sm r (fh c.body (c.head.pB m 200) 30) a1 aq;refine⟨r1,λh=>?_⟩;obtain⟨r4,r5,r6⟩:=r3 h;obtain⟨a4,a5,a6,_⟩:=a3 r4;obtain⟨t4,t5,t6⟩:=t3 a4;refine⟨t4,?_,by simp only[Cs.aw,Cs.size];omega⟩;intro x hx;rcases cE.1 hx with rfl|hx
  exact⟨⟨agD aq t6,O1 (λt ht=>agD aq) a6,by omega⟩,by simp only[Cs.size];omega⟩;have:=r5 x hx;exact⟨this.1,by omega⟩;omega
theorem Sn {l:List Cs}(h:UQ l=true):(∀c∈l,Ir c)/\l.length<=210/\Cs.aw l<=3000:=by unfold UQ at h;simp only[aV,decide_eq_true_eq]at h;obtain⟨_,h2⟩:=Sm l 3000 aq aq;grind
end ax

namespace Go.Proofs.YtmjmngigbachdaaGreatDoor
open Go ax Go.Proofs
theorem UR {t:Tm}(hf:t.Fit)(h:de t=true):LG t:=by rw[cV,Tm.bB,aV,aV]at h;exact ai4 t h.1.1 hf
structure TmW (t:Tm):Prop where
 fit:t.Fit
 fw:FwT t
 size:t.size<=1000000
theorem US (t:Tm)(h:TmW t):br Tryz.prog 163 [t.av] (.cP [UI (sM t).1,iV (sM t).2]) :=Ik t (by have:=h.size;omega) (λe he=>by have:=h.fw 1 e he;omega) (UR h.fit)
theorem adx (n:Int):br Tryz.prog 184 [iV n] (iV (F9 n)):=by
 refine ng Tryz.func184 λw S hg=>?_
 refine af (λh=>?_) λh=>?_
 refine bz ?_;have h:=of_decide_eq_true h;simp only[F9,if_pos h];rfl;have h:=of_decide_eq_false h;refine af (λh2=>?_) λh2=>?_
 refine bz ?_;have h2:=of_decide_eq_true h2;simp only[F9,if_neg h,if_pos h2];rfl;refine bz ?_;have h2:=of_decide_eq_false h2;simp only[F9,if_neg h,if_neg h2];rfl
theorem tR (m n:Int):br Tryz.prog 185 [iV m,iV n] (iV (p5 m n)):=by
 refine ng Tryz.func185 λw S hg=>?_
 refine af (λh=>?_) λh=>?_
 refine bz ?_;have h:=of_decide_eq_true h;simp only[p5,if_pos h];rfl;have h:=of_decide_eq_false h;refine af (λh2=>?_) λh2=>?_
 refine bz ?_;have h2:=of_decide_eq_true h2;simp only[p5,if_neg h,if_pos h2];rfl;refine bz ?_;have h2:=of_decide_eq_false h2;simp only[p5,if_neg h,if_neg h2];rfl
theorem O2:∀(a b:List UInt8),a=[]\/b=[]->vF a b=p5 a.length b.length|[],[],_=>rfl|[],y::b,_=>by simp only[vF,p5,mu,dx];rw[if_pos aq]|x::a,[],_=>by simp only[vF,p5,mu,dx];rw[if_neg aq,if_pos aq]|x::a,y::b,h=>by simp at h
theorem Zx (m n k:Int):p5 (m-k) (n-k)=p5 m n:=by
 unfold p5;repeat' split
 all_goals omega
theorem Gw {s:ByteArray}{k:Nat}(h:k<s.size):s.data.toList.drop k=s[k]::s.data.toList.drop (k+1):=by rw[List.drop_eq_getElem_cons ln];rfl
theorem Zy (a b:ByteArray)(ha:a.size<1000000000):br Tryz.prog 186 [.d (.v (.string a)),.d (.v (.string b))] (iV (yJ a b)):=by
 refine ng Tryz.func186 λw S hg=>?_
 refine agl hg.ok rfl rfl rfl rfl (ag ?_);have ai2:(min (a.size:Int) (b.size:Int))=((min a.size b.size:Nat):Int):=by omega
 rw[ai2];generalize hM:min a.size b.size=M;refine a7 (λk:Nat=>([(0,.d (.v (.string a))),(1,.d (.v (.string b))),(10,iV M),(11,iV k)],[])) (λk=>k<=M/\yJ a b=vF (a.data.toList.drop k) (b.data.toList.drop k)) (λk=>M-k) 0 ⟨bU _,rfl⟩ Bi rfl ?_;rintro k ⟨J6,hm⟩;refine ag ?_;refine af (λh=>?_) λh=>?_
 have aI:k<M:=bo h rfl;have hka:k<a.size:=by omega
 have hkb:k<b.size:=by omega
 rw[Gw hka,Gw hkb,vF]at hm;refine pG hg.ok rfl rfl rfl rfl rfl (Fs k) (sf hka) (ag ?_);refine pG hg.ok rfl rfl rfl rfl rfl (Fs k) (sf hkb) (ag ?_);refine af (λh2=>?_) λh2=>?_
 refine pG hg.ok rfl rfl rfl rfl rfl (Fs k) (sf hka) (ag ?_);refine pG hg.ok rfl rfl rfl rfl rfl (Fs k) (sf hkb) (ag ?_);have e1:IntKind.i64.wrap (a[k].toNat:Int)=a[k].toNat:=pX aq (by have:=a[k].toNat_lt;omega);have e2:IntKind.i64.wrap (b[k].toNat:Int)=b[k].toNat:=pX aq (by have:=b[k].toNat_lt;omega);rw[e1,e2];refine aA (tR _ _) ?_;refine bz ?_;have dR:¬ a[k]=b[k]:=λe=>by simp[e]at h2
 rw[hm,if_neg dR];rfl
 have he:a[k]=b[k]:=by
  have:(a[k].toNat:Int)=b[k].toNat:=by simpa using h2
  exact UInt8.toNat_inj.1 aq
 rw[if_pos he]at hm;exact Wq;have aI:M<=k:=bw h rfl;refine aA (tR _ _) ?_;refine bz ?_;have Iv:a.data.toList.length=a.size:=by simp
 have hbb:b.data.toList.length=b.size:=by simp
 rw[hm,O2 _ _ (by rw[List.drop_eq_nil_iff,List.drop_eq_nil_iff,Iv,hbb];omega),J7,J7,Iv,hbb,Int.ofNat_sub aq,Int.ofNat_sub aq,Zx];rfl
theorem Zz (a:Tm):∀b,a.size<1000000000->(∀x e,e∈a.gX x->e.2.s.size<1000000000)->br Tryz.prog 174 [.agg [],a.av,b.av] (iV (Tm.Cj a b)):=by
 induction a using Tm.ind with
 |_ a ih=>
 intro b hsz Y0;have qI:a.s.size<1000000000:=Y0 0 (0,a) WX;have hl:=Tm.bO a.l;have hs:=Tm.size_eq a;have hc:=Tm.acQ a b;refine ng Tryz.func174 λw S hg=>?_
 refine af (λh=>?_) λh=>?_
 have h:¬ a.k=b.k:=by simpa using h
 refine aA (adx _) ?_;refine bz ?_;rw[hc,if_pos h];rfl;have h1:a.k=b.k:=by simpa using h
 rw[if_neg TA]at hc;refine af (λh=>?_) λh=>?_
 have h:¬ a.k=3:=by simpa using h
 refine aA (tR _ _) ?_;refine bz ?_;rw[hc,if_pos h];rfl;have h2:a.k=3:=by simpa using h
 rw[if_neg (by simpa using h2)]at hc;refine aA (tR _ _) ?_;refine af (λh=>?_) λh=>?_
 refine bz ?_;simp only[Tm.ao]at *;rw[hc,if_pos ln];rfl;simp only[Tm.ao]at h;rw[if_neg ln]at hc
 have V2:a.l.length=b.l.length:=by
  have:p5 (a.l.length:Int) b.l.length=0:=by simpa using h
  have:=Uh.1 this;omega
 refine aA (Zy _ _ qI) ?_;refine af (λh=>?_) λh=>?_
 refine bz ?_;rw[hc,if_pos ln];rfl;rw[if_neg ln]at hc;refine a7 (λk:Nat=>([(3,.lo 0 0),(5,.lo 2 0),(50,.d (.sl (Tm.aa a.l))),(51,iV a.l.length),(52,iV k)],[.box [],aO a,aO b])) (λk=>k<=a.l.length/\Tm.Cj a b=Tm.Lk (a.l.drop k) (b.l.drop k)) (λk=>a.l.length-k) 0 ⟨bU _,hc⟩ ⟨.refl _,.refl _,.refl _,bJ.int um,.refl _,trivial⟩ rfl ?_;rintro k ⟨J6,hm⟩;refine ag ?_;refine af (λh=>?_) λh=>?_
 have aI:k<a.l.length:=bo h rfl;have mn:k<b.l.length:=by omega
 have e1:a.l[k]? = some a.l[k]:=dG aI;have e2:b.l[k]? = some b.l[k]:=dG mn;rw[List.drop_eq_getElem_cons aI,List.drop_eq_getElem_cons mn,Tm.Lk]at hm;have Wc:=Tm.b8 (dy aI);refine cJ (Tm.ay e1) ?_;refine cJ (Tm.ay e2) ?_;refine aA (ih _ (dy aI) b.l[k] aq (λx e he=>Y0 (x-1) e ale)) ?_;refine af (λh=>?_) λh=>?_
 refine bz ?_;rw[hm,if_pos ln];rfl;rw [if_neg ln]at hm;refine u5 3 fO rfl ?_;exact bb (k+1) ⟨aI,hm⟩ aq JW rfl;have aI:a.l.length<=k:=bw h rfl;refine bz ?_;rw[hm,cX aI,cX aq];rfl
def eB (t:Tm):Prop:=t.size<1000000000/\∀x e,e∈t.gX x->e.2.s.size<1000000000
end Go.Proofs.YtmjmngigbachdaaGreatDoor
