import Derived.Test.YtaagocopollacaaGreatDoorM2
import Derived.Test.YtaagocopollacaaGreatDoorPslB
set_option maxRecDepth 100000
set_option maxHeartbeats 4000000
namespace aw
open Go
def iv (t:Tm):Sg:=(t.s,(t.l.length:Int))
def zL:List Bs:=[[61],[92,61],[61,61],[92,61,61],[64,60],[64,62],[64,61,60],[64,62,61],[105,115],[61,58,61],[61,92,61],[60],[62],[61,60],[62,61],[61,46,46]]
def zM:List (Bs × Int):=[([102,97,105,108],0),([110,108],0),([118,97,114],1),([110,111,110,118,97,114],1),([97,116,111,109],1),([105,110,116,101,103,101,114],1),([119,114,105,116,101],1),([102,117,110,99,116,111,114],3),([97,114,103],3)]
def KM (n:Int):List (Bs × Int):=[([116,114,117,101],0),([33],0),([44],2),([59],2),([45,62],2),([92,43],1),([58,45],2),([63],n)]
def anyS (l:List (Bs × Int))(p:Sg):Bool:=l.any fun x=>decide ((Tx x.1,x.2)=p)
def mf (p:Sg):Bool:=anyS (zL.map fun s=>(s,2)) p || anyS zM p
def Yo (p:Sg):Bool:=anyS (KM p.2) p
def tV (t:Tm):Bool:=(t.k==3) && !mf (iv t) && !Yo (iv t)
def j9 (t:Tm):Bool:=(t.k==0)&&bE t.s ⟨#[]⟩&&(t.n==0)&&decide (t.l.length=0)
def qA (v:Int)(t:Tm):Bool:=c0 t&&(bH [t]).all fun x=>decide (x<v)
def ig (a b c:List Gl):Bool:=decide (a.length+b.length+c.length=0)

mutual
def ij (v:Int):Gl→Int→Int→Bool→Bool × Int
 | .mk k t a b c,left,aq,aH =>
  if k=1 then (ig a b c&&qA v t&&tV t,left)
  else if k=2 then (ig a b c&&qA v t&&(t.k==3)&&mf (iv t),left)
  else if k=3 then (ig a b c&&j9 t&&aH,left)
  else if k=4 then
   if j9 t then
    if (b9 v a left (aq+1) false).1 then
     if (b9 v b (b9 v a left (aq+1) false).2 (aq+1) aH).1 then b9 v c (b9 v b (b9 v a left (aq+1) false).2 (aq+1) aH).2 (aq+1) aH
     else (false,(b9 v b (b9 v a left (aq+1) false).2 (aq+1) aH).2)
    else (false,(b9 v a left (aq+1) false).2)
   else (false,left)
  else if k=5 then (if j9 t&&decide (b.length+c.length=0) then b9 v a left (aq+1) false else (false,left))
  else (false,left)
def b9 (v:Int):List Gl→Int→Int→Bool→Bool × Int
 |[],left,_,_=>(true,left)
 |g::r,left,aq,aH=>if !(ij v g (left - 1) aq aH).1 || decide ((ij v g (left - 1) aq aH).2<0) || decide (10<aq) then (false,(ij v g (left - 1) aq aH).2) else b9 v r (ij v g (left - 1) aq aH).2 aq aH
end
def nA (x:Cs):Bool:=decide (0≤x.vars)&&decide (x.vars≤1000)&&qA x.vars x.head&&tV x.head&&(b9 x.vars x.body 20 1 true).1

mutual
def NQ (has:Sg→Bool):Gl→Bool
 | .mk k t a b c=>!((k==1) && !has (iv t))&&cR has a&&cR has b&&cR has c
def cR (has:Sg→Bool):List Gl→Bool
 |[]=>true
 |g::r=>NQ has g&&cR has r
end
def pP (l:List Cs)(p:Sg):Bool:=l.any fun c=>decide (iv c.head=p)

def iP {α:Type} (p:α→Bool):List α→Nat→Option Nat
 |[],_=>none
 |x::r,i=>if p x then iP p r (i+1) else some i

def jV (l:List Cs):Int × Int :=
 if 200<l.length then (200,3)
 else match iP nA l 0 with
  |some i=>((i:Int),1)
  |none=>match iP (fun c=>cR (pP l) c.body) l 0 with
   |some i=>((i:Int),9)
   |none=>(0,0)
def wL (v:Int)(t:Tm):Bool:=(bH [t]).all (fun x=>decide (x<v))&&t.bS

def uk (v:Int):Gl→Bool
 | .mk k t a b c =>
  if k=1 then ig a b c&&tV t&&wL v t
  else if k=2 then ig a b c&&(t.k==3)&&mf (iv t)&&wL v t
  else if k=3 then ig a b c&&j9 t
  else j9 t&&((k==4) || (k==5)&&decide (b.length+c.length=0))

mutual
def yh (v:Int):Gl→Int→Bool→Int
 | .mk k t a b c,aq,aH =>
  if !uk v (.mk k t a b c) || ((k==3) && !aH) then -1
  else if (if a.length≠0∧10<aq+1 then -1 else q9 v a (aq+1) false)<0∨(if b.length≠0∧10<aq+1 then -1 else q9 v b (aq+1) aH)<0∨(if c.length≠0∧10<aq+1 then -1 else q9 v c (aq+1) aH)<0 then -1
  else 1+(if a.length≠0∧10<aq+1 then -1 else q9 v a (aq+1) false)+(if b.length≠0∧10<aq+1 then -1 else q9 v b (aq+1) aH)+(if c.length≠0∧10<aq+1 then -1 else q9 v c (aq+1) aH)
def q9 (v:Int):List Gl→Int→Bool→Int
 |[],_,_=>0
 |g::r,aq,aH=>if yh v g aq aH<0 then -1 else if q9 v r aq aH<0 then -1 else yh v g aq aH+q9 v r aq aH
end
def oI (v:Int)(l:List Gl)(aq:Int)(aH:Bool):Int:=if l.length≠0∧10<aq then -1 else q9 v l aq aH

theorem Hg (v:Int)(g:Gl)(aq:Int)(aH:Bool):yh v g aq aH=if !uk v g || ((g.k==3) && !aH) then -1 else if oI v g.a (aq+1) false<0∨oI v g.b (aq+1) aH<0∨oI v g.c (aq+1) aH<0 then -1 else 1+oI v g.a (aq+1) false+oI v g.b (aq+1) aH+oI v g.c (aq+1) aH:=by
 cases g;rw[yh];rfl

theorem kG (v:Int)(g:Gl)(left aq:Int)(aH:Bool):ij v g left aq aH =
  if g.k=1 then (ig g.a g.b g.c&&qA v g.t&&tV g.t,left)
  else if g.k=2 then (ig g.a g.b g.c&&qA v g.t&&(g.t.k==3)&&mf (iv g.t),left)
  else if g.k=3 then (ig g.a g.b g.c&&j9 g.t&&aH,left)
  else if g.k=4 then
   if j9 g.t then
    if (b9 v g.a left (aq+1) false).1 then
     if (b9 v g.b (b9 v g.a left (aq+1) false).2 (aq+1) aH).1 then b9 v g.c (b9 v g.b (b9 v g.a left (aq+1) false).2 (aq+1) aH).2 (aq+1) aH
     else (false,(b9 v g.b (b9 v g.a left (aq+1) false).2 (aq+1) aH).2)
    else (false,(b9 v g.a left (aq+1) false).2)
   else (false,left)
  else if g.k=5 then (if j9 g.t&&decide (g.b.length+g.c.length=0) then b9 v g.a left (aq+1) false else (false,left))
  else (false,left):=by
 cases g;rw[ij];rfl
theorem Cc (v:Int)(t:Tm):qA v t=wL v t:=by unfold qA wL;rw[cN,Bool.and_comm]

theorem u6 (v:Int):∀ (l:List Gl) (aq:Int) (aH:Bool),-1≤oI v l aq aH:=by
 have h1:∀ (g:Gl) (aq:Int) (aH:Bool),-1≤yh v g aq aH:=fun g aq aH=>by
  rw[Hg];split
  ·omega
  ·split
   ·omega
   ·omega
 have h2:∀ (l:List Gl) (aq:Int) (aH:Bool),-1≤q9 v l aq aH:=fun l=>by
  induction l with
  |nil=>intro _ _;simp[q9]
  |cons g r ih =>
   intro aq aH;simp only[q9];split
   ·omega
   ·split
    ·omega
    ·omega
 intro l aq aH;unfold oI;split
 ·omega
 ·exact h2 l aq aH

def Yp (v:Int)(l:List Gl):Prop:=∀ (left aq:Int) (aH:Bool),((b9 v l left aq aH).1=true↔0≤oI v l aq aH∧(l.length=0∨oI v l aq aH≤left))∧((b9 v l left aq aH).1=true→(b9 v l left aq aH).2=left - oI v l aq aH)∧(b9 v l left aq aH).2≤left

theorem jc {v:Int}{l:List Gl}{aq:Int}{aH:Bool}(h:l.length=0):oI v l aq aH=0:=by
 have:l=[]:=jy.1 h;subst this;simp[oI,q9]

theorem afd {v:Int}{g:Gl}(ha:Yp v g.a)(hb:Yp v g.b)(hc:Yp v g.c)(left aq:Int)(aH:Bool) :
  ((ij v g left aq aH).1=true∧0≤(ij v g left aq aH).2↔0≤yh v g aq aH∧yh v g aq aH≤left+1)∧((ij v g left aq aH).1=true→0≤(ij v g left aq aH).2→(ij v g left aq aH).2=left+1 - yh v g aq aH)∧(ij v g left aq aH).2≤left:=by
 rw[kG,Hg]
 have eo:ig g.a g.b g.c=true→g.a.length=0∧g.b.length=0∧g.c.length=0:=fun h=>by
  unfold ig at h;have:=of_decide_eq_true h;omega
 by_cases h1:g.k=1
 ·have hf:uk v g=(ig g.a g.b g.c&&tV g.t&&wL v g.t):=by cases g; simp only [Gl.k] at h1; simp [uk,h1,Gl.a,Gl.b,Gl.c,Gl.t]
  rw[if_pos h1,hf,h1,Cc];cases hn:ig g.a g.b g.c with
  |false=>simp
  |true =>
   obtain⟨n1,n2,n3⟩:=eo hn;rw[jc n1,jc n2,jc n3];cases tV g.t<;>cases wL v g.t<;>simp<;>omega
 rw[if_neg h1];by_cases h2:g.k=2
 ·have hf:uk v g=(ig g.a g.b g.c&&(g.t.k==3)&&mf (iv g.t)&&wL v g.t):=by cases g; simp only [Gl.k] at h2; simp [uk,h2,Gl.a,Gl.b,Gl.c,Gl.t]
  rw[if_pos h2,hf,h2,Cc];cases hn:ig g.a g.b g.c with
  |false=>simp
  |true =>
   obtain⟨n1,n2,n3⟩:=eo hn;rw[jc n1,jc n2,jc n3];cases (g.t.k==3)<;>cases mf (iv g.t)<;>cases wL v g.t<;>simp<;>omega
 rw[if_neg h2];by_cases h3:g.k=3
 ·have hf:uk v g=(ig g.a g.b g.c&&j9 g.t):=by cases g; simp only [Gl.k] at h3; simp [uk,h3,Gl.a,Gl.b,Gl.c,Gl.t]
  rw[if_pos h3,hf,h3];cases hn:ig g.a g.b g.c with
  |false=>simp
  |true =>
   obtain⟨n1,n2,n3⟩:=eo hn;rw[jc n1,jc n2,jc n3];cases j9 g.t<;>cases aH<;>simp<;>omega
 rw[if_neg h3];have hf:uk v g=(j9 g.t&&((g.k==4) || (g.k==5)&&decide (g.b.length+g.c.length=0))):=by cases g;simp only[Gl.k]at h1 h2 h3;simp[uk,h1,h2,h3,Gl.k,Gl.b,Gl.c,Gl.t]
 rw[hf];have h3':(g.k==3)=false:=by simpa using h3
 have ga:=u6 v g.a (aq+1) false;have gb:=u6 v g.b (aq+1) aH;have gc:=u6 v g.c (aq+1) aH;by_cases h4:g.k=4
 ·rw [if_pos h4,h3',h4];cases hn:j9 g.t with
  |false=>simp
  |true =>
   obtain⟨a1,a2,a3⟩:=ha left (aq+1) false;simp only[if_true,jX,vO,Bool.or_false,show ((4:Int)==4)=true from rfl,Bool.true_or,xK,lL,if_false];generalize oI v g.a (aq+1) false=ca at *;cases hA:(b9 v g.a left (aq+1) false).1 with
   |false =>
    rw[hA]at a1;simp only[lL,false_iff,if_false,false_and]at a1 ⊢;exact abg
   |true =>
    rw[hA]at a1;simp only[if_true,true_iff]at a1 ⊢;have a2:=a2 hA;rw[a2];obtain⟨b1,b2,b3⟩:=hb (left - ca) (aq+1) aH;generalize oI v g.b (aq+1) aH=cb at *;cases hB:(b9 v g.b (left - ca) (aq+1) aH).1 with
    |false =>
     rw[hB]at b1;simp only[lL,false_iff,if_false,false_and]at b1 ⊢;exact abg
    |true =>
     rw[hB]at b1;simp only[if_true,true_iff]at b1 ⊢;have b2:=b2 hB;rw[b2];obtain⟨c1,c2,c3⟩:=hc (left - ca - cb) (aq+1) aH;generalize oI v g.c (aq+1) aH=cc at *;cases hC:(b9 v g.c (left - ca - cb) (aq+1) aH).1 with
     |false =>
      rw[hC]at c1;simp only[lL,false_iff,false_and]at c1 ⊢;exact abg
     |true =>
      rw[hC]at c1;simp only[true_iff,true_and]at c1 ⊢;have c2:=c2 hC;rw[c2];rw[if_neg an];exact⟨by omega,fun _ _=>by omega,by omega⟩
 rw[if_neg h4];have h4':(g.k==4)=false:=by simpa using h4
 rw[h4',h3'];by_cases h5:g.k=5
 ·rw [if_pos h5,h5];cases hn:j9 g.t with
  |false=>simp
  |true =>
   by_cases hbc:g.b.length+g.c.length=0
   ·obtain ⟨a1,a2,a3⟩:=ha left (aq+1) false;rw[jc (l:=g.b) an,jc (l:=g.c) an];simp only[hbc,decide_true,Bool.and_true,jX,zA,show ((5:Int)==5)=true from rfl,xK,vO,if_true,lL,if_false];generalize oI v g.a (aq+1) false=ca at *;cases hA:(b9 v g.a left (aq+1) false).1 with
    |false =>
     rw[hA]at a1;simp only[lL,false_iff,false_and]at a1 ⊢;exact abg
    |true =>
     rw[hA]at a1;simp only[true_iff,true_and]at a1 ⊢;have a2:=a2 hA;rw[a2,if_neg an];exact⟨by omega,fun _ _=>by omega,by omega⟩
   ·have hd:decide (g.b.length+g.c.length=0)=false:=decide_eq_false hbc;rw[hd];simp
 ·rw [if_neg h5];have h5':(g.k==5)=false:=by simpa using h5
  rw[h5'];simp

theorem KN (v:Int)(l:List Gl):Yp v l:=by
 refine Gl.Nv (p:=Yp v) (fun l=>?_) l;intro fH;induction l with
 |nil=>intro left aq aH;simp[b9,jc]
 |cons g r ih =>
  obtain⟨ga,gb,gc⟩:=fH g aC;have ih:=ih fun x hx=>fH x tM
  intro left aq aH;obtain⟨p1,p2,p3⟩:=afd ga gb gc (left - 1) aq aH;have hn:(g::r).length≠0:=by simp
  simp only[b9]
  have TM:oI v (g::r) aq aH=if 10<aq then -1 else if yh v g aq aH<0 then -1 else if q9 v r aq aH<0 then -1 else yh v g aq aH+q9 v r aq aH:=by
   unfold oI;by_cases hd:10<aq
   ·rw[if_pos ⟨hn,hd⟩,if_pos hd]
   ·rw[if_neg (fun h=>hd h.2),if_neg hd];simp only[q9]
  have hr:¬ 10<aq→oI v r aq aH=q9 v r aq aH:=fun hd=>by unfold oI;rw[if_neg (fun h=>hd h.2)]
  have ami:0≤yh v g aq aH→1≤yh v g aq aH:=fun h=>by
   rw[Hg]at h ⊢;split at h
   ·omega
   ·rename_i hf;rw[if_neg hf];split at h
    ·omega
    ·rename_i hq;rw[if_neg hq];have:=u6 v g.a (aq+1) false;have:=u6 v g.b (aq+1) aH;have:=u6 v g.c (aq+1) aH;omega
  rw[TM];generalize yh v g aq aH=cg at *;obtain⟨q1,q2,q3⟩:=ih (ij v g (left - 1) aq aH).2 aq aH;generalize ij v g (left - 1) aq aH=x at *;obtain⟨xb,xl⟩:=x;simp only at p1 p2 p3 q1 q2 q3 ⊢;have hgr:=u6 v r aq aH;by_cases hd:10<aq
  ·have:(!xb || decide (xl<0) || decide (10<aq))=true:=by simp [hd]
   rw[if_pos this,if_pos hd];exact⟨⟨(fun h=>by cases h),fun h=>by omega⟩,(fun h=>by cases h),by simp only;omega⟩
  rw[if_neg hd];rw[hr hd]at q1 q2 hgr;generalize q9 v r aq aH=cr at *;by_cases hx:xb=true∧0≤xl
  ·have:(!xb || decide (xl<0) || decide (10<aq))=false:=by simp [hd,hx.1]; omega
   rw[if_neg (by rw[this];simp)];have hp:=p1.1 hx;have hp2:=p2 hx.1 hx.2;have hp3:=ami hp.1;rw[if_neg an];refine⟨q1.trans ⟨fun h=>?_,fun h=>?_⟩,fun h=>?_,by omega⟩
   ·rw [if_neg an];refine⟨by omega,.inr ?_⟩;rcases h.2 with h2 |h2
    ·have:cr=0:=by
      have h4:=hr hd;have:r=[]:=jy.1 h2;subst this;rw[jc rfl]at h4;exact h4.symm
     omega
    ·omega
   ·split at h
    ·omega
    ·refine⟨by omega,.inr an⟩
   ·have h2:=q2 h;have h3:=(q1.1 h).1;rw[if_neg an];omega
  ·have:(!xb || decide (xl<0) || decide (10<aq))=true:=by
    cases xb with
    |false=>rfl
    |true=>simp only[true_and]at hx;simp;left;omega
   rw[if_pos this];refine⟨⟨(fun h=>by cases h),fun h=>?_⟩,(fun h=>by cases h),by simp only;omega⟩;refine absurd (p1.2 ?_) hx;split at h
   ·omega
   ·split at h
    ·omega
    ·rcases h.2 with h2 | h2
     ·exact absurd h2 hn
     ·omega
end aw

namespace aw
open Go
end aw
namespace aw
open Go

mutual
def ahX (P:Tm→Prop):Gl→Prop
 | .mk _ t a b c=>P t∧fO P a∧fO P b∧fO P c
def fO (P:Tm→Prop):List Gl→Prop
 |[]=>True
 |g::r=>ahX P g∧fO P r
end
theorem Hh (P:Tm→Prop)(g:Gl):ahX P g↔P g.t∧fO P g.a∧fO P g.b∧fO P g.c:=by cases g;rw[ahX];rfl

theorem yi {P:Tm→Prop}:∀ {l:List Gl},fO P l→∀g∈l,P g.t∧fO P g.a∧fO P g.b∧fO P g.c
 |[],_,g,h=>by cases h
 |x::r,h,g,hg=>by
  simp only[fO]at h;rcases eL.1 hg with rfl |hg
  ·exact(Hh P g).1 h.1
  ·exact yi h.2 g hg

theorem KO {P:Tm→Prop}:∀ {l:List Gl},(∀g∈l,P g.t∧fO P g.a∧fO P g.b∧fO P g.c)→fO P l
 |[],_=>by simp only[fO]
 |x::r,h=>by
  simp only[fO];exact⟨(Hh P x).2 (h x aC),KO fun g hg=>h g (by simp[hg])⟩

theorem tf (v:Int)(l:List Gl):∀ (left aq:Int) (aH:Bool),left - Gl.ay l≤(b9 v l left aq aH).2:=by
 refine Gl.Nv (p:=fun l=>∀ (left aq:Int) (aH:Bool),left - Gl.ay l≤(b9 v l left aq aH).2) (fun l=>?_) l;intro fH;induction l with
 |nil=>intro left aq aH;simp[b9,Gl.ay]
 |cons g r ih =>
  obtain⟨ga,gb,gc⟩:=fH g aC;have ih:=ih fun x hx=>fH x tM
  intro left aq aH
  have h1:left - g.size≤(ij v g (left - 1) aq aH).2:=by
   rw[kG,Gl.size_eq];have:=Gl.y2 g.t;split;· simp only;omega
   split;· simp only;omega
   split;· simp only;omega
   split
   ·split
    ·have a1:=ga (left - 1) (aq+1) false;split
     ·have b1:=gb (b9 v g.a (left - 1) (aq+1) false).2 (aq+1) aH;split
      ·have c1:=gc (b9 v g.b (b9 v g.a (left - 1) (aq+1) false).2 (aq+1) aH).2 (aq+1) aH;omega
      ·simp only;omega
     ·simp only;omega
    ·simp only;omega
   split
   ·split
    ·have a1:=ga (left - 1) (aq+1) false;omega
    ·simp only;omega
   ·simp only;omega
  simp only[b9,Gl.ay];split
  ·simp only;omega
  ·have:=ih (ij v g (left - 1) aq aH).2 aq aH;omega

theorem Yq (v:Int)(g:Gl)(left aq:Int)(aH:Bool):left+1 - g.size≤(ij v g left aq aH).2∧(ij v g left aq aH).2≤left:=by
 refine⟨?_,(afd (KN v g.a) (KN v g.b) (KN v g.c) left aq aH).2.2⟩;rw[kG,Gl.size_eq];have:=Gl.y2 g.t;split;· simp only;omega
 split;· simp only;omega
 split;· simp only;omega
 split
 ·split
  ·have a1:=tf v g.a left (aq+1) false;split
   ·have b1:=tf v g.b (b9 v g.a left (aq+1) false).2 (aq+1) aH;split
    ·have c1:=tf v g.c (b9 v g.b (b9 v g.a left (aq+1) false).2 (aq+1) aH).2 (aq+1) aH;omega
    ·simp only;omega
   ·simp only;omega
  ·simp only;omega
 split
 ·split
  ·have a1:=tf v g.a left (aq+1) false;omega
  ·simp only;omega
 ·simp only;omega
end aw
namespace aw
open Go
def iQ (ks:List Sg)(p:Sg):Bool:=ks.any fun q=>decide (q=p)
def D3 (ks:List Sg)(p:Sg):List Sg:=if iQ ks p then ks else ks++[p]
def Mk (ks:List Sg):List (Sg × AV):=ks.map fun p=>(p,bV true)
def dsM (ks:List Sg):List (Value × D):=ks.map fun p=>(p6 p,.v (.bool true))
def hdS (l:List Cs):List Sg:=l.foldl (fun ks c=>D3 ks (iv c.head)) []

theorem NR (ks:List Sg):(dsM ks).map (fun p=>(p.1,AV.d p.2))=mF (Mk ks):=by
 unfold dsM mF Mk;rw[jw,jw];rfl
theorem th (k:Sg)(r:List Sg)(p:Sg):iQ (k::r) p=(decide (k=p) || iQ r p):=rfl

theorem Q6 (ks:List Sg)(p:Sg):DV (Mk ks) p=if iQ ks p then some (bV true) else none:=by
 induction ks with
 |nil=>rfl
 |cons k r ih =>
  simp only[Mk,List.map_cons,DV]at ih ⊢;by_cases h:k=p
  ·rw[if_pos h,if_pos (by rw[th,decide_eq_true h];rfl)]
  ·have h1:iQ (k::r) p=iQ r p:=by rw [th,decide_eq_false h]; rfl
   rw[if_neg h,ih,h1]

theorem ach (ks:List Sg)(p:Sg):DW (Mk ks) p (bV true)=Mk (D3 ks p):=by
 unfold D3;induction ks with
 |nil=>rfl
 |cons k r ih =>
  simp only[Mk,List.map_cons,DW]at ih ⊢;by_cases h:k=p
  ·rw[if_pos h,if_pos (by rw[th,decide_eq_true h];rfl),h];rfl
  ·have h1:iQ (k::r) p=iQ r p:=by rw [th,decide_eq_false h]; rfl
   rw[if_neg h,ih,h1];split<;>rfl

theorem Yr (ks:List Sg)(p q:Sg):iQ (D3 ks p) q=(iQ ks q || decide (p=q)):=by
 unfold D3;split
 ·rename_i h;by_cases e:p=q
  ·subst e;rw[h];rfl
  ·rw[decide_eq_false e,Bool.or_false]
 ·unfold iQ;rw[List.any_append];simp
theorem Ys {f:AV→AV}(h:f (bV true)=bV true)(ks:List Sg):aQ f (.map (mF (Mk ks)))=.map (mF (Mk ks)):=by simp[aQ,mF,Mk,Function.comp_def,h]

theorem aci (l:List Cs)(q:Sg):iQ (hdS l) q=pP l q:=by
 have key:∀ (l:List Cs) (ks:List Sg),iQ (l.foldl (fun ks c=>D3 ks (iv c.head)) ks) q=(iQ ks q || pP l q):=by
  intro l;induction l with
  |nil=>intro ks;simp[pP]
  |cons c r ih =>
   intro ks;simp only[vI];rw[ih,Yr,Bool.or_assoc];rfl
 have:=key l [];simpa[hdS,iQ]using this
theorem TQ (has:Sg→Bool)(g:Gl):NQ has g=(!((g.k==1) && !has (iv g.t))&&cR has g.a&&cR has g.b&&cR has g.c):=by cases g;rw[NQ];rfl

def SmT (t:Tm):Prop:=t.size≤1000000∧∀x e,e∈t.gV x→e.2.s.size<1000000000

structure TR (x:Cs):Prop where
 head:SmT x.head
 body:fO SmT x.body
 size:Gl.ay x.body≤1000000
end aw
namespace aw
open Go

mutual
def Yt:Gl→Int→Int→Int
 | .mk _ t a b c,m,d=>(if d - 1<1 then -1 else lU c (if d - 1<1 then -1 else lU b (if d - 1<1 then -1 else lU a (t.oV m 200) (d - 1)) (d - 1)) (d - 1))
def lU:List Gl→Int→Int→Int
 |[],m,_=>m
 |g::r,m,d=>if m ≥ 0 then lU r (Yt g m d) d else m
end
def fc (l:List Gl)(m d:Int):Int:=if d<1 then -1 else lU l m d

theorem KQ (g:Gl)(m d:Int):Yt g m d=fc g.c (fc g.b (fc g.a (g.t.oV m 200) (d - 1)) (d - 1)) (d - 1):=by
 cases g;rw[Yt];rfl

def nB:List Cs→Int→Int
 |[],m=>m
 |c::r,m=>if m ≥ 0 then nB r (fc c.body (c.head.oV m 200) 30) else m
def TU (l:List Cs):Bool:=decide (nB l 3000 ≥ 0)&&decide (l.length≤210)
def FwT (t:Tm):Prop:=∀x e,e∈t.gV x→e.2.s.size≤100

theorem afh (t:Tm){m:Int}(h0:-1≤m)(h1:m≤1000000):-1≤t.oV m 200∧t.oV m 200≤m∧(0≤t.oV m 200→0≤m∧t.oV m 200+t.size≤m∧FwT t):=by
 obtain⟨a,b,c⟩:=Tl t (m:=m) (d:=200) h0 an an;refine⟨a,b,fun h=>?_⟩;obtain⟨d,e⟩:=c h;exact⟨by omega,d,e⟩

theorem acj (l:List Gl):∀ (m d:Int),-1≤m→m≤1000000→-1≤fc l m d∧fc l m d≤max m (-1)∧(0≤fc l m d→0≤m∧fc l m d+Gl.ay l≤m∧fO FwT l∧1≤d):=by
 refine Gl.Nv (p:=fun l=>∀ (m d:Int),-1≤m→m≤1000000→-1≤fc l m d∧fc l m d≤max m (-1)∧(0≤fc l m d→0≤m∧fc l m d+Gl.ay l≤m∧fO FwT l∧1≤d)) (fun l=>?_) l;intro fH
 have key:∀ (m d:Int),-1≤m→m≤1000000→-1≤lU l m d∧lU l m d≤m∧(0≤lU l m d→0≤m∧lU l m d+Gl.ay l≤m∧fO FwT l):=by
  induction l with
  |nil=>intro m d h0 h1;simp only[lU,Gl.ay,fO];exact⟨h0,gP _,fun h=>⟨h,by omega,trivial⟩⟩
  |cons g r ih =>
   intro m d h0 h1;obtain⟨ga,gb,gc⟩:=fH g aC;have ih:=ih fun x hx=>fH x tM
   simp only[lU];split
   ·rename_i hm;rw[KQ];obtain⟨t1,t2,t3⟩:=afh g.t h0 h1;obtain⟨a1,a2,a3⟩:=ga (g.t.oV m 200) (d - 1) t1 an;obtain⟨b1,b2,b3⟩:=gb (fc g.a (g.t.oV m 200) (d - 1)) (d - 1) a1 an;obtain⟨c1,c2,c3⟩:=gc (fc g.b (fc g.a (g.t.oV m 200) (d - 1)) (d - 1)) (d - 1) b1 an;generalize fc g.c (fc g.b (fc g.a (g.t.oV m 200) (d - 1)) (d - 1)) (d - 1)=x3 at *;generalize fc g.b (fc g.a (g.t.oV m 200) (d - 1)) (d - 1)=x2 at *;generalize fc g.a (g.t.oV m 200) (d - 1)=x1 at *;obtain⟨r1,r2,r3⟩:=ih x3 d c1 an;refine⟨r1,by omega,fun h=>?_⟩;obtain⟨r4,r5,r6⟩:=r3 h;obtain⟨c4,c5,c6,_⟩:=c3 r4;obtain⟨b4,b5,b6,_⟩:=b3 c4;obtain⟨a4,a5,a6,_⟩:=a3 b4;obtain⟨t4,t5,t6⟩:=t3 a4;refine⟨by omega,?_,?_⟩
    ·simp only[Gl.ay];rw[Gl.size_eq];omega
    ·simp only[fO];exact⟨(Hh FwT g).2 ⟨t6,a6,b6,c6⟩,r6⟩
   ·rename_i hm;exact⟨h0,gP _,fun h=>by omega⟩
 intro m d h0 h1;unfold fc;split
 ·exact⟨by omega,by omega,fun h=>by omega⟩
 ·obtain ⟨k1,k2,k3⟩:=key m d h0 h1;exact⟨k1,by omega,fun h=>⟨(k3 h).1,(k3 h).2.1,(k3 h).2.2,by omega⟩⟩

theorem NS {P Q:Tm→Prop}{l:List Gl}(h:∀t:Tm,t.size≤Gl.ay l→P t→Q t)(hp:fO P l):fO Q l:=by
 have key:∀ (N:Nat) (l:List Gl),Gl.ay l≤N→(∀t:Tm,t.size≤N→P t→Q t)→fO P l→fO Q l:=by
  intro N l;refine Gl.Nv (p:=fun l=>Gl.ay l≤N→(∀t:Tm,t.size≤N→P t→Q t)→fO P l→fO Q l) (fun l=>?_) l;intro fH hN h hp;refine KO fun g hg=>?_
  obtain⟨h1,h2,h3,h4⟩:=yi hp g hg;have:=Gl.ct hg;have:=Gl.size_eq g;obtain⟨s1,s2,s3⟩:=fH g hg;exact⟨h _ an h1,s1 an h h2,s2 an h h3,s3 an h h4⟩
 exact key _ l cP h hp
theorem afi {t:Tm}(h:t.size≤1000000)(hf:FwT t):SmT t:=⟨h,fun x e he=>by have:=hf x e he;omega⟩

theorem Q7:∀ (l:List Cs) (m:Int),-1≤m→m≤1000000→-1≤nB l m∧(0≤nB l m→0≤m∧(∀c∈l,TR c∧Cs.size c≤m)∧nB l m+Cs.ay l≤m)
 |[],m,h0,h1=>by simp only[nB,Cs.ay];exact⟨h0,fun h=>⟨h,by simp,by omega⟩⟩
 |c::r,m,h0,h1=>by
  simp only[nB];split
  ·rename_i hm;obtain⟨t1,t2,t3⟩:=afh c.head h0 h1;obtain⟨a1,a2,a3⟩:=acj c.body (c.head.oV m 200) 30 t1 an;obtain⟨r1,r3⟩:=Q7 r (fc c.body (c.head.oV m 200) 30) a1 an;refine⟨r1,fun h=>?_⟩;obtain⟨r4,r5,r6⟩:=r3 h;obtain⟨a4,a5,a6,_⟩:=a3 r4;obtain⟨t4,t5,t6⟩:=t3 a4;refine⟨t4,?_,by simp only[Cs.ay,Cs.size];omega⟩;intro x hx;rcases eL.1 hx with rfl |hx
   ·exact⟨⟨afi an t6,NS (fun t ht=>afi an) a6,by omega⟩,by simp only[Cs.size];omega⟩
   ·have:=r5 x hx;exact⟨this.1,by omega⟩
  ·rename_i hm;exact⟨h0,fun h=>by omega⟩

theorem Q8 {l:List Cs}(h:TU l=true):(∀c∈l,TR c)∧l.length≤210∧Cs.ay l≤3000:=by
 unfold TU at h;simp only[aV,decide_eq_true_eq]at h;obtain⟨_,h2⟩:=Q7 l 3000 an an;obtain⟨_,h3,h4⟩:=h2 h.1;exact⟨fun c hc=>(h3 c hc).1,h.2,by omega⟩
end aw

namespace Go.Proofs.YtaagocopollacaaGreatDoor
open Go aw Go.Proofs

theorem TV {t:Tm}(hf:t.Fit)(h:c0 t=true):Kz t:=by
 rw[cN,Tm.bS,aV,aV]at h;exact ahW t h.1.1 hf

structure TmW (t:Tm):Prop where
 fit:t.Fit
 fw:FwT t
 size:t.size≤1000000

theorem TW (t:Tm)(h:TmW t):bD Tryz.prog 148 [t.av] (.cH [TI (rV t).1,iV (rV t).2]) :=
 Hf t (by have:=h.size;omega) (fun e he=>by have:=h.fw 1 e he;omega) (TV h.fit)

theorem ack (n:Int):bD Tryz.prog 169 [iV n] (iV (E9 n)):=by
 refine oY Tryz.func169 fun w S hg=>?_
 refine aj (fun h=>?_) fun h=>?_
 ·refine cq ?_;have h:=of_decide_eq_true h;simp only[E9,if_pos h];rfl
 have h:=of_decide_eq_false h;refine aj (fun h2=>?_) fun h2=>?_
 ·refine cq ?_;have h2:=of_decide_eq_true h2;simp only[E9,if_neg h,if_pos h2];rfl
 ·refine cq ?_;have h2:=of_decide_eq_false h2;simp only[E9,if_neg h,if_neg h2];rfl

theorem tk (m n:Int):bD Tryz.prog 170 [iV m,iV n] (iV (pB m n)):=by
 refine oY Tryz.func170 fun w S hg=>?_
 refine aj (fun h=>?_) fun h=>?_
 ·refine cq ?_;have h:=of_decide_eq_true h;simp only[pB,if_pos h];rfl
 have h:=of_decide_eq_false h;refine aj (fun h2=>?_) fun h2=>?_
 ·refine cq ?_;have h2:=of_decide_eq_true h2;simp only[pB,if_neg h,if_pos h2];rfl
 ·refine cq ?_;have h2:=of_decide_eq_false h2;simp only[pB,if_neg h,if_neg h2];rfl

theorem NT:∀ (a b:List UInt8),a=[]∨b=[]→uX a b=pB a.length b.length
 |[],[],_=>rfl
 |[],y::b,_=>by simp only[uX,pB,lM,dv];rw[if_pos an]
 |x::a,[],_=>by simp only[uX,pB,lM,dv];rw[if_neg an,if_pos an]
 |x::a,y::b,h=>by simp at h

theorem Yu (m n k:Int):pB (m - k) (n - k)=pB m n:=by
 unfold pB;repeat' split
 all_goals omega

theorem Fu {s:ByteArray}{k:Nat}(h:k<s.size):s.data.toList.drop k=s[k]::s.data.toList.drop (k+1):=by
 rw[List.drop_eq_getElem_cons l6];rfl

theorem Yv (a b:ByteArray)(ha:a.size<1000000000):bD Tryz.prog 171 [.d (.v (.string a)),.d (.v (.string b))] (iV (ya a b)):=by
 refine oY Tryz.func171 fun w S hg=>?_
 refine ae0 hg.ok rfl rfl rfl rfl (af ?_);have ahU:(min (a.size:Int) (b.size:Int))=((min a.size b.size:Nat):Int):=by omega
 rw[ahU];generalize hM:min a.size b.size=M;refine bh (fun k:Nat=>([(0,.d (.v (.string a))),(1,.d (.v (.string b))),(10,iV M),(11,iV k)],[])) (fun k=>k≤M∧ya a b=uX (a.data.toList.drop k) (b.data.toList.drop k)) (fun k=>M - k) 0 ⟨cT _,rfl⟩ Mx rfl ?_;rintro k ⟨Va,hm⟩;refine af ?_;refine aj (fun h=>?_) fun h=>?_
 ·have aR:k<M:=bK h rfl;have hka:k<a.size:=by omega
  have hkb:k<b.size:=by omega
  rw[Fu hka,Fu hkb,uX]at hm;refine nh hg.ok rfl rfl rfl rfl rfl (yN k) (pt hka) (af ?_);refine nh hg.ok rfl rfl rfl rfl rfl (yN k) (pt hkb) (af ?_);refine aj (fun h2=>?_) fun h2=>?_
  ·refine nh hg.ok rfl rfl rfl rfl rfl (yN k) (pt hka) (af ?_);refine nh hg.ok rfl rfl rfl rfl rfl (yN k) (pt hkb) (af ?_);have e1:IntKind.i64.wrap (a[k].toNat:Int)=a[k].toNat:=sK an (by have:=a[k].toNat_lt;omega);have e2:IntKind.i64.wrap (b[k].toNat:Int)=b[k].toNat:=sK an (by have:=b[k].toNat_lt;omega);rw[e1,e2];refine aF (tk _ _) ?_;refine cq ?_;have eo:¬ a[k]=b[k]:=fun e=>by simp[e]at h2
   rw[hm,if_neg eo];rfl
  ·have he:a[k]=b[k]:=by
    have:(a[k].toNat:Int)=b[k].toNat:=by simpa using h2
    exact UInt8.toNat_inj.1 an
   rw[if_pos he]at hm;exact Vx
 ·have aR:M≤k:=cf h rfl;refine aF (tk _ _) ?_;refine cq ?_;have Hi:a.data.toList.length=a.size:=by simp
  have hbb:b.data.toList.length=b.size:=by simp
  rw[hm,NT _ _ (by rw[List.drop_eq_nil_iff,List.drop_eq_nil_iff,Hi,hbb];omega),MC,MC,Hi,hbb,Int.ofNat_sub an,Int.ofNat_sub an,Yu];rfl

theorem Yw (a:Tm):∀b,a.size<1000000000→(∀x e,e∈a.gV x→e.2.s.size<1000000000)→bD Tryz.prog 159 [.agg [],a.av,b.av] (iV (Tm.BB a b)):=by
 induction a using Tm.ind with
 |_ a ih =>
 intro b hsz hns;have qP:a.s.size<1000000000:=hns 0 (0,a) PM;have hl:=Tm.cI a.l;have hs:=Tm.size_eq a;have hc:=Tm.abL a b;refine oY Tryz.func159 fun w S hg=>?_
 refine aj (fun h=>?_) fun h=>?_
 ·have h:¬ a.k=b.k:=by simpa using h
  refine aF (ack _) ?_;refine cq ?_;rw[hc,if_pos h];rfl
 have h1:a.k=b.k:=by simpa using h
 rw[if_neg MA]at hc;refine aj (fun h=>?_) fun h=>?_
 ·have h:¬ a.k=3:=by simpa using h
  refine aF (tk _ _) ?_;refine cq ?_;rw[hc,if_pos h];rfl
 have h2:a.k=3:=by simpa using h
 rw[if_neg PT]at hc;refine aF (tk _ _) ?_;refine aj (fun h=>?_) fun h=>?_
 ·refine cq ?_;simp only[Tm.au]at *;rw[hc,if_pos l6];rfl
 simp only[Tm.au]at h;rw[if_neg l6]at hc
 have Vd:a.l.length=b.l.length:=by
  have:pB (a.l.length:Int) b.l.length=0:=by simpa using h
  have:=S8.1 this;omega
 refine aF (Yv _ _ qP) ?_;refine aj (fun h=>?_) fun h=>?_
 ·refine cq ?_;rw[hc,if_pos l6];rfl
 rw[if_neg l6]at hc;refine bh (fun k:Nat=>([(3,.lo 0 0),(5,.lo 2 0),(50,.d (.sl (Tm.aa a.l))),(51,iV a.l.length),(52,iV k)],[.box [],aP a,aP b])) (fun k=>k≤a.l.length∧Tm.BB a b=Tm.Ke (a.l.drop k) (b.l.drop k)) (fun k=>a.l.length - k) 0 ⟨cT _,hc⟩ ⟨.refl _,.refl _,.refl _,bM.int uD,.refl _,trivial⟩ rfl ?_;rintro k ⟨Va,hm⟩;refine af ?_;refine aj (fun h=>?_) fun h=>?_
 ·have aR:k<a.l.length:=bK h rfl;have oz:k<b.l.length:=by omega
  have e1:a.l[k]? = some a.l[k]:=dY aR;have e2:b.l[k]? = some b.l[k]:=dY oz;rw[List.drop_eq_getElem_cons aR,List.drop_eq_getElem_cons oz,Tm.Ke]at hm;have hsm:=Tm.ct (eg aR);refine cW (Tm.aB e1) ?_;refine cW (Tm.aB e2) ?_;refine aF (ih _ (eg aR) b.l[k] an (fun x e he=>hns (x - 1) e (by rw[Tm.kr];exact Sw _ (Tm.vG (eg aR) agj)))) ?_;refine aj (fun h=>?_) fun h=>?_
  ·refine cq ?_;rw[hm,if_pos l6];rfl
  ·rw [if_neg l6] at hm;refine uB 3 fy rfl ?_;exact bp (k+1) ⟨aR,hm⟩ an IV rfl
 ·have aR:a.l.length≤k:=cf h rfl;refine cq ?_;rw[hm,gD aR,gD an];rfl

def eu (t:Tm):Prop:=t.size<1000000000∧∀x e,e∈t.gV x→e.2.s.size<1000000000
def TX (n:Nat):List Int:=(List.range n).map fun (i:Nat)=>(i:Int)
def nC (a b:Tm):Int × Int:=if c0 a&&c0 b then (Tm.BB a b,0) else (0,1)

theorem Cd (a b:Tm)(ha:eu a)(hb:eu b):bD Tryz.prog 147 [a.av,b.av] (.cH [iV (nC a b).1,iV (nC a b).2]):=by
 refine oY Tryz.func147 fun w S hg=>?_
 refine aF (eY a ha.1 (ha.2 1)) ?_;refine aj (fun h1=>?_) fun h1=>?_
 ·refine cq ?_;have h1:c0 a=false:=by simpa using h1
  simp only[nC,h1,vO];rfl
 have h1:c0 a=true:=by simpa using h1
 refine aF (eY b hb.1 (hb.2 1)) ?_;refine aj (fun h2=>?_) fun h2=>?_
 ·refine cq ?_;have h2:c0 b=false:=by simpa using h2
  simp only[nC,h1,h2,Bool.and_false];rfl
 have h2:c0 b=true:=by simpa using h2
 refine aF (Yw a b ha.1 ha.2) ?_;refine cq ?_;simp only[nC,h1,h2,PY,if_true];rfl
def k5:Tm:=.mk 2 ByteArray.empty 5 []
def k1:Tm:=.mk 1 ByteArray.empty 1 []
def k2:Tm:=.mk 2 ByteArray.empty 0 []
theorem TY {t:Tm}(h:t.bw=true)(hs:t.size<1000000000):eu t:=⟨hs,fun d e he=>uW h d e he⟩
end Go.Proofs.YtaagocopollacaaGreatDoor

namespace aw
open Go

theorem lV {α:Type}(p:α→Bool):∀ (l:List α) (i:Nat),iP p l i=none↔∀x∈l,p x=true
 |[],_=>by simp[iP]
 |x::r,i=>by
  simp only[iP];split
  ·rename_i h;rw[lV p r (i+1)];simp[h]
  ·rename_i h;simp[h]

theorem TZ (l:List Cs):(jV l).2=0↔l.length≤200∧(∀c∈l,nA c=true)∧∀c∈l,cR (pP l) c.body=true:=by
 unfold jV;split
 ·rename_i h;constructor
  ·intro h2;cases h2
  ·intro h2;omega
 ·rename_i h;have h:l.length≤200:=by omega
  cases h1:iP nA l 0 with
  |some i =>
   simp only;constructor
   ·intro h2;cases h2
   ·rintro ⟨_,h2,_⟩;rw[(lV nA l 0).2 h2]at h1;cases h1
  |none =>
   have h1:=(lV nA l 0).1 h1;simp only;cases h2:iP (fun c=>cR (pP l) c.body) l 0 with
   |some i =>
    simp only;constructor
    ·intro h2;cases h2
    ·rintro ⟨_,_,h3⟩;rw[(lV (fun c=>cR (pP l) c.body) l 0).2 h3]at h2;cases h2
   |none =>
    have h2:=(lV (fun c=>cR (pP l) c.body) l 0).1 h2;simp only[true_iff];exact⟨h,h1,h2⟩
end aw

namespace aw
open Go
section
variable {g:G} {pf:Nat→cC} {ad:Array Oper} {Fin:Exit→Act→World→Prop}
end
end aw
namespace aw
open Go
theorem Cs.R7 (out:List Cs)(x:Cs):Cs.aa out++[x.row]=Cs.aa (out++[x]):=by simp[Cs.aa]
end aw
namespace aw
open Go
end aw
namespace aw
open Go
end aw

namespace aw
open Go

theorem Cs.T0 {l m:List Cs}(h:l.Sublist m):Cs.ay l≤Cs.ay m:=by
 induction h with
 |slnil=>exact ef _
 |cons a _ ih=>simp only[Cs.ay];omega
 |cons_cons a _ ih=>simp only[Cs.ay];omega

theorem Cs.ct {l:List Cs}{c:Cs}(h:c∈l):Cs.size c≤Cs.ay l:=by
 have:=Cs.T0 (List.singleton_sublist.2 h);simp only[Cs.ay]at this;omega

structure Med (l:List Cs):Prop where
 sm:∀c∈l,TR c
 len:l.length≤210
 size:Cs.ay l≤3000
end aw
namespace aw
open Go
end aw
namespace aw
open Go
end aw
namespace aw
open Go
end aw
namespace aw
open Go
end aw
namespace aw
open Go
end aw

namespace aw
open Go Go.RowKit Go.MapKept
section
variable {g:G} {pf:Nat→cC} {ad:Array Oper} {Fin:Exit→Act→World→Prop}
end
end aw

namespace aw
open Go Go.RowKit Go.MapKept
end aw

namespace aw
open Go Go.RowKit Go.MapKept
section
variable {g:G} {pf:Nat→cC} {ad:Array Oper} {Fin:Exit→Act→World→Prop}
end
end aw

namespace aw
open Go Go.RowKit Go.MapKept
section
variable {g:G} {pf:Nat→cC} {ad:Array Oper} {Fin:Exit→Act→World→Prop}
end
end aw

namespace aw
open Go
end aw

namespace aw
open Go Go.RowKit
section
variable {g:G} {pf:Nat→cC} {ad:Array Oper}
end
section
variable {g:G} {pf:Nat→cC} {ad:Array Oper} {Fin:Exit→Act→World→Prop}
end
end aw
namespace aw
open Go Go.RowKit

def D4 (x y:D):Prop:=∀ (S:Nat→Prop) (w:World) (v:Value),Rd S w x v→Rd S w y v

def oJ:List D→List D→Prop
 |[],[]=>True
 |x::r,y::t=>D4 x y∧oJ r t
 |_,_=>False
theorem D4.refl (x:D):D4 x x:=fun _ _ _ h=>h
theorem D4.nil:D4 (.v (.slice none 0 0)) (.sl []):=fun S w v h=>by cases h;exact .nil _ _

theorem oJ.len:∀ {r t:List D},oJ r t→r.length=t.length
 |[],[],_=>rfl
 |_::_,_::_,h=>by simp[oJ.len h.2]
 |[],_::_,h=>h.elim
 |_::_,[],h=>h.elim

theorem oJ.get:∀ {r t:List D} {j:Nat} {y:D},oJ r t→t[j]? = some y→∃x,r[j]? = some x∧D4 x y
 |[],[],j,y,_,hj=>by simp at hj
 |x::r,z::t,0,y,h,hj=>by
  simp only[Ss,Option.some.injEq]at hj;subst hj;exact⟨x,rfl,h.1⟩
 |x::r,z::t,j+1,y,h,hj=>by
  simp only[Sp]at hj ⊢;exact oJ.get h.2 hj
 |[],_::_,_,_,h,_=>h.elim
 |_::_,[],_,_,h,_=>h.elim

theorem bM.S3 {row row':List D}(h:oJ row row'):bM (.fs [row]) (.d (.sl [row'])):=fun S w φ v hv=>by
 have hv:=bM.fs [row] S w φ v hv;simp only[RV]at hv ⊢;cases hv with
 |@sl _ b o cap sz cs T fr g hS hb hl hc hsz hg hr =>
  refine .sl (sz:=sz) g hS hb hl hc (fun i r hi=>?_) (fun i r j x hi hj=>?_) (fun i r j x hi hj=>?_)
  ·cases i with
   |zero=>cases hi;rw[← h.len];exact hsz 0 row rfl
   |succ i=>simp at hi
  ·cases i with
   |zero =>
    cases hi;obtain⟨x',h1,h2⟩:=h.get hj;exact hg 0 row j x' rfl h1
   |succ i=>simp at hi
  ·cases i with
   |zero =>
    cases hi;obtain⟨x',h1,h2⟩:=h.get hj;exact h2 _ _ _ (hr 0 row j x' rfl h1)
   |succ i=>simp at hi
end aw

namespace aw
open Go Go.RowKit
section
variable {g:G} {pf:Nat→cC} {ad:Array Oper} {Fin:Exit→Act→World→Prop}
end
end aw

namespace aw
open Go Go.RowKit
section
variable {g:G} {pf:Nat→cC} {ad:Array Oper} {Fin:Exit→Act→World→Prop}
end
end aw

namespace aw
open Go Go.RowKit
section
variable {g:G} {pf:Nat→cC} {ad:Array Oper} {Fin:Exit→Act→World→Prop}

theorem NU (hg:c9 g){dst:Option Nat}{T T':Nat}{x y:Operand}{ty:Nat}{pos:String}{after:Array Edge}{gd:Option (Nat × Bool)}{ax:List Oper}{k:List It}{E:bk}{objs:List Ob}
  {q q' cj oU e e':Nat} {z z':List Value} {τ:Ty} {aa:List (List D)}
  (bm:aG ad.toList E gd=some true) (hd:aO ⟨g.ty,g.N⟩ dst=true) (hx:ev E x=.fs aa) (hy:lB (ev E y)=.d (.sl []))
  (hT:g.ty T=some ⟨q,cj,z,.slice e⟩) (kX:g.ty T'=some ⟨q',oU,z',.slice e'⟩) (he:g.ty e=some τ)
  (hr:R g pf Fin (.dr ad ax::k) (bf E dst (.fs aa)) objs) :
  R g pf Fin (.dr ad (⟨dst,.call { callee:=.builtin .append,args:=#[x,y],argTypes:=#[T,T'] },ty,pos,after,gd⟩::ax)::k) E objs:=by
 refine cL (aI.eT hg (.refl _) bm hd aC fun φ a w hρ hs=>?_) hr;simp only[Op.operands,Call.operands]at hρ;have aN:=hρ x aC;have ew:=bM.lB _ _ _ _ _ (hρ y aC);rw[hy]at ew;rw[hx]at aN;have ao9:=aN;simp only[RV]at ew aN;obtain⟨_,a0,hv⟩:=aN;obtain⟨cells,hN⟩:=DN.EF (P:=g.P) (sz:=τ.size) ew aC;have hτ:=hg.ty _ _ he;obtain⟨xa,xc,Mh⟩:=hN.sl;have rL:cells=[]:=jy.1 PL;subst rL;have fm:=mB (tr:=ty) (bN hg hT) (bN hg kX) hτ (a:=a0) (n:=aa.length) (cap:=aa.length) Mh (hN.run w rfl) cP;refine⟨.value (a.eval x),a.eval x,w,φ,?_,.inl rfl,ao9,.refl hs⟩;simp only[execOp,resolve,invoke,builtin,Sem.run_bind,Sem.run_pure,Result.andThen_ok,rC,List.map_cons,fj,hv,fm]
end
end aw

namespace aw
open Go Go.RowKit
section
variable {g:G} {pf:Nat→cC} {ad:Array Oper} {Fin:Exit→Act→World→Prop}
end
end aw

namespace aw
open Go Go.RowKit

theorem bM.agg {l m:List AV}(h:GI l m):bM (.agg l) (.agg m):=fun S w φ v hv=>by
 simp only[RV]at hv ⊢;obtain⟨cs,h1,h2⟩:=hv;exact⟨cs,h1,h.rvs h2⟩
section
variable {g:G} {pf:Nat→cC} {ad:Array Oper} {Fin:Exit→Act→World→Prop}
end
end aw

namespace aw
open Go Go.RowKit

def mG:List (List D)→List (List D)→Prop
 |[],[]=>True
 |x::r,y::t=>oJ x y∧mG r t
 |_,_=>False

theorem mG.len:∀ {r t:List (List D)},mG r t→r.length=t.length
 |[],[],_=>rfl
 |_::_,_::_,h=>by simp[mG.len h.2]
 |[],_::_,h=>h.elim
 |_::_,[],h=>h.elim

theorem mG.get:∀ {r t:List (List D)} {j:Nat} {y:List D},mG r t→t[j]? = some y→∃x,r[j]? = some x∧oJ x y
 |[],[],j,y,_,hj=>by simp at hj
 |x::r,z::t,0,y,h,hj=>by
  simp only[Ss,Option.some.injEq]at hj;subst hj;exact⟨x,rfl,h.1⟩
 |x::r,z::t,j+1,y,h,hj=>by
  simp only[Sp]at hj ⊢;exact mG.get h.2 hj
 |[],_::_,_,_,h,_=>h.elim
 |_::_,[],_,_,h,_=>h.elim

theorem D4.sl {aa rows':List (List D)}(h:mG aa rows'):D4 (.sl aa) (.sl rows'):=fun S w v hv=>by
 cases hv with
 |nil a c =>
  have:rows'=[]:=by cases rows' with
   |nil=>rfl
   |cons x r=>exact h.elim
  subst this;exact .nil a c
 |@sl _ b o cap sz cs T fr g hS hb hl hc hsz hg hr =>
  have aZ:=h.len;rw[aZ];refine .sl (sz:=sz) g hS hb (by rw[← aZ];exact hl) hc (fun i r hi=>?_) (fun i r j x hi hj=>?_) (fun i r j x hi hj=>?_)
  ·obtain ⟨x,h1,h2⟩:=h.get hi;rw[← h2.len];exact hsz i x h1
  ·obtain ⟨x1,h1,h2⟩:=h.get hi;obtain⟨x',h3,h4⟩:=h2.get hj;exact hg i x1 j x' h1 h3
  ·obtain ⟨x1,h1,h2⟩:=h.get hi;obtain⟨x',h3,h4⟩:=h2.get hj;exact h4 _ _ _ (hr i x1 j x' h1 h3)

theorem bM.d {x y:D}(h:D4 x y):bM (.d x) (.d y):=fun S w φ v hv=>by
 simp only[RV]at hv ⊢;exact h _ _ _ hv
theorem bM.aa {aa rows':List (List D)}(h:mG aa rows'):bM (.fs aa) (.d (.sl rows')):=fun S w φ v hv=>bM.d (D4.sl h) S w φ v (bM.fs aa S w φ v hv)
end aw

namespace aw
open Go

structure Is where
 op:Int
 v:Int
 n:Int
 s:ByteArray
namespace Is
end Is
def e0:ByteArray:=⟨#[]⟩

structure Ky where
 kind:Int
 n:Int
 s:ByteArray

structure En where
 s:ByteArray
 args:Int
 at_:Int
 aqE:Int
 key:Ky
namespace En
end En
end aw
namespace aw
open Go

theorem Fv (es:List (Int × Tm)):∀a:List Int,(es.foldl fJ a).length≤a.length+es.length:=by
 induction es with
 |nil=>intro a;exact ef _
 |cons x r ih =>
  intro a;have h1:=ih (fJ a x)
  have h2:(fJ a x).length≤a.length+1:=by
   unfold fJ jT;split
   ·split<;>simp
   ·omega
  simp only[vI,dv];omega

theorem NV (t:Tm):(bH [t]).length≤t.size:=by
 have:=Fv (t.gV 1) [];rw[Tm.lE]at this;simpa[bH]using this
def um (s:ByteArray):Tm:=.mk 3 s 0 []
def Yx:ByteArray:=⟨#[113,117,101,114,121]⟩
def pfC (s:ByteArray)(q:Cs):Cs:=⟨um s,q.body,q.vars⟩

theorem Yy (s:ByteArray)(h1:(um s).bS=true)(h2:tV (um s)=true)(q:Cs):nA (pfC s q)=(decide (0≤q.vars)&&decide (q.vars≤1000)&&(b9 q.vars q.body 20 1 true).1):=by
 have h3:qA q.vars (um s)=true:=by
  rw[Cc];unfold wL;rw[h1,show bH [um s]=[] by rfl];rfl
 show (decide (0≤q.vars)&&decide (q.vars≤1000)&&qA q.vars (um s)&&tV (um s)&&(b9 q.vars q.body 20 1 true).1)=_
 rw[h2,h3];simp
theorem Hj:(um Yx).bS=true∧tV (um Yx)=true:=⟨by kernel_rfl,by kernel_rfl⟩

def pQ (q:Cs)(l:List Cs):Bool :=
 ((jV l).2==0)&&(q.head.k==3)&&bE q.head.s ⟨#[63]⟩&&q.head.bS&&(bH [q.head]).all (fun x=>decide (x<q.vars))&&nA (pfC Yx q)&&cR (pP l) q.body

structure amk (q:Cs) (l:List Cs):Prop where
 prog:(jV l).2=0
 kind:q.head.k=3
 name:q.head.s=⟨#[63]⟩
 right:q.head.bS=true
 vars:∀x∈bH [q.head],x<q.vars
 aml:0≤q.vars
 afj:q.vars≤1000
 body:(b9 q.vars q.body 20 1 true).1=true
 there:cR (pP l) q.body=true

theorem wM {q:Cs}{l:List Cs}(h:pQ q l=true):amk q l:=by
 unfold pQ at h;simp only[aV,beq_iff_eq]at h;obtain⟨⟨⟨⟨⟨⟨h1,h2⟩,h3⟩,h4⟩,h5⟩,h6⟩,h7⟩:=h;rw[Yy _ Hj.1 Hj.2]at h6;simp only[aV,decide_eq_true_eq]at h6;exact⟨h1,h2,Tm.bo.1 h3,h4,fun x hx=>by simpa using fk.1 h5 x hx,h6.1.1,h6.1.2,h6.2,h7⟩
end aw

namespace aw
open Go
section
variable {σ:Type} (F:σ→Int→Tm→σ × Tm)
end

theorem oh (l:List Tm)(x:Tm):Tm.aa l++[[.v (.int .i64 x.k),.v (.string x.s),.v (.int .i64 x.n),.sl (Tm.aa x.l)]]=Tm.aa (l++[x]):=by
 rw[Tm.dZ (l++[x]),List.map_append,Tm.dZ l];cases x;rfl
end aw

namespace aw
open Go

structure Ak where
 h:Bool
 al:List Tm
 ap:Bool
 tx:Bs
 nx:Int
 e:Int
def gj (n:Int):Tm:=.mk 2 ByteArray.empty n []
def gG (s:ByteArray):Tm:=.mk 3 s 0 []

def bX (nx:Int)(l:List Tm):Ak:=if l.all c0 then ⟨true,l,false,[],nx,0⟩ else ⟨false,[],false,[],nx,3⟩
def eG (nx e:Int):Ak:=⟨false,[],false,[],nx,e⟩
def mg (nx:Int)(b:Bool):Ak:=⟨b,[],false,[],nx,0⟩

def dy (nx:Int):Nat→List Tm
 |0=>[]
 |m+1=>.mk 1 ByteArray.empty nx []::dy (nx+1) m

def cA (nx:Int)(t n a:Tm):Ak :=
 if t.k=2 then bX nx [n,t,a,gj 0]
 else if t.k=3 then bX nx [n,gG t.s,a,gj t.l.length]
 else if n.k=1∨a.k=1 then eG nx 4
 else if a.k≠2∨0<n.l.length then eG nx 5
 else if a.n<0∨a.n > 8 then eG nx 6
 else if a.n=0 then bX nx [t,n]
 else if n.k=2 then eG nx 5
 else bX (nx+a.n) [t,.mk 3 n.s 0 (dy nx a.n.toNat)]

def lW (nx:Int)(n t a:Tm):Ak :=
 if n.k=1∨t.k=1 then eG nx 4
 else if n.k≠2∨t.l.length=0 then eG nx 5
 else if n.n<1∨n.n > t.l.length then mg nx false
 else bX nx [(t.l[(n.n - 1).toNat]?).getD aJ,a]

def rf:Nat→Tm→List Tm × Tm
 |0,t=>([],t)
 | f+1,t=>if t.k=3∧t.s=Tx [46]∧t.l.length=2 then
   (((t.l[0]?).getD aJ)::(rf f ((t.l[1]?).getD aJ)).1,(rf f ((t.l[1]?).getD aJ)).2) else ([],t)
def gR (t:Tm):List Tm × Tm:=rf t.size t
def dG (l:List Tm):Tm:=l.foldr (fun x r=>.mk 3 (Tx [46]) 0 [x,r]) (gG (Tx [91,93]))

def jr (nx:Int)(t r:Tm):Ak :=
 if t.k=2 then bX nx [r,dG [t]]
 else if t.k=3 then bX nx [r,dG (gG t.s::t.l)]
 else if (gR r).2.k=1 then eG nx 4
 else if (gR r).2.same (gG (Tx [91,93]))=false∨(gR r).1=[] then eG nx 5
 else match (gR r).1 with
  |[]=>eG nx 5
  |h::m =>
   if h.k=1 then eG nx 4
   else if 0<h.l.length then eG nx 5
   else if m=[] then bX nx [t,h]
   else if 8<m.length then eG nx 6
   else if h.k=2 then eG nx 5
   else bX nx [t,.mk 3 h.s 0 m]

mutual
def zN:Tm→Tm→Nat
 | .mk k s n l,b =>
  if (Tm.mk k s n l).same b then 0
  else if k=1∧b.k=1 then 2
  else if k≠3∨b.k≠3∨s≠b.s∨l.length≠b.l.length then 1
  else NW l b.l
def NW:List Tm→List Tm→Nat
 |[],_=>0
 |_::_,[]=>0
 |x::l,y::m=>if zN x y≠0 then zN x y else NW l m
end
def jd (nx:Int)(a b:Tm)(is:Int→Bool):Ak:=if zN a b=2 then eG nx 4 else mg nx (is (Tm.BB a b))
def Ce (nx:Int)(a b:Tm):Ak:=if (bt b).2≠0 then eG nx (bt b).2 else bX nx [a,gj (bt b).1]

def Q9 (nx:Int)(s:ByteArray)(a b:Tm):Ak :=
 if (bt a).2≠0 then eG nx (bt a).2
 else if (bt b).2≠0 then eG nx (bt b).2
 else mg nx (DZ s (bt a).1 (bt b).1).1

def Af (nx:Int)(t:Tm):Ak:=if (fC [] (uz t)).length≤8000 then ⟨true,[],false,fC [] (uz t),nx,0⟩ else eG nx 3

def dR (s:ByteArray)(l:List Tm)(nx:Int):Ak :=
 let a:=(l[0]?).getD aJ
 let b:=(l[1]?).getD aJ
 let c:=(l[2]?).getD aJ
 if s=Tx [102,97,105,108] then mg nx false
 else if s=Tx [110,108] then ⟨true,[],false,[10],nx,0⟩
 else if s=Tx [119,114,105,116,101] then Af nx (((dH l).1[0]?).getD aJ)
 else if s=Tx [118,97,114] then mg nx (decide (a.k=1))
 else if s=Tx [110,111,110,118,97,114] then mg nx (decide (a.k≠1))
 else if s=Tx [97,116,111,109] then mg nx (decide (a.k=3∧a.l.length=0))
 else if s=Tx [105,110,116,101,103,101,114] then mg nx (decide (a.k=2))
 else if s=Tx [61] then bX nx [a,b]
 else if s=Tx [92,61] then (if (bX nx [a,b]).h then ⟨true,[a,b],true,[],nx,0⟩ else eG nx 3)
 else if s=Tx [61,61] then mg nx (a.same b)
 else if s=Tx [92,61,61] then mg nx (!a.same b)
 else if s=Tx [64,60] then jd nx a b fun n=>decide (n<0)
 else if s=Tx [64,62] then jd nx a b fun n=>decide (n > 0)
 else if s=Tx [64,61,60] then jd nx a b fun n=>decide (n≤0)
 else if s=Tx [64,62,61] then jd nx a b fun n=>decide (n ≥ 0)
 else if s=Tx [105,115] then Ce nx a b
 else if s=Tx [102,117,110,99,116,111,114] then cA nx a b c
 else if s=Tx [97,114,103] then lW nx a b c
 else if s=Tx [61,46,46] then jr nx a b
 else Q9 nx s a b
end aw

namespace Go.Proofs.YtaagocopollacaaGreatDoor
open Go aw Go.Proofs

def alD:List Tm→D
 |[]=>.v (.slice none 0 0)
 |x::r=>.sl (Tm.aa (x::r))
def jR (l al:List Tm)(ap:Bool)(tx:ByteArray)(nx e:Int):List Ob:=[.box [.d (.sl (Tm.aa l)),bV false,.d (alD al),bV ap,.d (.v (.string tx)),iV nx,iV e]]
theorem dL (o:List Ob)(l al:List Tm)(ap:Bool)(tx:ByteArray)(nx e:Int):(jR l al ap tx nx e).map (aQ (bQ false 1 o 5))=jR l al ap tx nx e:=by cases al<;>rfl

def nD (e c:Int):Int:=if e=0 then c else e

theorem tn (Y:YP)(l al:List Tm)(ap:Bool)(tx:ByteArray)(nx e c:Int):aU Tryz.prog Y 146 [.lo 0 0,iV c] (jR l al ap tx nx e) (bV false) (jR l al ap tx nx (nD e c)):=by
 refine uw Tryz.func146 fun w S φ hg=>?_
 refine aj (fun h=>?_) fun h=>?_
 ·have h:e=0:=by simpa using h
  subst h;rw[nD,if_pos rfl];exact aK hg 1 5 cP rfl rfl (dL _ l al ap tx nx c)
 ·have h:¬ e=0:=by simpa using h
  rw[nD,if_neg h];exact aK hg 1 5 cP rfl rfl (dL _ l al ap tx nx e)

theorem Cf (n:Int):bD Tryz.prog 150 [iV n] (gj n).av:=by
 refine oY Tryz.func150 fun w S hg=>?_
 refine cq ?_;rfl

theorem tp (s:ByteArray):bD Tryz.prog 151 [.d (.v (.string s))] (gG s).av:=by
 refine oY Tryz.func151 fun w S hg=>?_
 refine cq ?_;rfl

theorem NX (Y:YP)(l al l2:List Tm)(ap:Bool)(tx:ByteArray)(nx e:Int)(hb:∀t∈l2,eu t)(eo:l2≠[])(aZ:l2.length≤1000):aU Tryz.prog Y 127 [.lo 0 0,.d (.sl (Tm.aa l2))] (jR l al ap tx nx e) (bV (l2.all c0)) (if l2.all c0 then jR l l2 ap tx nx e else jR l al ap tx nx (nD e 3)):=by
 refine aU.ej (pf:=fun _=>.ji) gK mixed Tryz.func127 rfl cX cX (by simp[Tryz.ntmps127]) (by split<;>simp[jR]) fun w S φ hg=>?_
 have hφ:φ.length=1:=hg.j5.len;have kQ:=Tm.au l2;refine af ?_;refine bh (fun k:Nat=>([(0,.lo 0 0),(1,.d (.sl (Tm.aa l2))),(7,.d (.sl (Tm.aa l2))),(8,iV l2.length),(9,iV k)],jR l al ap tx nx e)) (fun k=>k≤l2.length∧l2.all c0=(l2.drop k).all c0) (fun k=>l2.length - k) 0 ⟨cT _,rfl⟩ ⟨.refl _,.refl _,.refl _,by rw[kQ];exact .refl _,.refl _,trivial⟩ rfl ?_;rintro k ⟨hk,BQ⟩;refine af ?_;refine aj (fun h=>?_) fun h=>?_
 ·have aR:k<l2.length:=bK h rfl;have e1:l2[k]? = some l2[k]:=dY aR;have hm:=hb _ (eg aR);have hd:l2.drop k=l2[k]::l2.drop (k+1):=List.drop_eq_getElem_cons aR;rw[hd,rE]at BQ;generalize l2[k]=x at e1 hm BQ;refine cW (Tm.aB e1) ?_;refine aF (eY x hm.1 (hm.2 1)) ?_;cases hr:c0 x with
  |true =>
   rw[hr,jX]at BQ;refine gu ?_;refine bb 1 (jR l al ap tx nx e) sN rfl rfl ?_;exact bp (k+1) ⟨aR,BQ⟩ an IV rfl
  |false =>
   rw[hr,vO]at BQ;rw[BQ];refine oS ?_;refine ai hg.ok hg.cm hg.wide hg.Y [0] (jR l al ap tx nx (nD e 3)++[aP x]) (tn Y l al ap tx nx e 3) cF rfl rfl rfl rfl rfl rfl rfl rfl (af ?_);exact aK hg 1 5 cP rfl rfl (dL _ l al ap tx nx (nD e 3))
 ·have aR:l2.length≤k:=cf h rfl;rw[List.drop_of_length_le aR]at BQ;rw[BQ]
  have apa:D.sl (Tm.aa l2)=alD l2:=by
   cases l2 with
   |nil=>exact absurd rfl eo
   |cons x r=>rfl
  have e2:∀o:List Ob,[Ob.box [.d (.sl (Tm.aa l)),bV false,.d (.sl (Tm.aa l2)),bV ap,.d (.v (.string tx)),iV nx,iV e]].map (aQ (bQ false 1 o 5))=jR l l2 ap tx nx e:=fun o=>by
   rw[apa];exact dL o l l2 ap tx nx e
  exact aK hg 1 5 cP rfl rfl (e2 _)

theorem acm (a b:Tm):zN a b=if a.same b then 0 else if a.k=1∧b.k=1 then 2 else if a.k≠3∨b.k≠3∨a.s≠b.s∨a.l.length≠b.l.length then 1 else NW a.l b.l:=by
 cases a;rw[zN];rfl
def Yz (n:Nat):AV:=.cH [bV (decide (n=2)),bV (decide (n≠0))]

theorem NY (a:Tm):∀b,a.size<1000000000→bD Tryz.prog 145 [a.av,b.av] (Yz (zN a b)):=by
 induction a using Tm.ind with
 |_ a ih =>
 intro b hsz;refine oY Tryz.func145 fun w S hg=>?_
 refine aF (G5 a b hsz) ?_;have hd:=acm a b;refine aj (fun h0=>?_) fun h0=>?_
 ·refine cq ?_;rw[hd,if_pos h0];rfl
 rw[if_neg (by simp[h0])]at hd;refine aj (fun h1=>?_) fun h1=>?_
 ·have h1:a.k=1:=by simpa using h1
  refine cq ?_;by_cases h2:b.k=1
  ·rw[hd,if_pos ⟨h1,h2⟩];simp[h1,h2,Yz,bV]
  ·rw [hd,if_neg (fun h=>h2 h.2),if_pos (.inl an)];have h3:¬ a.k=b.k:=by omega
   simp[h3,Yz,bV]
 have h1:¬ a.k=1:=by simpa using h1
 rw[if_neg (fun h=>h1 h.1)]at hd;refine aj (fun h2=>?_) fun h2=>?_
 ·have h2:b.k=1:=by simpa using h2
  refine cq ?_;rw[hd,if_pos (.inr (.inl an))];have h3:¬ a.k=b.k:=by omega
  simp[h3,Yz,bV]
 refine aj (fun h3=>?_) fun h3=>?_
 ·have h3:a.k≠3:=by simpa using h3
  refine cq ?_;rw[hd,if_pos (.inl h3)];rfl
 have h3:a.k=3:=by simpa using h3
 refine aj (fun h4=>?_) fun h4=>?_
 ·have h4:b.k≠3:=by simpa using h4
  refine cq ?_;rw[hd,if_pos (.inr (.inl h4))];rfl
 have h4:b.k=3:=by simpa using h4
 refine aj (fun h5=>?_) fun h5=>?_
 ·have h5:a.s≠b.s:=fun he=>by rw [he] at h5; simp [Tm.bo.2 rfl] at h5
  refine cq ?_;rw[hd,if_pos (.inr (.inr (.inl h5)))];rfl
 have h5:a.s=b.s:=by
  apply Tm.bo.1;simpa using h5
 refine aj (fun h6=>?_) fun h6=>?_
 ·have h6:a.l.length≠b.l.length:=fun he=>by simp [Tm.au,he] at h6
  refine cq ?_;rw[hd,if_pos (.inr (.inr (.inr h6)))];rfl
 have h6:a.l.length=b.l.length:=by
  simp[Tm.au]at h6;omega
 rw[if_neg (by simp[h3,h4,h5,h6])]at hd;rw[hd];have al5:=Tm.cI a.l;have DP:=Tm.size_eq a;refine bh (fun k:Nat=>([(3,.lo 1 0),(51,.d (.sl (Tm.aa a.l))),(52,iV a.l.length),(53,iV k)],[aP a,aP b])) (fun k=>k≤a.l.length∧NW a.l b.l=NW (a.l.drop k) (b.l.drop k)) (fun k=>a.l.length - k) 0 ⟨cT _,rfl⟩ ⟨.refl _,.refl _,bM.int uD,.refl _,trivial⟩ rfl ?_;rintro k ⟨Va,hk⟩;refine af ?_;refine aj (fun h=>?_) fun h=>?_
 ·have aR:k<a.l.length:=by have:=of_decide_eq_true h; omega
  have oz:k<b.l.length:=by omega
  have e1:a.l[k]? = some a.l[k]:=dY aR;have e2:b.l[k]? = some b.l[k]:=dY oz;rw[List.drop_eq_getElem_cons aR,List.drop_eq_getElem_cons oz,NW]at hk;have hm:=Tm.ct (eg aR);refine cW (Tm.aB e1) ?_;refine cW (Tm.aB e2) ?_;refine aF (ih _ (eg aR) b.l[k] an) ?_;refine aj (fun h=>?_) fun h=>?_
  ·have h:zN a.l[k] b.l[k]≠0:=by simpa using h
   rw[if_pos h]at hk;refine cq ?_;rw[hk];simp[Yz,bV,h]
  ·have h:¬ zN a.l[k] b.l[k]≠0:=by simpa using h
   rw[if_neg h]at hk;refine uB 2 fy rfl ?_;exact bp (k+1) ⟨aR,hk⟩ an af9 rfl
 ·refine cq ?_;have h4:¬ ((k:Int)<(a.l.length:Int)):=of_decide_eq_false h;rw[hk,gD an,NW];rfl

theorem Fw:∀ (n m:Nat) (t:Tm),t.size≤n→t.size≤m→rf n t=rf m t
 |0,_,t,h,_=>by have:=Gl.y2 t;omega
 |_+1,0,t,_,h=>by have:=Gl.y2 t;omega
 |n+1,m+1,t,h1,h2=>by
  simp only[rf];split
  ·rename_i h;obtain⟨_,_,hl⟩:=h;have e1:t.l[1]? = some t.l[1]:=dY an;have hm:=Tm.ct (eg (show 1<t.l.length by omega));have hs:=Tm.size_eq t;rw[e1,Option.getD_some,Fw n m t.l[1] an an]
  ·rfl

def qB (t:Tm):Bool:=decide (t.k=3)&&bE t.s (Tx [46])&&decide (t.l.length=2)

theorem ahY {t:Tm}(h:qB t=false):gR t=([],t):=by
 unfold gR;obtain⟨n,hn⟩:∃n,t.size=n+1:=⟨t.size - 1,by have:=Gl.y2 t;omega⟩;rw[hn,rf,if_neg];rintro⟨h1,h2,h3⟩;simp[qB,h1,h3,Tm.bo.2 h2]at h

theorem acn {t a b:Tm}(h:qB t=true)(ha:t.l[0]? = some a)(hb:t.l[1]? = some b):gR t=(a::(gR b).1,(gR b).2):=by
 unfold gR;obtain⟨n,hn⟩:∃n,t.size=n+1:=⟨t.size - 1,by have:=Gl.y2 t;omega⟩;simp only[qB,aV,decide_eq_true_eq]at h;have hm:=Tm.ct (gZ hb);have hs:=Tm.size_eq t;rw[hn,rf,if_pos ⟨h.1.1,Tm.bo.1 h.1.2,h.2⟩,ha,hb,Option.getD_some,Option.getD_some,Fw n b.size b an cP]
def amm (t:Tm)(l:List Tm):List Ob:=[aP t,.box [iV 0,.d (.v (.string ByteArray.empty)),iV 0,.d (.v (.slice none 0 0))],.arr 4 l.length (Tm.aa l)]
def amn:Nat→cC:=fun f=>bif Nat.beq f 4000000007 then .Qd else bif Nat.beq f 4000000006 then .bO 200 else .ji

theorem YA (t:Tm)(ht:t.size≤1000000):bD Tryz.prog 153 [t.av] (.cH [.d (.sl (Tm.aa (gR t).1)),(gR t).2.av]):=by
 refine bD.ej (pf:=amn) gK mixed Tryz.func153 rfl cX cX (by simp[Tryz.ntmps153]) fun w S hg=>?_
 refine gv hg.ok 6 rfl rfl ?_;refine JL 4 4 rfl rfl (af ?_);refine bh (fun x:Tm × List Tm=>([(1,.lo 0 0),(3,.lo 1 0),(4,.ow 2 x.2.length)],amm x.1 x.2)) (fun x=>gR t=(x.2++(gR x.1).1,(gR x.1).2)∧x.1.size+x.2.length≤1000000) (fun x=>x.1.size) (t,[]) ⟨rfl,by simpa using ht⟩ uC rfl ?_;rintro⟨u,l⟩ ⟨hm,hs⟩;simp only at hm hs;have kQ:=Tm.au l;refine af ?_;have hno:qB u=false→gR t=(l,u):=fun h=>by rw[hm,ahY h,vJ]
 refine aj (fun h1=>?_) fun h1=>?_
 rotate_left
 ·have h1:¬ u.k=3:=by simpa using h1
  refine Px ?_;rw[hno (by simp[qB,h1])];rfl
 have h1:u.k=3:=by simpa using h1
 refine aj (fun h2=>?_) fun h2=>?_
 rotate_left
 ·have h2:bE u.s (Tx [46])=false:=by simp at h2; exact h2
  refine Px ?_;rw[hno (by simp[qB,h2])];rfl
 have h2:bE u.s (Tx [46])=true:=by simp at h2;exact h2
 refine aj (fun h3=>?_) fun h3=>?_
 rotate_left
 ·have h3:¬ u.l.length=2:=fun he=>by simp [Tm.au,he] at h3
  refine Px ?_;rw[hno (by simp[qB,h3])];rfl
 have h3:u.l.length=2:=by
  simp[Tm.au]at h3;omega
 have e1:u.l[0]? = some (u.l[0]' an):=dY an;have e2:u.l[1]? = some (u.l[1]' an):=dY an;have hm1:=Tm.ct (eg (show 1<u.l.length by omega));have hsz:=Tm.size_eq u;have ahZ:=acn (t:=u) (by simp[qB,h1,h2,h3]) e1 e2;generalize u.l[0]' an=a at e1 ahZ;generalize u.l[1]' an=b at e2 ahZ hm1;refine dN hg.ok rfl rfl rfl rfl rfl rfl fi (Tm.aB e1) rfl (af ?_);refine dp hg.ok (Tm.aa (l++[a])) rfl rfl rfl rfl rfl rfl rfl rfl rfl aC I4 (oh l a) Sd Sd (af ?_);refine dN hg.ok rfl rfl rfl rfl rfl rfl fi (Tm.aB e2) rfl (af ?_);exact bp (b,l++[a]) ⟨by rw[hm,ahZ];simp,by simp;omega⟩ ka ⟨.refl _,.refl _,by simp only[List.length_append,dv,lM];exact .refl _,trivial⟩ (by simp only[amm,List.length_append,dv,lM];rfl)
end Go.Proofs.YtaagocopollacaaGreatDoor

namespace Go.Proofs.YtaagocopollacaaGreatDoor
open Go aw Go.Proofs
variable{t:Tm}
theorem rW(x:Tm)(l:List Tm):dG (x::l)=.mk 3 (Tx [46]) 0 [x,dG l]:=rfl

theorem T3(a b:Tm):bM (.fs [Tm.row a,Tm.row b]) (.d (.sl (Tm.aa [a,b]))):=by
 have e:Tm.aa [a,b]=[Tm.row a,Tm.row b]:=by cases a;cases b;rfl
 rw[e];exact bM.fs _
def amp:Ob:=.box [iV 0,.d (.v (.string ByteArray.empty)),iV 0,.d (.v (.slice none 0 0))]

theorem Fx(l:List Tm)(hl:l.length≤1000000):bD Tryz.prog 152 [.d (.sl (Tm.aa l))] (dG l).av:=by
 have kQ:=Tm.au l;refine zp Tryz.func152 fun w S hg=>?_
 refine aF (tp (Tx [91,93])) ?_;refine bh (fun k:Nat=>([(0,.d (.sl (Tm.aa l))),(2,.lo 0 0),(3,.lo 1 0),(4,iV ((l.length:Int) - 1 - k))],[amp,aP (dG (l.drop (l.length - k)))])) (fun k=>k≤l.length) (fun k=>l.length - k) 0 fy ⟨.refl _,.refl _,.refl _,?_,trivial⟩ (by rw[So,List.drop_length];rfl) ?_
 ·rw[kQ];exact bM.wrap an an an
 rintro k hk;refine af ?_;refine aj (fun h=>?_) fun h=>?_
 ·have h:(0:Int)≤(l.length:Int) - 1 - k:=by simpa using h
  have aR:k<l.length:=by omega
  have hi:((l.length:Int) - 1 - k).toNat=l.length - (k+1):=by omega
  have e1:l[l.length - (k+1)]? = some (l[l.length - (k+1)]' an):=dY an
  have hd:l.drop (l.length - (k+1))=l[l.length - (k+1)]' an::l.drop (l.length - k):=by
   rw[List.drop_eq_getElem_cons an];congr 2;omega
  generalize l[l.length - (k+1)]' an=x at e1 hd;refine dN hg.ok rfl rfl rfl rfl rfl rfl h (by rw[hi];exact Tm.aB e1) rfl ?_;refine vC ?_;refine vB [amp,aP (.mk 3 (Tx [46]) 0 [x,dG (l.drop (l.length - k))])] ⟨nR.refl _,⟨.refl _,.refl _,.refl _,T3 x _,trivial⟩,trivial⟩ rfl (af ?_);refine bp (k+1) aR an ⟨.refl _,.refl _,.refl _,bM.wrap an an zu,trivial⟩ ?_;rw[hd,rW];rfl
 ·have h:¬ (0:Int)≤(l.length:Int) - 1 - k:=by simpa using h
  have:l.length - k=0:=by omega
  rw[this];refine cq ?_;rfl

theorem aco(Y:YP)(l l2:List Tm)(ap:Bool)(nx:Int)(hb:∀t∈l2,eu t)(eo:l2≠[])(aZ:l2.length≤1000):aU Tryz.prog Y 127 [.lo 0 0,.d (.sl (Tm.aa l2))] (jR l [] ap ByteArray.empty nx 0) (bV (bX nx l2).h) (jR l (bX nx l2).al ap ByteArray.empty (bX nx l2).nx (bX nx l2).e):=by
 have h:=NX Y l [] l2 ap ByteArray.empty nx 0 hb eo aZ;unfold bX;by_cases hr:l2.all c0=true
 ·rw[if_pos hr];rw[hr]at h;exact h
 ·have QC:l2.all c0=false:=by simpa using hr
  rw[if_neg hr];rw[QC]at h;exact h

theorem km(Y:YP)(l:List Tm)(nx c:Int):aU Tryz.prog Y 146 [.lo 0 0,iV c] (jR l [] false ByteArray.empty nx 0) (bV false) (jR l [] false ByteArray.empty nx c):=by
 have h:=tn Y l [] false ByteArray.empty nx 0 c
 rwa [nD,if_pos rfl]at h

theorem y6:∀ (k:Nat) (nx:Int),dy nx (k+1)=dy nx k++[.mk 1 ByteArray.empty (nx+k) []]
 |0,nx=>by simp[dy]
 |k+1,nx=>by
  have e:nx+1+(k:Int)=nx+((k+1:Nat):Int):=by omega
  rw[dy,y6 k (nx+1),dy,jj,e]

theorem Cg:∀ (k:Nat) (nx:Int),(dy nx k).length=k
 |0,_=>rfl
 |k+1,nx=>by rw[dy,dv,Cg k]

theorem KR{nx:Int}{k:Nat}:∀t∈dy nx k,t.size=1∧t.s=ByteArray.empty∧t.l=[]:=by
 induction k generalizing nx with
 |zero=>simp[dy]
 |succ k ih =>
  intro t ht;rw[dy]at ht;rcases eL.1 ht with rfl |ht
  ·exact⟨by simp[Tm.size,Tm.ay],rfl,rfl⟩
  ·exact ih t ht

abbrev y7 (Y:YP) (f:Nat) (l:List Tm) (nx:Int) (k:Ak):Prop:=aU Tryz.prog Y f [.lo 0 0] (jR l [] false ByteArray.empty nx 0) (bV k.h) (jR l k.al k.ap (Tx k.tx) k.nx k.e)

theorem Ch(n:Int):eu (gj n):=⟨by simp[gj,Tm.size,Tm.ay],fun d e he=>by
 rw[gj,Tm.kr]at he;rcases eL.1 he with rfl |he
 ·show ByteArray.empty.size<_;decide
 ·simp[Tm.l,Tm.iK]at he⟩

theorem Ci{s:ByteArray}(h:s.size<1000000000):eu (gG s):=⟨by simp[gG,Tm.size,Tm.ay],fun d e he=>by
 rw[gG,Tm.kr]at he;rcases eL.1 he with rfl |he
 ·exact h
 ·simp[Tm.l,Tm.iK]at he⟩
theorem Hk(h:eu t):t.s.size<1000000000:=h.2 0 (0,t) PM

theorem wN{t x:Tm}(h:eu t)(hx:x∈t.l):eu x:=by
 have h1:=Tm.ct hx;have h2:=Tm.size_eq t;refine⟨by have:=h.1;omega,fun d e he=>h.2 (d - 1) e ?_⟩;rw[Tm.kr];exact Sw _ (Tm.vG hx agj)

theorem Hl{k n:Int}{s:ByteArray}{l:List Tm}(hs:s.size<1000000000)(hl:∀x∈l,eu x)(hz:Tm.ay l+1<1000000000):eu (.mk k s n l):=⟨by simp only[Tm.size];omega,fun d e he=>by
 rw[Tm.kr]at he;rcases eL.1 he with rfl |he
 ·exact hs
 ·obtain ⟨x,hx,he⟩:=Tm.wq he;exact(hl x hx).2 _ e he⟩

theorem y8:∀ (k:Nat) (nx:Int),Tm.ay (dy nx k)=k
 |0,_=>rfl
 |k+1,nx=>by rw[dy,Tm.ay,y8 k];simp only[Tm.size,Tm.ay];omega

theorem T4(h1:t.size=1)(h2:t.s=ByteArray.empty)(h3:t.l=[]):eu t:=⟨by omega,fun d e he=>by
 rw[Tm.kr,h3]at he;rcases eL.1 he with rfl |he
 ·simp only;rw[h2];decide
 ·simp[Tm.iK]at he⟩
end Go.Proofs.YtaagocopollacaaGreatDoor

namespace aw
open Go Go.RowKit Go.MapKept

variable{objs:List Ob}{Fin:Exit→Act→World→Prop}{l:List (ByteArray × AV)}{n:ByteArray}{after:Array Edge}{pos:String}{E:bk}{k:List It}{ty T i:Nat}{v:AV}
theorem mN:dI l n=none↔∀p∈l,p.1≠n:=by
 induction l with
 |nil=>simp[dI]
 |cons p l ih =>
  simp only[dI];split
  ·rename_i h;simp[h]
  ·rename_i h;rw[ih];simp[h]

theorem Cj(hn:(l.map (·.1)).Nodup):dI l n=some v↔(n,v)∈l:=by
 induction l with
 |nil=>simp[dI]
 |cons p l ih =>
  simp only[List.map_cons,xL]at hn;simp only[dI];split
  ·rename_i h;subst h;constructor
   ·intro h;cases h;simp
   ·intro h;rcases eL.1 h with h |h
    ·rw[← h]
    ·exact absurd (fA.2 ⟨_,h,rfl⟩) hn.1
  ·rename_i h;rw[ih hn.2];constructor
   ·intro h;simp[h]
   ·intro h2;rcases eL.1 h2 with h2 |h2
    ·rw[← h2]at h;exact absurd rfl h
    ·exact h2

theorem T5{l m:List (ByteArray × AV)}(hp:l.Perm m)(hn:(m.map (·.1)).Nodup)(n:ByteArray):dI l n=dI m n:=by
 have hl:(l.map (·.1)).Nodup:=(hp.map _).nodup_iff.2 hn;cases h:dI m n with
 |none=>exact mN.2 fun p hq=>mN.1 h p (hp.mem_iff.1 hq)
 |some v=>exact(Cj hl).2 (hp.mem_iff.2 ((Cj hn).1 h))
theorem Fy{es:List (Value × AV)}(h:es.Perm (eI l)):∃l',l'.Perm l∧es=eI l':=wg h l rfl

theorem YB{n0:Nat}{es Ds:List (Value × AV)}(ho:dk objs i=some (.tI es)):Gr n0 2 objs (da objs i (.tI Ds)):=fun j x hj=>by
 rw[bu]at ho;rw[bq];by_cases e:j=i
 ·subst e;rw[ho]at hj;cases hj;refine⟨.tI Ds,?_,.inr ⟨.inl ⟨by omega,ef _⟩,.inl ⟨by omega,ef _⟩⟩⟩;rw[qc (bC.1 ho).1]
 ·exact⟨x,by rw[q6 fun h=>e h.symm];exact hj,.inl rfl⟩

theorem yj{g:G}{pf:Nat→cC}{ad:Array Oper}(hg:c9 g){dst:Option Nat}{x y:Operand}{ok:Bool}{gd:Option (Nat × Bool)}{ax:List Oper}
  {i q cj q' oU kt et:Nat} {z z':List Value}  {zv:Value} (l:List (ByteArray × AV)) (p8:(l.map (·.1)).Nodup)
  (bm:aG ad.toList E gd=some true) (hd:aO ⟨g.ty,g.N⟩ dst=true) (hx:ev E x=.mp i) (ho:dk objs i=some (.tI (eI l))) (hy:ev E y=.d (.v (.string n))) (hT:g.ty T=some ⟨q,cj,z,.map kt et⟩)
  (oC:g.ty kt=some ⟨q',oU,z',.str⟩) (hz:(g.P.info? et).bind (·.zero)=some zv)  (hv:jn ok (lO zv) (dI l n)=v)
  (hr:R g pf Fin (.dr ad ax::k) (bf E dst v) objs):R g pf Fin (.dr ad (⟨dst,.lookup T x y ok,ty,pos,after,gd⟩::ax)::k) E objs:=by
 subst hv;have hu:=(hg.ty _ _ oC).sh;simp only[bA]at hu;refine cL (aI.fM hg 1 bm hd aC fun φ a w bP hgr hρ hs=>?_) hr;simp only[Op.operands]at hρ;have aN:=hρ x aC;rw[hx]at aN;have ew:=hρ y aC;rw[hy]at ew;simp only[RV]at aN ew;obtain⟨b,hb,aN⟩:=aN;generalize oA:a.eval y=vy at ew;cases ew
 have ho:dk bP i=some (.tI (eI l)):=by
  rw[bu]at ho ⊢;exact Gr.same hgr ho (by rw[← hs.len];exact(bC.1 hb).1) AH
 have hk:=cG hs hb ho;simp only[bd]at hk;obtain⟨ents,iY,Ds,KS,bc,dC⟩:=hk;obtain⟨l',Mi,rfl⟩:=Fy KS;obtain⟨r,hf,hfr⟩:=iL (n:=n) (l:=l') (i:=0);rw[T5 Mi p8]at hfr;have hlk:jn ok (lO zv) (dI l n)=pq ok (lO zv) r:=by rw[← hfr];cases r<;>rfl
 rw[hlk];have kX:g.P.underlying T=some (.map kt et):=by have:=(hg.ty _ _ hT).sh;simpa only[bA]using this
 have hzero:(zeroValue et).run g.P w=.ok zv w:=by
  exact Wq
 have hzR:RV (SS g.S0 φ) w φ (lO zv) zv:=ia (l:=[]) (E:=[]) (E₁:=[]) (a:={ tmps:=#[],defers:=[] }) aC (fun t=>by simp[lk,RV]) (.const zv);have cU:=kx dC hf;have AO:IsKey .string (.string n):=by simp[IsKey]
 cases r with
 |none =>
  simp only at cU;refine aY hs (vv:=if ok then .tuple #[zv,.bool false] else zv) ?_ ?_
  ·simp[execOp,Instr.lookup,run_underlying kX,aN,run_getObj_map bc,oA,run_checkKey hu AO,run_findKey hu cU,hzero]
  ·simp only [pq];cases ok
   ·simpa using hzR
   ·simp only [if_true,RV];exact Wp
 |some p =>
  obtain⟨j,v⟩:=p;obtain⟨vv,h1,h2,_⟩:=cU;refine aY hs (vv:=if ok then .tuple #[vv,.bool true] else vv) ?_ ?_
  ·simp[execOp,Instr.lookup,run_underlying kX,aN,run_getObj_map bc,oA,run_checkKey hu AO,run_findKey hu h1]
  ·simp only [pq];cases ok
   ·simpa using h2
   ·simp only [if_true,RV];exact Wr

theorem afT{g:G}{pf:Nat→cC}{ad:Array Oper}(hg:c9 g){dst:Option Nat}{x y v:Operand}{gd:Option (Nat × Bool)}{ax:List Oper}
  {i q cj q' oU kt et:Nat} {z z':List Value}  {v':AV} (l l':List (ByteArray × AV))
  (bm:aG ad.toList E gd=some true) (hd:aO ⟨g.ty,g.N⟩ dst=true) (hx:ev E x=.mp i) (ho:dk objs i=some (.tI (eI l))) (hy:ev E y=.d (.v (.string n))) (hT:g.ty T=some ⟨q,cj,z,.map kt et⟩)
  (oC:g.ty kt=some ⟨q',oU,z',.str⟩) (hv:ev E v=v') (hf:dI l n=none) (hl:l++[(n,v')]=l')
  (hr:R g pf Fin (.dr ad ax::k) (bf E dst .any) (da objs i (.tI (eI l')))):R g pf Fin (.dr ad (⟨dst,.mapUpdate T x y v,ty,pos,after,gd⟩::ax)::k) E objs:=by
 subst hl;subst hv;have hu:=(hg.ty _ _ oC).sh;simp only[bA]at hu;refine cL (aI.eT hg (YB ho) bm hd aC fun φ a' w hρ hs=>?_) hr;simp only[Op.operands]at hρ;have aN:=hρ x aC;rw[hx]at aN;have ew:=hρ y aC;rw[hy]at ew;have hvv:=hρ v aC;simp only[RV]at aN ew;obtain⟨b',hb,aN⟩:=aN;generalize oA:a'.eval y=vy at ew;cases ew;have sR:=cG hs hb ho;simp only[bd]at sR;obtain⟨ents,iY,Ds,KS,bc,dC⟩:=sR;obtain⟨l2,Mi,rfl⟩:=Fy KS;have kX:g.P.underlying T=some (.map kt et):=by have:=(hg.ty _ _ hT).sh;simpa only[bA]using this
 obtain⟨r,h1,h2⟩:=iL (n:=n) (l:=l2) (i:=0);have SQ:dI l2 n=none:=mN.2 fun p hq=>mN.1 hf p (Mi.mem_iff.1 hq)
 have:r=none:=by rw[SQ]at h2;cases r with
  |none=>rfl
  |some _=>simp at h2
 subst this;have cU:=kx dC h1;simp only at cU;rw[bq];have kT:=heap_set (o':=.map (ents.push { key:=.string n,val:=a'.eval v,born:=iY }) (iY+1)) bc;refine⟨.skip,undef,{ w with heap:=w.heap.setIfInBounds b' (.map (ents.push { key:=.string n,val:=a'.eval v,born:=iY }) (iY+1)) },φ.set i (.js b'),?_,.inr ⟨rfl,rfl⟩,by simp[RV],?_⟩
 ·simp[execOp,Instr.mapUpdate,run_underlying kX,aN,run_getObj_map bc,oA,run_checkKey hu (show IsKey .string (.string n) by simp[IsKey]),run_findKey hu cU,run_setObj_map _ bc]
 ·refine jJ.swap hs hb (.inl rfl) aC (fun c _ hc=>kT.2 c fun e=>hc Gc) (fun b' hb=>.inl hb) rfl rfl rfl fun bx hle=>?_
  simp only[bd];refine⟨_,_,eI (l2++[(n,ev E v)]),?_,kT.1,?_,?_⟩
  ·unfold eI;exact(Mi.append_right _).map _
  ·have:=dC.1;simp only[eI,List.map_append,jw,List.map_cons,fj,Je]at this ⊢;rw[this]
  ·have:=(dC.2.mono bx hle).append (l':=[ev E v]) (vs':=[a'.eval v]) Sb;simpa[eI]using this
section
variable {g:G} {pf:Nat→cC} {ad:Array Oper}

theorem KT(hg:c9 g){x y v:Operand}
  {i q cj q' oU kt et:Nat} {z z':List Value}  (l:List (ByteArray × AV))
  (hx:ev E x=.mp i) (ho:dk objs i=some (.map (eI l))) (hy:ev E y=.d (.v (.string n))) (hT:g.ty T=some ⟨q,cj,z,.map kt et⟩)
  (oC:g.ty kt=some ⟨q',oU,z',.str⟩) (hf:dI l n=none):aI g ad ⟨none,.insert T x y v,ty,pos,after,none⟩ E objs (.bO 2) .any (da objs i (.map (eI (l++[(n,ev E v)])))):=by
 have hu:=(hg.ty _ _ oC).sh;simp only[bA]at hu;obtain⟨r,h1,h2⟩:=iL (n:=n) (l:=l) (i:=0);have:r=none:=by rw[hf]at h2;cases r with
  |none=>rfl
  |some _=>simp at h2
 subst this;refine aI.eT hg (pr ho) rfl rfl aC fun φ a w hρ hs=>?_
 simp only[Op.operands]at hρ;have aN:=hρ x aC;rw[hx]at aN;have ew:=hρ y aC;rw[hy]at ew;have hvv:=hρ v aC;simp only[RV]at aN ew;obtain⟨b,hb,aN⟩:=aN;generalize oA:a.eval y=vy at ew;cases ew;have hk:=cG hs hb ho;simp only[bd]at hk;obtain⟨ents,iY,bc,dC⟩:=hk;have kX:g.P.underlying T=some (.map kt et):=by have:=(hg.ty _ _ hT).sh;simpa only[bA]using this
 have cU:=kx dC h1;simp only at cU;have kT:=heap_set (o':=.map (ents.push { key:=.string n,val:=a.eval v,born:=iY }) (iY+1)) bc;rw[bq];refine⟨.skip,undef,{ w with heap:=w.heap.setIfInBounds b (.map (ents.push { key:=.string n,val:=a.eval v,born:=iY }) (iY+1)) },φ.set i (.js b),?_,.inr ⟨rfl,rfl⟩,by simp[RV],?_⟩
 ·simp[execOp,Instr.mapUpdate,run_underlying kX,aN,run_getObj_map bc,oA,run_checkKey hu (show IsKey .string (.string n) by simp[IsKey]),run_findKey hu cU,run_setObj_map _ bc]
 ·refine jJ.swap hs hb (.inl rfl) aC (fun c _ hc=>kT.2 c fun e=>hc Gc) (fun b' hb=>.inl hb) rfl rfl rfl fun bx hle=>?_
  simp only[bd];refine⟨_,_,kT.1,?_,?_⟩
  ·have:=dC.1;simp only[eI,List.map_append,jw,List.map_cons,fj,Je]at this ⊢;rw[this]
  ·have:=(dC.2.mono bx hle).append (l':=[ev E v]) (vs':=[a.eval v]) Sb;simpa[eI]using this

def tW (g:G)(ad:Array Oper)(o:Oper)(E:bk)(objs:List Ob)(v:AV)(objs':List Ob):Prop:=aI g ad o E objs .ji v objs'

theorem aI.toE{o:Oper}{objs objs':List Ob}{c:cC}(h:aI g ad o E objs c v objs'):tW g ad o E objs v objs' :=
 ⟨fun h=>absurd rfl (h _),(fun b h hb=>by cases h;omega),fun E₁ o₁ jl a w h1 h2 h3=>h.step E₁ o₁ jl a w h1 (by
  rcases h2 with ⟨h2,_⟩ |⟨m,h2,_⟩ |h2
  ·cases h2
  ·cases h2
  ·exact .inr (.inr h2)) h3⟩

theorem jF{α β:Type}{f:α→β}{l:List α}(h:(l.map f).Nodup){x y:α}(hx:x∈l)(hy:y∈l)(he:f x=f y):x=y:=by
 induction l with
 |nil=>cases hx
 |cons a l ih =>
  simp only[List.map_cons,xL]at h;rcases eL.1 hx with rfl |tK
  ·rcases eL.1 hy with rfl | hy1
   ·rfl
   ·exact absurd (show f x∈l.map f from fA.2 ⟨y,hy1,he.symm⟩) h.1
  ·rcases eL.1 hy with rfl | hy1
   ·exact absurd (show f y∈l.map f from fA.2 ⟨x,tK,he⟩) h.1
   ·exact ih h.2 tK hy1
abbrev T6:=Nat × ByteArray × Nat
def ym (E1:bk)(l:List T6):List (ByteArray × AV):=l.map fun p=>(p.2.1,lk E1 p.2.2)

structure Hm (g:G) (ad:Array Oper) (jm tm:Nat) (ins:List T6) (objs:List Ob) (E0 E1:bk):Prop where
 back:∀ (j:Nat) (o:Oper),ad[j]? = some o→∀e∈o.after.toList,Region.binds .any e=true→e.on<j
 dep:∀ (j:Nat) (o:Oper),ad[j]? = some o→∀t∈o.looksAt ad,∀ (i:Nat) (x:Oper),ad[i]? = some x→x.dst=some t→∃e∈o.after.toList,Region.binds .any e=true∧e.on=i
 start:∀t,(∀ (j:Nat) (o:Oper),ad[j]? = some o→o.dst≠some t)→bM (lk E0 t) (lk E1 t)
 loc:∀ (j:Nat) (o:Oper),ad[j]? = some o→j≠jm→(∀p∈ins,p.1≠j)→∀tl,∃v,tW g ad o E1 (objs++tl) v (objs++tl)∧∀d,o.dst=some d→bM v (lk E1 d)
 make:∃o,ad[jm]? = some o∧o.dst=some tm∧tW g ad o E1 objs (.mp objs.length) (objs++[.map []])
 map:lk E1 tm=.mp objs.length
 put:∀p∈ins,p.1≠jm∧∃ (T ty:Nat) (pos:String) (after:Array Edge) (q cj q' oU kt et:Nat) (z z':List Value),ad[p.1]? = some ⟨none,.insert T (.tmp tm) (.const (.string p.2.1)) (.tmp p.2.2),ty,pos,after,none⟩∧g.ty T=some ⟨q,cj,z,.map kt et⟩∧g.ty kt=some ⟨q',oU,z',.str⟩
 keys:(ins.map (·.2.1)).Nodup
 TX:(ins.map (·.1)).Nodup

theorem KU(hg:c9 g){jm tm:Nat}{ins:List T6}{E0 E1:bk}(hf:Hm g ad jm tm ins objs E0 E1){Q:Exit→Act→World→Prop}(hQ:∀a w,fe g E1 (objs++[.tI (eI (ym E1 ins))]) a w→Q .normal a w) :
  ∀ (ab:Nat) (aL:Array Bool) (R:List Nat) (E:bk) (objs':List Ob) (a:Act) (w:World),aL.size=ad.size→Cl ad aL→(∀ i,i∈R↔i<ad.size∧aL.getD i true=false)→R.Pairwise (· < ·)→R.length≤ab →
   (∀t,(∀j∈R,∀o,ad[j]? = some o→o.dst≠some t)→bM (lk E t) (lk E1 t)) →
   ((jm∈R∧objs'=objs)∨(jm ∉ R∧∃lx:List T6,objs'=objs++[.map (eI (ym E1 lx))]∧lx.Nodup∧∀p,p∈lx↔p∈ins∧p.1 ∉ R)) →
   fe g E objs' a w→wpAnyIn g.F g.dep g.P .any ad Q ab aL a w:=by
 have x6:∀ (E:bk) (objs':List Ob) (a:Act) (w:World),(∀t,bM (lk E t) (lk E1 t))→(∃lx:List T6,objs'=objs++[.map (eI (ym E1 lx))]∧lx.Nodup∧∀p,p∈lx↔p∈ins)→fe g E objs' a w→Q .normal a w:=fun E objs' a w he ho hs=>by
  obtain⟨lx,rfl,p8,hm⟩:=ho;refine hQ a w ?_
  have ah0:ins.Nodup:=by
   have:=hf.TX;exact List.Pairwise.of_map (f:=fun p:T6=>p.1) (fun a b h e=>h (by rw[e])) this
  have KS:lx.Perm ins:=(List.perm_ext_iff_of_nodup p8 ah0).2 hm;obtain⟨φ,h1,h2⟩:=hs.zH he;refine⟨φ,⟨by rw[h1.len];simp,fun i ph b hi hb=>?_,h1.jA,h1.lt,h1.up⟩,h2⟩;rcases oy i objs.length with fu |hge
  ·exact h1.ok i ph b hi (by rw[jx fu]at hb ⊢;exact hb)
  ·have l7:=(bC.1 hb).1;simp only[List.length_append,dv,lM]at l7;have hie:i=objs.length:=by omega
   subst hie
   have hb:b=.tI (eI (ym E1 ins)):=by
    rw[kR cP]at hb;simpa using hb.symm
   subst hb;have ho:=h1.ok objs.length ph (.map (eI (ym E1 lx))) hi (by rw[kR cP];simp);cases ph<;>simp only[bd]at ho ⊢
   obtain⟨ents,iY,h3,h4⟩:=ho;exact⟨ents,iY,_,(KS.map _).map _,h3,h4⟩
 intro ab;induction ab with
 |zero =>
  intro aL R E objs' a w tQ hc hR _ zP he ho hs;have:R=[]:=jy.1 an;subst this;refine⟨?_,x6 E objs' a w (fun t=>he t aC) ?_ hs⟩
  ·apply aa5.2;intro i hi;exact agv
  ·rcases ho with ⟨h,_⟩ | ⟨_,lx,h1,h2,h3⟩
   ·simp at h
   ·exact⟨lx,h1,h2,fun p=>by rw[h3];simp⟩
 |succ ab ih =>
  intro aL R E objs' a w tQ hc hR hp zP he ho hs;refine⟨fun Ji=>?_,fun i hi=>?_⟩
  ·cases R with
   |nil =>
    refine x6 E objs' a w (fun t=>he t aC) ?_ hs;rcases ho with ⟨h,_⟩ |⟨_,lx,h1,h2,h3⟩
    ·simp at h
    ·exact⟨lx,h1,h2,fun p=>by rw[h3];simp⟩
   |cons k R' =>
    exfalso;exact akd
  ·obtain ⟨mJ,Mf,o,D5,gi⟩:=mem_ready.1 hi;have hiR:=(hR i).2 ⟨mJ,Mf⟩;obtain⟨pre,post,rfl⟩:=ME hiR
   have SP:∀k∈pre++i::post,aL.getD k false=true→False:=fun k hk h=>by
    exact akv
   have rX:∀t∈o.looksAt ad,bM (lk E t) (lk E1 t):=fun t ht=>he t fun j hj x hx hd=>by
    obtain⟨e,YC,Ix,he3⟩:=hf.dep i o D5 t ht j x hx hd;exact SP j hj (by rw[← he3];exact gi e YC Ix)
   have Gj:i ∉ pre++post:=fun hm=>by
    rcases bW.1 hm with hm |hm
    ·have:=(kS.1 hp).2.2 i hm i aC;omega
    ·have:=(xz.1 (kS.1 hp).2.1).1 i hm;omega
   have fH:∀k,k∈pre++post↔k∈pre++i::post∧k≠i:=fun k=>by
    constructor
    ·intro h;exact akC
    ·rintro ⟨h,eo⟩;simp only[bW,eL]at h ⊢;rcases h with h |h |h
     ·exact .inl h
     ·exact absurd h eo
     ·exact .inr h
   have key:∃v dW,tW g ad o E1 objs' v dW∧(∀d,o.dst=some d→bM v (lk E1 d))∧((jm∈pre++post∧dW=objs)∨(jm ∉ pre++post∧∃lx:List T6,dW=objs++[.map (eI (ym E1 lx))]∧lx.Nodup∧∀p,p∈lx↔p∈ins∧p.1 ∉ pre++post)):=by
    by_cases Ti:i=jm
    ·subst Ti;obtain⟨om,h1,h2,h3⟩:=hf.make;rw[D5]at h1;cases h1
     have vX:objs'=objs:=by
      rcases ho with ⟨_,h⟩ |⟨h,_⟩
      ·exact h
      ·exact absurd hiR h
     subst vX;refine⟨_,_,h3,fun d hd=>?_,.inr ⟨Gj,[],by simp[ym,eI],.nil,fun p=>?_⟩⟩
     ·rw[h2]at hd;cases hd;rw[hf.map];exact .refl _
     ·refine ⟨fun h=>DH,fun ⟨hpi,hpn⟩=>?_⟩;exfalso;obtain⟨Ve,T,ty,pos,after,_,_,_,_,_,_,_,_,Fz,_⟩:=hf.put p hpi
      have uK:aL.getD p.1 false=true:=by
       have hps:p.1<ad.size:=(tN.1 Fz).1;have hnr:p.1 ∉ pre++i::post:=fun h=>hpn ((fH _).2 ⟨h,Ve⟩)
       have h2:¬ (aL.getD p.1 true=false):=fun h2=>hnr ((hR p.1).2 ⟨hps,h2⟩)
       have hsz:p.1<aL.size:=by omega
       simp only[Array.getD,hsz,dif_pos]at h2 ⊢;simpa using h2
      obtain⟨e,YC,Ix,he3⟩:=hf.dep p.1 _ Fz tm aaQ i o D5 h2;exact SP i hiR (by rw[← he3];exact hc p.1 _ uK Fz e YC Ix)
    ·by_cases zI:∃ p∈ins,p.1=i
     ·obtain ⟨p,hpi,rfl⟩:=zI;obtain⟨Ve,T,ty,pos,after,q,cj,q',oU,kt,et,z,z',Fz,hT,oC⟩:=hf.put p hpi;rw[D5]at Fz;cases Fz;obtain⟨om,hm1,hm2,_⟩:=hf.make
      have hjm:jm ∉ pre++p.1::post:=fun hj=>by
       obtain⟨e,YC,Ix,he3⟩:=hf.dep p.1 _ D5 tm aaQ jm om hm1 hm2;exact SP jm hj (by rw[← he3];exact gi e YC Ix)
      rcases ho with ⟨h,_⟩ |⟨_,lx,rfl,p8,hm⟩
      ·exact absurd h hjm
      have hpx:p ∉ lx:=fun h=>((hm p).1 h).2 hiR
      have hgs:dI (ym E1 lx) p.2.1=none:=mN.2 fun x hx=>by
       obtain⟨y,hy,rfl⟩:=fA.1 hx;intro hk;have hyi:=((hm y).1 hy).1
       have:y=p:=by
        have ML:=hf.keys;exact jF ML hyi hpi hk
       exact hpx (this ▸ hy)
      refine⟨.any,_,(KT hg (ym E1 lx) (i:=objs.length) (by simpa[ev]using hf.map) (by rw[bu,kR cP];simp) rfl hT oC hgs).toE,fun d hd=>(by cases hd),.inr ⟨fun h=>hjm ((fH _).1 h).1,lx++[p],?_,?_,fun x=>?_⟩⟩
      ·rw [bq,Wh _ _ cP];simp[ym,ev]
      ·exact vN.2 ⟨p8,by simp,fun a ha b hb e=>by rw[dh.1 hb]at e;exact hpx (e ▸ ha)⟩
      ·rw [bW,dh,hm,fH];constructor
       ·rintro (⟨h1,h2⟩ | rfl)
        ·exact⟨h1,fun h=>h2 h.1⟩
        ·exact⟨hpi,fun h=>h.2 rfl⟩
       ·rintro ⟨h1,h2⟩;by_cases hx:x.1=p.1
        ·exact .inr (jF hf.TX h1 hpi hx)
        ·exact .inl ⟨h1,fun h=>h2 ⟨h,hx⟩⟩
     ·have hni:∀ p∈ins,p.1≠i:=fun p hp e=>zI ⟨p,hp,e⟩
      have afn:jm∈pre++post↔jm∈pre++i::post:=⟨fun h=>((fH _).1 h).1,fun h=>(fH _).2 ⟨h,fun e=>Ti e.symm⟩⟩;rcases ho with ⟨h,rfl⟩ |⟨h,lx,rfl,p8,hm⟩
      ·obtain ⟨v,h1,h2⟩:=hf.loc i o D5 Ti hni [];rw[vJ]at h1;exact⟨v,_,h1,h2,.inl ⟨afn.2 h,rfl⟩⟩
      ·obtain ⟨v,h1,h2⟩:=hf.loc i o D5 Ti hni [.map (eI (ym E1 lx))];refine⟨v,_,h1,h2,.inr ⟨fun h'=>h (afn.1 h'),lx,rfl,p8,fun p=>?_⟩⟩;rw[hm,fH];constructor
       ·rintro⟨h1,h2⟩;exact⟨h1,fun h=>h2 h.1⟩
       ·rintro⟨h1,h2⟩;exact⟨h1,fun h=>h2 ⟨h,hni p h1⟩⟩
   obtain⟨v,dW,k9,hv,rM⟩:=key;have ei:=k9.step E objs' dW a w rX (.inr (.inr ⟨rfl,rfl⟩)) hs Q;refine wpOpIn_mono (K:=fun a' w'=>fe g (bf E o.dst v) dW a' w') (fun a' w' fh=>?_) (by unfold wpOpIn;rw[D5];exact ei)
   have kO:∀ (k:Nat) (d:Bool),(aL.setIfInBounds i true).getD k d=if k=i then true else aL.getD k d:=by
    intro k d;simp only[Gf,Sr];by_cases kf:k=i
    ·subst kf;simp[tQ,mJ]
    ·rw[if_neg (fun e=>kf e.symm),if_neg kf]
   refine ih _ (pre++post) _ dW a' w' (by simp[tQ]) ?_ ?_ ?_ ?_ ?_ rM fh
   ·intro k o' hk sR e zD hb;rw[kO]at hk ⊢;by_cases kf:k=i
    ·subst kf;rw[D5]at sR;cases sR;have:=gi e zD hb;split
     ·rfl
     ·exact this
    ·rw [if_neg kf] at hk;have:=hc k o' hk sR e zD hb;split
     ·rfl
     ·exact this
   ·intro k;rw[kO,fH];have hk:=hR k;by_cases kf:k=i
    ·subst kf;simp
    ·simp only [kf,if_false];rw[← hk];simp[kf]
   ·obtain ⟨p1,p2,p3⟩:=kS.1 hp;exact kS.2 ⟨p1,(xz.1 p2).2,fun x hx y hy=>p3 x hx y kb⟩
   ·simp at zP ⊢;omega
   ·intro t ht;rw[gg];split
    ·rename_i hd;exact hv t hd
    ·rename_i hd;refine he t fun j hj x hx=>?_
     by_cases nc:j=i
     ·subst nc;rw[D5]at hx;cases hx;exact hd
     ·exact ht j ((fH _).2 ⟨hj,nc⟩) x hx

theorem ah1(hg:c9 g){id jm tm:Nat}(ins:List T6)(E1:bk)(hk:mA k=true)(hf:Hm g ad jm tm ins objs E E1)(h:R g pf Fin k E1 (objs++[.tI (eI (ym E1 ins))])):R g pf Fin (.code (.region id ad true)::k) E objs:=by
 rintro⟨_,ho⟩ a w hs;simp only[KP];refine wpIn_region_any hg.mixed ?_;refine KU hg hf (fun a w hs=>?_) ad.size (Array.replicate ad.size false) (List.range ad.size) E objs a _ aC ?_ ?_ (St) aC ?_ ?_ hs.drew
 ·exact RK.ej (pf:=pf) (k:=k) ho h (ir hk) a w hs
 ·intro k o hk;simp[Array.getD]at hk
 ·intro i;simp only[zC,Array.getD,V8];constructor
  ·intro h;simp[h]
  ·intro h;exact h.1
 ·intro t ht;exact hf.start t fun j o hj=>ht j (zC.2 (tN.1 hj).1) o hj
 ·obtain ⟨o,h1,_⟩:=hf.make;exact .inl ⟨zC.2 (tN.1 h1).1,rfl⟩
end
end aw

namespace aw
open Go Go.RowKit

theorem HS.YD {S0:Nat→Prop}{φ φ':List bB}{objs objs':List Ob}{w:World}(h:HS S0 φ objs w)(f:AV→AV)(aZ:φ'.length=objs'.length)(σ:Nat→Nat)(hσ:∀i j,i<φ'.length→j<φ'.length→σ i=σ j→i=j)(eQ:∀ (i:Nat) (p:bB) (b:Nat),φ'[i]? = some p→p.bl b→∃q,φ[σ i]? = some q∧q.bl b)
  (W0:∀ (i:Nat) (oT:Ob),objs'[i]? = some oT→oT=.dead∨(∃ob,objs[i]? = some ob∧φ'[i]? = φ[i]? ∧ oT=aQ f ob)∨∃ph,φ'[i]? = some ph∧bd (SS S0 φ') w φ' ph oT) (hf:∀x v,RV (SS S0 φ) w φ x v→RV (SS S0 φ') w φ' (f x) v):HS S0 φ' objs' w:=by
 have gQ:∀b,eD φ' b→eD φ b:=by
  rintro b ⟨i,p,h1,h2⟩;obtain⟨q,h3,h4⟩:=eQ i p b h1 h2;exact⟨σ i,q,h3,h4⟩
 have bx:dE (SS S0 φ) w (SS S0 φ') w:=fun b hb _=>⟨⟨hb.1,fun hc=>hb.2 (gQ b hc)⟩,rfl⟩
 refine⟨aZ,fun i ph oT h1 h2=>?_,fun i j p q b h1 h2 h3 h4=>?_,fun b hb=>h.lt b (gQ b hb),h.up⟩
 ·rcases W0 i oT h2 with rfl | ⟨ob,h3,h4,rfl⟩ | ⟨ph',h3,h4⟩
  ·simp only[bd]
  ·rw [h1] at h4;have hk:=h.ok i ph ob h4.symm h3;cases ph<;>cases ob<;>simp only[bd,aQ]at hk ⊢
   ·obtain ⟨cs,T,h5,h6⟩:=hk;exact⟨cs,T,h5,h6.map' f hf⟩
   ·obtain ⟨ents,iY,h5,h6,h7⟩:=hk;exact akr
   ·exact hk
   ·obtain ⟨cs,h5,h6⟩:=hk;exact⟨cs,h5,h6.map' f hf⟩
   ·obtain ⟨ents,iY,Ds,h0,h5,h6,h7⟩:=hk;exact ako
   ·obtain ⟨h0,Me,h5,h6⟩:=hk;exact agt
   ·exact hk
   ·exact akM
   ·obtain ⟨h0,Me,h1,h2⟩:=hk;exact akl
  ·rw[h1]at h3;cases h3;exact h4
 ·obtain ⟨p',k1,k1'⟩:=eQ i p b h1 h3;obtain⟨q',k2,k2'⟩:=eQ j q b h2 h4;exact hσ i j (bC.1 h1).1 (bC.1 h2).1 (h.jA _ _ p' q' b k1 k2 k1' k2')
section
variable {g:G} {pf:Nat→cC} {ad:Array Oper} {Fin:Exit→Act→World→Prop}

def mvA (n i:Nat):AV→AV
 | .ow j t=>bif Nat.beq j i then .ow n t else dA n (.ow j t)
 |x=>dA n x

theorem acp {k:List It}{E:bk}{objs:List Ob}(n i:Nat){sz s:Nat}{aa:List (List D)}(objs':List Ob)(hn:g.φ0.length≤n)(hni:n≤i)(ho:dk objs i=some (.arr sz s aa))(ht:gz k=true)(W0:(objs.take n).map (aQ (dA n))++[.arr sz s aa]=objs')
  (hr:R g pf Fin k (qn (mvA n i) E) objs') (jB:g.rr=[]:=by rfl):R g pf Fin k E objs:=by
 subst W0;refine mC ht (fun a w hs=>?_) hr;obtain⟨φ,h1,h2,h3,h4,h5,h6⟩:=hs;rw[bu]at ho;have l7:=(bC.1 ho).1;have eQ:φ[i]? = some (φ[i]' aaV):=dY _;generalize φ[i]' aaV=ph at eQ;have hk:=h1.ok i ph _ eQ ho;have SP:(φ.take n).length=n:=by rw[zz,h1.len];omega
 have hp:∀j,j<n→(φ.take n++[ph])[j]? = φ[j]? := fun j hj=>by rw[jx an];exact qb hj
 have hpn:(φ.take n++[ph])[n]? = some ph:=by rw[kR an,SP,Nat.sub_self];rfl
 have NZ:∀ (j:Nat) (p:bB),(φ.take n++[ph])[j]? = some p→(j<n∧φ[j]? = some p)∨(j=n∧p=ph):=fun j p hj=>by
  rcases oy j n with h |h
  ·exact .inl ⟨h,by rw[← hp j h];exact hj⟩
  ·have Bb:=(bC.1 hj).1;rw[List.length_append,SP,vL]at Bb;have:j=n:=by omega
   subst this;rw[hpn]at hj;cases hj;exact .inr ⟨rfl,rfl⟩
 have gQ:∀b,eD (φ.take n++[ph]) b→eD φ b:=by
  rintro b ⟨j,p,g1,g2⟩;rcases NZ j p g1 with ⟨_,h⟩ |⟨_,rfl⟩
  ·exact⟨j,p,h,g2⟩
  ·exact⟨i,p,eQ,g2⟩
 have bx:dE (SS g.S0 φ) w (SS g.S0 (φ.take n++[ph])) w:=fun b hb _=>⟨⟨hb.1,fun hc=>hb.2 (gQ b hc)⟩,rfl⟩
 have Mg:bd (SS g.S0 (φ.take n++[ph])) w (φ.take n++[ph]) ph (.arr sz s aa):=by
  cases ph<;>simp only[bd]at hk ⊢
  obtain⟨h0,Me,h5,h6⟩:=hk;exact agt
 have htr:∀x v,RV (SS g.S0 φ) w φ x v→RV (SS g.S0 (φ.take n++[ph])) w (φ.take n++[ph]) (dA n x) v:=wc bx hp;refine⟨φ.take n++[ph],h1.YD (dA n) (by simp[h1.len]) (fun j=>if j<n then j else i) (fun a b ha hb he=>?_) (fun j p b hj hb=>?_) (fun j oT hj=>?_) htr,fun b hb=>h2 b (gQ b hb),fun u=>?_,h4,Iq.Jk jB h5 gQ,h6.Jk (fun j l I B h=>⟨B,?_⟩) (fun j p hj=>?_)⟩
 ·rw [List.length_append,SP,vL] at ha hb;by_cases h:a<n<;>by_cases h':b<n<;>simp only[h,h',if_true,if_false]at he<;>omega
 ·rcases NZ j p hj with ⟨h,h'⟩ | ⟨h,rfl⟩
  ·exact⟨p,by simp only[if_pos h];exact h',hb⟩
  ·exact⟨p,by simp only[h,aa3,if_false];exact eQ,hb⟩
 ·have hol:((objs.take n).map (aQ (dA n))).length=n:=by rw [eS,zz]; omega
  rcases oy j n with h |h
  ·rw [jx an,eU,qb h] at hj;cases hoj:objs[j]? with
   |none=>rw[hoj]at hj;cases hj
   |some ob=>rw[hoj]at hj;exact .inr (.inl ⟨ob,rfl,hp j h,by simpa using hj.symm⟩)
  ·have Bb:=(bC.1 hj).1;rw[List.length_append,hol,vL]at Bb;have:j=n:=by omega
   subst this;rw[kR an,hol,Nat.sub_self]at hj;simp only[Ss,Option.some.injEq]at hj;subst hj;exact .inr (.inr ⟨ph,hpn,Mg⟩)
 ·rcases s5 (f:=mvA n i) E u with h | h
  ·rw [h];have hv:=h3 u;generalize lk E u=x at hv;cases x with
   |ow j t =>
    simp only[mvA];cases hb:Nat.beq j i with
    |false=>exact htr _ _ hv
    |true =>
     have:=cp hb;subst this;simp only[cond_true,RV]at hv ⊢;obtain⟨q1,ph',q2,q3⟩:=hv;rw[eQ]at q2;cases q2;exact⟨q1,ph,hpn,q3⟩
   |_=>exact htr _ _ hv
  ·rw[h];simp[RV]
 ·rcases NZ j _ h with ⟨hjn,hj⟩ | ⟨_,hj⟩
  ·exact hj
  ·subst hj;simp only[bd]at hk
 ·obtain ⟨p',h7,h8⟩:=h6.le j p hj;exact⟨p',by rw[hp j (I9 (bC.1 hj).1 hn)];exact h7,h8⟩
end
end aw

namespace aw
open Go Go.RowKit

variable{objs:List Ob}{Z:List AV}
structure Hn where
 j:Nat
 d:Nat
 s:Nat
 x:Nat
 c:List AV
section
variable {g:G} {pf:Nat→cC} {ad:Array Oper}

structure KV (g:G) (ad:Array Oper) (Z:List AV) (al:List Hn) (objs:List Ob) (E0 E1:bk):Prop where
 back:∀ (j:Nat) (o:Oper),ad[j]? = some o→∀e∈o.after.toList,Region.binds .any e=true→e.on<j
 dep:∀ (j:Nat) (o:Oper),ad[j]? = some o→∀t∈o.looksAt ad,∀ (i:Nat) (x:Oper),ad[i]? = some x→x.dst=some t→∃e∈o.after.toList,Region.binds .any e=true∧e.on=i
 start:∀t,(∀ (j:Nat) (o:Oper),ad[j]? = some o→o.dst≠some t)→bM (lk E0 t) (lk E1 t)
 loc:∀ (j:Nat) (o:Oper),ad[j]? = some o→(∀e∈al,e.j≠j∧e.s≠j)→(∀e∈al,e.d ∉ o.looksAt ad)∧∀tl,∃v,tW g ad o E1 (objs++tl) v (objs++tl)∧∀d,o.dst=some d→bM v (lk E1 d)
 alloc:∀e∈al,∃o,ad[e.j]? = some o∧o.dst=some e.d∧o.looksAt ad=[]∧∀objs',tW g ad o E1 objs' (.lo objs'.length 0) (objs'++[.box Z])
 store:∀e∈al,∃ (T ty:Nat) (pos:String) (after:Array Edge) (τ:Ty),ad[e.s]? = some ⟨none,.store T (.tmp e.d) (.tmp e.x),ty,pos,after,none⟩∧g.ty T=some τ∧fU (lk E1 e.x)=some e.c∧e.c.length=τ.size∧Z.length=τ.size∧(∀e'∈al,e'.d≠e.x∧e'.j≠e.s)
 slot:∀ (i:Nat) (e:Hn),al[i]? = some e→lk E1 e.d=.lo (objs.length+i) 0
 uniq:∀ (j:Nat) (o:Oper) (e:Hn),e∈al→ad[j]? = some o→o.dst=some e.d→j=e.j
 TX:(al.map (·.j)).Nodup
 sts:(al.map (·.s)).Nodup
 ds:(al.map (·.d)).Nodup
 pure:∀t,(∀e∈al,e.d≠t)→dA objs.length (lk E1 t)=lk E1 t
 apd:objs.map (aQ (dA objs.length))=objs
 pc:∀e∈al,e.c.map (dA objs.length)=e.c
 len:g.φ0.length≤objs.length
 rr:g.rr=[]

theorem KW:∀ (Z c:List AV),c.length=Z.length→gy Z 0 c=c:=fun Z c h=>by
 have key:∀ (c Z:List AV) (off:Nat),off+c.length=Z.length→gy Z off c=Z.take off++c:=fun c=>by
  induction c with
  |nil=>intro Z off h;simp only[lM,Ja]at h;rw[gy,vJ,Ih an]
  |cons x c ih =>
   intro Z off h;simp only[dv]at h;rw[gy,bq,ih (Z.set off x) (off+1) V0,List.take_set];rw[I5,dY (by omega:off<Z.length)];simp only[Option.toList_some];rw[Wh _ _ (by rw[zz];omega)];simp[zz,Ge (by omega:off≤Z.length)]
 have:=key c Z 0 an;simpa using this

theorem YE{al π:List Hn}{E0 E1 E:bk}(hf:KV g ad Z al objs E0 E1)(hπ:∀e,e∈π↔e∈al)(h1:∀t,(∀e∈al,e.d≠t)→bM (lk E t) (lk E1 t))(h2:∀ (p:Nat) (e:Hn),π[p]? = some e→bM (lk E e.d) (.lo (objs.length+p) 0)){a:Act}{w:World}(hs:fe g E (objs++π.map fun e=>.box e.c) a w):fe g E1 (objs++al.map fun e=>.box e.c) a w:=by
 obtain⟨f,hfp⟩:=Classical.axiomOfChoice (r:=fun (i p:Nat)=>i<al.length→π[p]? = al[i]?) (fun i=>by
  by_cases hi:i<al.length
  ·obtain ⟨p,hp⟩:=uE.1 ((hπ al[i]).2 (eg hi));exact⟨p,fun _=>by rw[hp,dY hi]⟩
  ·exact⟨0,fun h=>absurd h hi⟩)
 have Bp:∀i,i<al.length→f i<π.length:=fun i hi=>by
  have:=hfp i hi;rw[dY hi]at this;exact(bC.1 this).1
 have ape:∀i j,i<al.length→j<al.length→f i=f j→i=j:=fun i j hi hj he=>by
  have e1:=hfp i hi;have e2:=hfp j hj;rw[he,e2]at e1;have hn:al.Nodup:=List.Pairwise.of_map (f:=fun e:Hn=>e.j) (fun a b h e=>h (by rw[e])) hf.TX;rw[dY hi,dY hj,Option.some.injEq]at e1;exact((aba hn).1 e1).symm
 obtain⟨φ,h3,h4,h5,h6,h7,h8⟩:=hs;generalize qP:objs.length=n at *;have atU:φ.length=n+π.length:=by rw[h3.len];simp[qP]
 obtain⟨ψ,hψ⟩:∃ψ:List bB,ψ=φ.take n++(List.range al.length).map fun i=>(φ[n+f i]?).getD .no:=⟨_,rfl⟩
 have htl:(φ.take n).length=n:=by rw[zz];omega
 have aqH:ψ.length=n+al.length:=by rw[hψ];simp[htl]
 have x7:∀i,i<n→ψ[i]? = φ[i]? := fun i hi=>by rw[hψ,jx an,qb hi]
 have hp2:∀i,i<al.length→ψ[n+i]? = φ[n+f i]? := fun i hi=>by
  have hl:=Bp i hi;rw[hψ,kR an,htl,yO,eU,V9 hi];simp[dY (show n+f i<φ.length by omega)]
 have NZ:∀ (i:Nat) (p:bB),ψ[i]? = some p→(i<n∧φ[i]? = some p)∨(∃k,k<al.length∧i=n+k∧φ[n+f k]? = some p):=fun i p hi=>by
  rcases oy i n with h |h
  ·exact .inl ⟨h,by rw[← x7 i h];exact hi⟩
  ·have l7:=(bC.1 hi).1;obtain⟨k,rfl⟩:∃k,i=n+k:=⟨i - n,by omega⟩;exact .inr ⟨k,by omega,rfl,by rw[← hp2 k an];exact hi⟩
 have gQ:∀b,eD ψ b→eD φ b:=by
  rintro b ⟨i,p,g1,g2⟩;rcases NZ i p g1 with ⟨_,h⟩ |⟨k,_,_,h⟩
  ·exact⟨i,p,h,g2⟩
  ·exact⟨n+f k,p,h,g2⟩
 have bx:dE (SS g.S0 φ) w (SS g.S0 ψ) w:=fun b hb _=>⟨⟨hb.1,fun hc=>hb.2 (gQ b hc)⟩,rfl⟩
 have htr:∀x v,RV (SS g.S0 φ) w φ x v→RV (SS g.S0 ψ) w ψ (dA n x) v:=wc bx x7;refine⟨ψ,h3.YD (dA n) (by rw[aqH];simp[qP]) (fun i=>if i<n then i else n+f (i - n)) (fun i j hi hj he=>?_) (fun i p b hi hb=>?_) (fun i oT hi=>?_) htr,fun b hb=>h4 b (gQ b hb),fun t=>?_,h6,Iq.Jk hf.rr h7 gQ,h8.Jk (fun i l I B h=>?_) (fun i p hi=>?_)⟩
 ·rw [aqH] at hi hj;by_cases h:i<n<;>by_cases h':j<n<;>simp only[h,h',if_true,if_false]at he
  ·exact he
  ·omega
  ·omega
  ·have:=ape (i - n) (j - n) an an an;omega
 ·rcases NZ i p hi with ⟨h,h'⟩ | ⟨k,hk,rfl,h⟩
  ·exact⟨p,by simp only[if_pos h];exact h',hb⟩
  ·exact⟨p,by rw[if_neg an,yO];exact h,hb⟩
 ·rcases oy i n with h | h
  ·rw [jx an] at hi;refine .inr (.inl ⟨oT,by rw[jx an];exact hi,x7 i h,?_⟩);have:=hf.apd;rw[qP]at this;have e:=congrArg (fun l=>l[i]?) this;simp only[eU,hi,rD,Option.some.injEq]at e;exact e.symm
  ·have l7:=(bC.1 hi).1;simp only[List.length_append,eS,qP]at l7;obtain⟨k,rfl⟩:∃k,i=n+k:=⟨i - n,by omega⟩;have hk:k<al.length:=by omega
   rw[kR an,qP,yO,eU,dY hk]at hi;simp only[rD,Option.some.injEq]at hi;subst hi;have hl:=Bp k hk;have eQ:φ[n+f k]? = some φ[n+f k]:=dY an
   have vX:(objs++π.map fun e=>Ob.box e.c)[n+f k]? = some (.box al[k].c):=by
    rw[kR an,qP,yO,eU,hfp k hk,dY hk];rfl
   have dw:=h3.ok _ _ _ eQ vX;refine .inr (.inr ⟨φ[n+f k],by rw[hp2 k hk];exact eQ,?_⟩);generalize φ[n+f k]=ph at dw;cases ph<;>simp only[bd]at dw ⊢
   obtain⟨cs,T,g1,g2⟩:=dw;refine⟨cs,T,g1,?_⟩;have:=g2.map' (dA n) htr
   rwa [← qP,hf.pc _ (eg hk)]at this
 ·by_cases ht:∃ e∈al,e.d=t
  ·obtain ⟨e,he,rfl⟩:=ht;obtain⟨i,hi⟩:=uE.1 he;have l7:=(bC.1 hi).1;rw[hf.slot i e hi,qP];have hv:=h2 (f i) e (by rw[hfp i l7,hi]) _ _ _ _ (h5 e.d);simp only[RV]at hv ⊢;obtain⟨b,g1,g2⟩:=hv;exact⟨b,by rw[hp2 i l7];exact g1,g2⟩
  ·have eo:∀ e∈al,e.d≠t:=fun e he h=>ht ⟨e,he,h⟩
   have hv:=htr _ _ (h1 t eo _ _ _ _ (h5 t))
   rwa [← qP,hf.pure t eo]at hv
 ·rcases NZ i _ h with ⟨zI,hi⟩ | ⟨k,hk,rfl,hi⟩
  ·exact⟨B,hi⟩
  ·exfalso
   have vX:(objs++π.map fun e=>Ob.box e.c)[n+f k]? = some (.box al[k].c):=by
    rw[kR an,qP,yO,eU,hfp k hk,dY hk];rfl
   have dw:=h3.ok _ _ _ hi vX;simp only[bd]at dw
 ·obtain ⟨p',g1,g2⟩:=h8.le i p hi;have zI:i<n:=I9 (bC.1 hi).1 (qP ▸ hf.len);exact⟨p',by rw[x7 i zI];exact g1,g2⟩

theorem N0(hg:c9 g){al:List Hn}{E0 E1:bk}(hf:KV g ad Z al objs E0 E1){Q:Exit→Act→World→Prop}(hQ:∀a w,fe g E1 (objs++al.map fun e=>.box e.c) a w→Q .normal a w) :
  ∀ (ab:Nat) (aL:Array Bool) (R:List Nat) (E:bk) (π:List Hn) (a:Act) (w:World),aL.size=ad.size→Cl ad aL→(∀ i,i∈R↔i<ad.size∧aL.getD i true=false)→R.Pairwise (· < ·)→R.length≤ab →
   (∀t,(∀e∈al,e.d≠t)→(∀j∈R,∀o,ad[j]? = some o→o.dst≠some t)→bM (lk E t) (lk E1 t)) →
   (∀ (p:Nat) (e:Hn),π[p]? = some e→bM (lk E e.d) (.lo (objs.length+p) 0))→π.Nodup→(∀e,e∈π↔e∈al∧e.j ∉ R) →
   fe g E (objs++π.map fun e=>.box (if e.s∈R then Z else e.c)) a w→wpAnyIn g.F g.dep g.P .any ad Q ab aL a w:=by
 have x6:∀ (E:bk) (π:List Hn) (a:Act) (w:World),(∀t,(∀e∈al,e.d≠t)→bM (lk E t) (lk E1 t))→(∀ (p:Nat) (e:Hn),π[p]? = some e→bM (lk E e.d) (.lo (objs.length+p) 0))→(∀e,e∈π↔e∈al∧e.j ∉ ([]:List Nat))→fe g E (objs++π.map fun e=>.box (if e.s∈([]:List Nat) then Z else e.c)) a w→Q .normal a w:=fun E π a w h1 h2 h3 hs=>by
  simp only[nW,if_false,not_false_eq_true,and_true]at h3 hs;exact hQ a w (YE hf h3 h1 h2 hs)
 intro ab;induction ab with
 |zero =>
  intro aL R E π a w tQ hc hR _ zP YC Ix p8 hπ hs;have:R=[]:=jy.1 an;subst this;refine⟨?_,x6 E π a w (fun t ht=>YC t ht aC) Ix hπ hs⟩;apply aa5.2;intro i hi;exact agv
 |succ ab ih =>
  intro aL R E π a w tQ hc hR hp zP YC Ix p8 hπ hs;refine⟨fun Ji=>?_,fun i hi=>?_⟩
  ·cases R with
   |nil=>exact x6 E π a w (fun t ht=>YC t ht aC) Ix hπ hs
   |cons k R' =>
    exfalso;exact akd
  ·obtain ⟨mJ,Mf,o,D5,gi⟩:=mem_ready.1 hi;have hiR:=(hR i).2 ⟨mJ,Mf⟩;obtain⟨pre,post,rfl⟩:=ME hiR
   have SP:∀k∈pre++i::post,aL.getD k false=true→False:=fun k hk h=>by
    exact akv
   have rX:∀t∈o.looksAt ad,(∀e∈al,e.d≠t)→bM (lk E t) (lk E1 t):=fun t ht eo=>YC t eo fun j hj x hx hd=>by
    obtain⟨e,h1,h2,h3⟩:=hf.dep i o D5 t ht j x hx hd;exact SP j hj (by rw[← h3];exact gi e h1 h2)
   have Gj:i ∉ pre++post:=fun hm=>by
    rcases bW.1 hm with hm |hm
    ·have:=(kS.1 hp).2.2 i hm i aC;omega
    ·have:=(xz.1 (kS.1 hp).2.1).1 i hm;omega
   have fH:∀k,k∈pre++post↔k∈pre++i::post∧k≠i:=fun k=>by
    constructor
    ·intro h;exact akC
    ·rintro ⟨h,eo⟩;simp only[bW,eL]at h ⊢;rcases h with h |h |h
     ·exact .inl h
     ·exact absurd h eo
     ·exact .inr h
   have kO:∀ (k:Nat) (d:Bool),(aL.setIfInBounds i true).getD k d=if k=i then true else aL.getD k d:=by
    intro k d;simp only[Gf,Sr];by_cases kf:k=i
    ·subst kf;simp[tQ,mJ]
    ·rw[if_neg (fun e=>kf e.symm),if_neg kf]
   have key:∃ (v:AV) (π2:List Hn) (E2:bk),tW g ad o E2 (objs++π.map fun e=>.box (if e.s∈pre++i::post then Z else e.c)) v (objs++π2.map fun e=>.box (if e.s∈pre++post then Z else e.c))∧(∀t∈o.looksAt ad,bM (lk E t) (lk E2 t))∧(∀d,o.dst=some d→(∀e∈al,e.d≠d)→bM v (lk E1 d))∧(∀ (p:Nat) (e:Hn),π2[p]? = some e→bM (lk (bf E o.dst v) e.d) (.lo (objs.length+p) 0))∧π2.Nodup∧(∀e,e∈π2↔e∈al∧e.j ∉ pre++post):=by
    by_cases hia:∃e∈al,e.j=i
    ·obtain ⟨e,KX,rfl⟩:=hia;obtain⟨o',h1,h2,h3,h4⟩:=hf.alloc e KX;rw[D5]at h1;cases h1;have qf:e ∉ π:=fun h=>((hπ e).1 h).2 hiR
     have hsR:e.s∈pre++e.j::post:=by
      obtain⟨_,_,_,after,_,hso,_⟩:=hf.store e KX;refine(hR e.s).2 ⟨(tN.1 hso).1,?_⟩;cases hl:aL.getD e.s true with
      |false=>rfl
      |true =>
       exfalso;have hsz:e.s<aL.size:=by have:=(tN.1 hso).1;omega
       obtain⟨ed,g1,g2,g3⟩:=hf.dep e.s _ hso e.d aaQ e.j o D5 h2;refine SP e.j hiR ?_;rw[← g3];refine hc e.s _ ?_ hso ed g1 g2;simp only[Array.getD,hsz,dif_pos]at hl ⊢;exact hl
     have YF:∀l:List Hn,(∀x∈l,x∈al)→(l.map fun x=>Ob.box (if x.s∈pre++post then Z else x.c))=l.map fun x=>Ob.box (if x.s∈pre++e.j::post then Z else x.c):=fun l hl=>by
      refine Gg fun x hx=>?_
      obtain⟨_,_,_,_,_,_,_,_,_,_,hjs⟩:=hf.store x (hl x hx);have eo:x.s≠e.j:=fun h=>(hjs e KX).2 h.symm
      by_cases hm:x.s∈pre++e.j::post
      ·rw[if_pos hm,if_pos ((fH _).2 ⟨hm,eo⟩)]
      ·rw[if_neg hm,if_neg fun h=>hm ((fH _).1 h).1]
     refine⟨.lo (objs.length+π.length) 0,π++[e],E1,?_,by rw[h3];simp,fun d hd eo=>(by rw[h2]at hd;cases hd;exact absurd rfl (eo e KX)),fun p x hx=>?_,vN.2 ⟨p8,by simp,fun x hx y hy hxy=>by rw[dh.1 hy]at hxy;exact qf (hxy ▸ hx)⟩,fun x=>?_⟩
     ·have:=h4 (objs++π.map fun x=>.box (if x.s∈pre++e.j::post then Z else x.c))
      rw[YF _ (fun x hx=>by
       rcases bW.1 hx with hx |hx
       ·exact((hπ x).1 hx).1
       ·rw[dh.1 hx];exact KX)]
      rw[List.map_append,List.map_cons,fj,if_pos hsR,← List.append_assoc];rw[List.length_append,eS]at this;exact this
     ·rcases oy p π.length with fu | hge
      ·rw [jx fu] at hx;have hxm:=(hπ x).1 (gZ hx)
       have hxd:x.d≠e.d:=fun h=>by
        have:x=e:=jF hf.ds hxm.1 KX h;exact qf (this ▸ gZ hx)
       rw[h2,gg,if_neg fun h=>hxd (Option.some.inj h).symm];exact Ix p x hx
      ·have uK:=(bC.1 hx).1;simp only[List.length_append,dv,lM]at uK;have:p=π.length:=by omega
       subst this;rw[kR cP,Nat.sub_self]at hx;simp only[Ss,Option.some.injEq]at hx;subst hx;rw[h2,gg,if_pos rfl];exact .refl _
     ·rw [bW,dh,hπ,fH];constructor
      ·rintro (⟨h1,h2⟩ | rfl)
       ·exact⟨h1,fun h=>h2 h.1⟩
       ·exact⟨KX,fun h=>h.2 rfl⟩
      ·rintro ⟨h1,h2⟩;by_cases hx:x.j=e.j
       ·exact .inr (jF hf.TX h1 KX hx)
       ·exact .inl ⟨h1,fun h=>h2 ⟨h,hx⟩⟩
    ·have anI:∀e,e∈π↔e∈al∧e.j ∉ pre++post:=fun e=>by
      rw[hπ,fH];constructor
      ·rintro⟨h1,h2⟩;exact⟨h1,fun h=>h2 h.1⟩
      ·rintro⟨h1,h2⟩;exact⟨h1,fun h=>h2 ⟨h,fun hx=>hia ⟨e,h1,hx⟩⟩⟩
     have he3:∀v (p:Nat) (e:Hn),π[p]? = some e→bM (lk (bf E o.dst v) e.d) (.lo (objs.length+p) 0):=fun v p e hpe=>by
      have KX:=((hπ e).1 (gZ hpe)).1;rw[gg,if_neg fun h=>hia ⟨e,KX,(hf.uniq i o e KX D5 h).symm⟩];exact Ix p e hpe
     by_cases his:∃e∈al,e.s=i
     ·obtain ⟨e,KX,rfl⟩:=his;obtain⟨T,ty,pos,after,τ,hso,hT,dV,hcn,hzn,eo⟩:=hf.store e KX;rw[D5]at hso;cases hso;obtain⟨oj,hj1,hj2,_,_⟩:=hf.alloc e KX
      have hej:e.j ∉ pre++e.s::post:=fun h=>by
       obtain⟨ed,g1,g2,g3⟩:=hf.dep e.s _ D5 e.d aaQ e.j oj hj1 hj2;exact SP e.j h (by rw[← g3];exact gi ed g1 g2)
      obtain⟨p,hpe⟩:=uE.1 ((hπ e).2 ⟨KX,hej⟩);have uK:=(bC.1 hpe).1
      have amr:(π.map fun x=>Ob.box (if x.s∈pre++e.s::post then Z else x.c))[p]? = some (.box Z):=by
       rw[eU,hpe];simp
      have hxd:e.x≠e.d:=fun h=>(eo e KX).1 h.symm
      have cS:db g.ty (ev (put E1 e.d (.lo (objs.length+p) 0))) (objs++π.map fun x=>Ob.box (if x.s∈pre++e.s::post then Z else x.c)) (.store T (.tmp e.d) (.tmp e.x))=some (.any,objs++π.map fun x=>Ob.box (if x.s∈pre++post then Z else x.c)):=by
       refine GV hT (i:=objs.length+p) (off:=0) (l:=Z) (new:=e.c) (by simp[ev,xS]) (by rw[bu,kR an,yO];exact amr) (by simp only[ev,xS];rw[if_neg fun h=>hxd h.symm];exact dV) hcn an ?_;rw[KW _ _ an,bq,Wh _ _ an,yO];congr 1;apply Sv;intro q;rw[List.getElem?_set];by_cases hq:p=q
       ·subst hq;rw[if_pos rfl,if_pos (by simpa using uK),eU,hpe,rD,if_neg Gj]
       ·rw [if_neg hq,eU,eU];cases hx:π[q]? with
        |none=>rfl
        |some x =>
         have hxm:=((hπ x).1 (gZ hx)).1
         have Mh:x.s≠e.s:=fun h=>by
          have:x=e:=jF hf.sts hxm KX h;subst this;have h1:=(bC.1 hx);have h2:=(bC.1 hpe);exact hq ((aba p8).1 (h2.2.trans h1.2.symm))
         simp only[rD,Option.some.injEq,Ob.box.injEq];by_cases hm:x.s∈pre++e.s::post
         ·rw[if_pos hm,if_pos ((fH _).2 ⟨hm,Mh⟩)]
         ·rw[if_neg hm,if_neg fun h=>hm ((fH _).1 h).1]
      refine⟨.any,π,put E1 e.d (.lo (objs.length+p) 0),(aI.JE (pf:=fun _=>.ji) hg rfl (cK rfl) (fun t h=>by cases h) cS).toE,fun t ht=>?_,fun d hd=>(by cases hd),fun q x hx=>he3 _ q x hx,p8,anI⟩;rw[xS];by_cases htd:t=e.d
      ·rw[if_pos htd.symm,htd];exact Ix p e hpe
      ·rw [if_neg fun h=>htd h.symm]
       have htx:t=e.x:=by
        simp[Oper.looksAt,Op.operands]at ht;rcases ht with h |h
        ·exact absurd h htd
        ·exact h
       exact rX t ht fun e' zD h=>(eo e' zD).1 (h.trans htx)
     ·obtain ⟨hno,k9⟩:=hf.loc i o D5 fun e he=>⟨fun h=>hia ⟨e,he,h⟩,fun h=>his ⟨e,he,h⟩⟩
      obtain⟨v,h1,h2⟩:=k9 (π.map fun e=>.box (if e.s∈pre++i::post then Z else e.c))
      have YF:(π.map fun e=>Ob.box (if e.s∈pre++post then Z else e.c))=π.map fun e=>Ob.box (if e.s∈pre++i::post then Z else e.c):=by
       refine Gg fun x hx=>?_
       have eo:x.s≠i:=fun h=>his ⟨x,((hπ x).1 hx).1,h⟩
       by_cases hm:x.s∈pre++i::post
       ·rw[if_pos hm,if_pos ((fH _).2 ⟨hm,eo⟩)]
       ·rw[if_neg hm,if_neg fun h=>hm ((fH _).1 h).1]
      refine⟨v,π,E1,by rw[YF];exact h1,fun t ht=>rX t ht fun e he h=>hno e he (h ▸ ht),fun d hd _=>h2 d hd,fun p e hpe=>he3 v p e hpe,p8,anI⟩
   obtain⟨v,π2,E2,k9,j3,hv,he4,ah0,anI⟩:=key;have ei:=k9.step E _ _ a w j3 (.inr (.inr ⟨rfl,rfl⟩)) hs Q;refine wpOpIn_mono (K:=fun a' w'=>fe g (bf E o.dst v) _ a' w') (fun a' w' fh=>?_) (by unfold wpOpIn;rw[D5];exact ei);refine ih _ (pre++post) _ π2 a' w' (by simp[tQ]) ?_ ?_ ?_ ?_ ?_ he4 ah0 anI fh
   ·intro k o' hk sR e zD hb;rw[kO]at hk ⊢;by_cases kf:k=i
    ·subst kf;rw[D5]at sR;cases sR;have:=gi e zD hb;split
     ·rfl
     ·exact this
    ·rw [if_neg kf] at hk;have:=hc k o' hk sR e zD hb;split
     ·rfl
     ·exact this
   ·intro k;rw[kO,fH];have hk:=hR k;by_cases kf:k=i
    ·subst kf;simp
    ·simp only [kf,if_false];rw[← hk];simp[kf]
   ·obtain ⟨p1,p2,p3⟩:=kS.1 hp;exact kS.2 ⟨p1,(xz.1 p2).2,fun x hx y hy=>p3 x hx y kb⟩
   ·simp at zP ⊢;omega
   ·intro t eo ht;rw[gg];split
    ·rename_i hd;exact hv t hd eo
    ·rename_i hd;refine YC t eo fun j hj x hx=>?_
     by_cases nc:j=i
     ·subst nc;rw[D5]at hx;cases hx;exact hd
     ·exact ht j ((fH _).2 ⟨hj,nc⟩) x hx

theorem ams{Fin:Exit→Act→World→Prop}(hg:c9 g){id:Nat}(al:List Hn){k:List It}{E:bk}(E1:bk)(hk:mA k=true)(hf:KV g ad Z al objs E E1)(h:R g pf Fin k E1 (objs++al.map fun e=>.box e.c)):R g pf Fin (.code (.region id ad true)::k) E objs:=by
 rintro⟨_,ho⟩ a w hs;simp only[KP];refine wpIn_region_any hg.mixed ?_;refine N0 hg hf (fun a w hs=>?_) ad.size (Array.replicate ad.size false) (List.range ad.size) E [] a _ aC ?_ ?_ (St) aC ?_ aC .nil (fun e=>⟨fun h=>DH,fun ⟨h1,h2⟩=>?_⟩) (by simpa using hs.drew)
 ·exact RK.ej (pf:=pf) (k:=k) ho h (ir hk) a w hs
 ·intro k o hk;simp[Array.getD]at hk
 ·intro i;simp only[zC,Array.getD,V8];constructor
  ·intro h;simp[h]
  ·intro h;exact h.1
 ·intro t _ ht;exact hf.start t fun j o hj=>ht j (zC.2 (tN.1 hj).1) o hj
 ·obtain ⟨o,h3,_⟩:=hf.alloc e h1;exact absurd (zC.2 (tN.1 h3).1) h2
end
end aw

namespace aw
open Go Go.RowKit
variable{objs:List Ob}{after:Array Edge}{dst:Option Nat}{E:bk}{pos:String}{Z:List AV}{ty T:Nat}{τ:Ty}
section
variable {g:G} {ad:Array Oper}

def N1 (v:AV) (E:bk):Option Nat→Prop
 |none=>True
 |some d=>bM v (lk E d)
theorem N1.spec{v:AV}{o:Option Nat}(h:N1 v E o):∀d,o=some d→bM v (lk E d):=fun d hd=>by subst hd;exact h
def pfN:Nat→cC:=fun _=>.ji

theorem ao(hg:c9 g){o:Oper}{v:AV}(DM:held (jC pfN) o.op=false)(bm:aG ad.toList E o.guard=some true)(hd:aO ⟨g.ty,g.N⟩ o.dst=true)(h:db g.ty (ev E) objs o.op=some (v,objs))(hv:N1 v E o.dst):∃v,tW g ad o E objs v objs∧∀d,o.dst=some d→bM v (lk E d) :=
 ⟨v,(aI.JE (pf:=pfN) hg DM (cK bm) (dD hd) h).toE,hv.spec⟩

theorem pR(hg:c9 g){o:Oper}(bm:aG ad.toList E o.guard=some false)(hd:aO ⟨g.ty,g.N⟩ o.dst=true)(hv:N1 (.cH []) E o.dst):∃v,tW g ad o E objs v objs∧∀d,o.dst=some d→bM v (lk E d) :=
 ⟨_,aI.skip hg (cK bm) (dD hd),hv.spec⟩

theorem iy(hg:c9 g){x i:Operand}{gd:Option (Nat × Bool)}
  {aa:List (List D)} {n:Int} {row:List D} {sz cj e:Nat} {z:List Value} 
  (bm:aG ad.toList E gd=some true) (hd:aO ⟨g.ty,g.N⟩ dst=true) (hx:lB (ev E x)=.d (.sl aa)) (hi:ev E i=.d (.v (.int .i64 n))) (hT:g.ty T=some ⟨sz,cj,z,.slice e⟩) (he:g.ty e=some τ)
  (h0:0≤n) (gL:aa[n.toNat]? = some row) (hsz:row.length=τ.size) (hv:N1 (.d (.bG row)) E dst):∃v,tW g ad ⟨dst,.indexAddr T x i,ty,pos,after,gd⟩ E objs v objs∧∀d,dst=some d→bM v (lk E d) :=
 ⟨_,(EC hg bm hd hx hi hT he h0 gL hsz).toE,hv.spec⟩

theorem nX(hg:c9 g){f:Nat}{dM:List AV}{r:AV}(hc:bD g.P f dM r){x:Operand}{args:Array Operand}{ts:Array Nat}{gd:Option (Nat × Bool)}
    {fs cs:List AV}
  (bm:aG ad.toList E gd=some true) (hd:aO ⟨g.ty,g.N⟩ dst=true) (hx:ev E x=.bU f fs cs) (has:(fs++args.toList.map (ev E)++cs).map lB=dM) (hpa:kZ dM=true) (hpr:mq r=true) (hv:N1 r E dst):∃v,tW g ad ⟨dst,.call { callee:=.value x,args:=args,argTypes:=ts },ty,pos,after,gd⟩ E objs v objs∧∀d,dst=some d→bM v (lk E d) :=
 ⟨_,(JF hg (cK bm) (dD hd) rfl hx has hpa hc hpr).toE,hv.spec⟩

theorem T7(hg:c9 g)(hT:g.ty T=some τ)(hz:τ.zero.map (fun x=>AV.d (.v x))=Z)(hd:aO ⟨g.ty,g.N⟩ dst=true)(objs':List Ob):tW g ad ⟨dst,.alloc T,ty,pos,after,none⟩ E objs' (.lo objs'.length 0) (objs'++[.box Z]):=by
 have h:db g.ty (ev E) objs' (.alloc T)=some (.lo objs'.length 0,objs'++[.box Z]):=by
  subst hz;simp[db,cJ,eX,iz,hT,bj]
 exact(aI.JE (pf:=pfN) hg rfl (cK rfl) (dD hd) h).toE

def rY (g:G) (ad:Array Oper) (E1:bk) (objs:List Ob) (sk:Nat→Bool):Nat→List Oper→Prop
 |_,[]=>True
 |n,o::r=>(sk n=false→∀tl,∃v,tW g ad o E1 (objs++tl) v (objs++tl)∧∀d,o.dst=some d→bM v (lk E1 d))∧rY g ad E1 objs sk (Nat.succ n) r

theorem rY.get{E1:bk}{objs:List Ob}{sk:Nat→Bool}:∀ {l:List Oper} {n:Nat},rY g ad E1 objs sk n l→∀ (j:Nat) (o:Oper),l[j]? = some o→sk (n+j)=false→∀tl,∃v,tW g ad o E1 (objs++tl) v (objs++tl)∧∀d,o.dst=some d→bM v (lk E1 d)
 |[],_,_,j,o,h,_=>by simp at h
 |x::l,n,h,0,o,ho,hs=>by
  simp only[Ss,Option.some.injEq]at ho;subst ho;exact h.1 hs
 |x::l,n,h,j+1,o,ho,hs=>by
  simp only[Sp]at ho;exact rY.get h.2 j o ho (by rw[Nat.succ_add];exact hs)

def YG (ad:Array Oper):Bool:=ad.toList.zipIdx.all fun p=>p.1.after.toList.all fun e=>!Region.binds .any e || Nat.blt e.on p.2
def ah4 (ad:Array Oper):Bool:=ad.toList.zipIdx.all fun p=>p.1.after.toList.all (fun _=>true)&&(p.1.looksAt ad).all fun t=>ad.toList.zipIdx.all fun q=>!(q.1.dst==some t) || p.1.after.toList.any fun e=>Region.binds .any e&&Nat.beq e.on q.2

theorem nE{α:Type}{l:List α}{j:Nat}{x:α}(h:l[j]? = some x):(x,j)∈l.zipIdx:=by
 rw[V7];simpa using h

theorem Ck(h:YG ad=true):∀ (j:Nat) (o:Oper),ad[j]? = some o→∀e∈o.after.toList,Region.binds .any e=true→e.on<j:=fun j o ho e he hb=>by
 have h1:=fk.1 h (o,j) (nE Sl);have h2:=fk.1 h1 e he;rw[hb]at h2;simpa[Nat.blt_eq]using h2

theorem FA(h:ah4 ad=true):∀ (j:Nat) (o:Oper),ad[j]? = some o→∀t∈o.looksAt ad,∀ (i:Nat) (x:Oper),ad[i]? = some x→x.dst=some t→∃e∈o.after.toList,Region.binds .any e=true∧e.on=i:=fun j o ho t ht i x hx hd=>by
 have h1:=fk.1 h (o,j) (nE Sl);simp only[aV]at h1;have h2:=fk.1 h1.2 t ht;have h3:=fk.1 h2 (x,i) (nE (by simpa using hx));simp only[hd,beq_self_eq_true,xK,zA]at h3;obtain⟨e,he,h4⟩:=yM.1 h3;simp only[aV]at h4;exact⟨e,he,h4.1,by simpa using h4.2⟩
def ah5 (ad:Array Oper)(ds:List Nat):Bool:=ds.all fun d=>ad.toList.any fun o=>o.dst==some d

theorem YH:∀ (N E0:bk) (t:Nat),t ∉ N.map (·.1)→lk (N++E0) t=lk E0 t
 |[],_,_,_=>rfl
 |p::N,E0,t,h=>by
  simp only[List.map_cons,eL,not_or]at h;obtain⟨k,v⟩:=p;simp only[jj,lk,sX (fun e=>h.1 e.symm),cond_false];exact YH N E0 t h.2

theorem FB{N E0:bk}(h:ah5 ad (N.map (·.1))=true):∀t,(∀ (j:Nat) (o:Oper),ad[j]? = some o→o.dst≠some t)→bM (lk E0 t) (lk (N++E0) t):=fun t ht=>by
 rw[YH N E0 t fun hm=>?_]
 ·exact .refl _
 ·have h1:=fk.1 h t hm;obtain⟨o,ho,h2⟩:=yM.1 h1;obtain⟨j,hj⟩:=uE.1 ho;exact ht j o PW PT

def alB (ad:Array Oper)(T:Nat)(e:Nat × Nat × Nat × Nat):Bool :=
 (match ad[e.1]? with
   |some ⟨some d,.alloc U,_,_,_,none⟩=>Nat.beq d e.2.1&&Nat.beq U T
   |_=>false) &&
 (match ad[e.2.2.1]? with
   |some ⟨none,.store U (.tmp a) (.tmp b),_,_,_,none⟩=>Nat.beq U T&&Nat.beq a e.2.1&&Nat.beq b e.2.2.2
   |_=>false)
def oK (n:Nat)(l:List Nat):Bool:=l.any fun m=>Nat.beq m n

theorem ik{n:Nat}{l:List Nat}:oK n l=true↔n∈l:=by
 unfold oK;rw[yM];constructor
 ·rintro⟨m,h,he⟩;rw[← Nat.eq_of_beq_eq_true he];exact h
 ·intro h;exact⟨n,h,Nat.beq_refl n⟩

def N2:List Nat→Bool
 |[]=>true
 |x::l=>!oK x l&&N2 l

theorem mO:∀ {l:List Nat},N2 l=true→l.Nodup
 |[],_=>.nil
 |x::l,h=>by
  simp only[N2,aV,xM]at h;exact xL.2 ⟨fun hm=>by rw[ik.2 hm]at h;exact absurd h.1 aC,mO h.2⟩

def amt (ad:Array Oper)(T:Nat)(al:List (Nat × Nat × Nat × Nat)):Bool :=
 al.all (alB ad T)&&N2 (al.map (·.1))&&N2 (al.map (·.2.2.1))&&N2 (al.map (·.2.1)) &&
 (al.all fun e=>!oK e.2.2.2 (al.map (·.2.1)) && !oK e.2.2.1 (al.map (·.1))) &&
 (ad.toList.zipIdx.all fun p=>(match p.1.dst with
  |some d=>al.all fun e=>!Nat.beq d e.2.1 || Nat.beq p.2 e.1
  |none=>true)&&(oK p.2 (al.map (·.1)) || oK p.2 (al.map (·.2.2.1)) || al.all fun e=>!oK e.2.1 (p.1.looksAt ad)))
def amu (al:List (Nat × Nat × Nat × Nat))(j:Nat):Bool:=oK j (al.map (·.1)) || oK j (al.map (·.2.2.1))
def u7 (e:Hn):Nat × Nat × Nat × Nat:=(e.j,e.d,e.s,e.x)

theorem YI(hg:c9 g){al:List Hn}{N E0:bk}(T:Nat)(hT:g.ty T=some τ)(hZ:τ.zero.map (fun x=>AV.d (.v x))=Z)(hb:YG ad=true)(hd:ah4 ad=true)(hn:ah5 ad (N.map (·.1))=true)(hc:amt ad T (al.map u7)=true)
  (hN:(al.all fun e=>Nat.blt e.d g.N)=true) (hzs:Z.length=τ.size) (eK:rY g ad (N++E0) objs (amu (al.map u7)) 0 ad.toList) (qg:al.map (fun e=>fU (lk (N++E0) e.x))=al.map fun e=>some e.c) (tQ:al.map (fun e=>e.c.length)=al.map fun _=>τ.size)
  (Gt:al.map (fun e=>lk (N++E0) e.d)=(List.range al.length).map fun i=>.lo (objs.length+i) 0)
  (hpu:(N++E0).map (fun p=>(p.1,if oK p.1 (al.map (·.d)) then .any else dA objs.length p.2))=(N++E0).map fun p=>(p.1,if oK p.1 (al.map (·.d)) then .any else p.2))
  (Fz:objs.map (aQ (dA objs.length))=objs) (hpc:al.map (fun e=>e.c.map (dA objs.length))=al.map (·.c)) (hl:g.φ0.length≤objs.length) (jB:g.rr=[]:=by rfl):KV g ad Z al objs E0 (N++E0):=by
 have at_:∀ {α β:Type} {f h:α→β} {l:List α},l.map f=l.map h→∀x∈l,f x=h x:=fun {α β f h l} he x hx=>by
  obtain⟨i,hi⟩:=uE.1 hx;have:=congrArg (fun l=>l[i]?) he;simpa[eU,hi]using this
 simp only[amt,aV]at hc;obtain⟨⟨⟨⟨⟨h1,h2⟩,h3⟩,h4⟩,h5⟩,h6⟩:=hc;have Iy:∀ (f:Nat × Nat × Nat × Nat→Nat),(al.map u7).map f=al.map fun e=>f (u7 e):=fun f=>by rw[jw];rfl
 have zI:∀e∈al,u7 e∈al.map u7:=fun e he=>fA.2 ⟨e,he,rfl⟩
 have afo:=fun e he=>fk.1 h1 _ (zI e he)
 refine⟨Ck hb,FA hd,FB hn,fun j o ho eo=>⟨fun e he hlk=>?_,eK.get j o Sl ?_⟩,fun e he=>?_,fun e he=>?_,fun i e hi=>?_,fun j o e he ho api=>?_,?_,?_,?_,fun t ht=>?_,Fz,at_ hpc,hl,jB⟩
 ·have h7:=fk.1 h6 (o,j) (nE Sl);simp only[aV,mS]at h7;rcases h7.2 with (h |h) |h
  ·rw [ik,Iy] at h;obtain⟨e',zD,hj⟩:=fA.1 h;exact(eo e' zD).1 hj
  ·rw [ik,Iy] at h;obtain⟨e',zD,hj⟩:=fA.1 h;exact(eo e' zD).2 hj
  ·have:=fk.1 h _ (zI e he);rw[show (u7 e).2.1=e.d from rfl,ik.2 hlk]at this;simp at this
 ·rw [MF];unfold amu;rw[DI];constructor
  ·cases h:oK j ((al.map u7).map (·.1)) with
   |false=>rfl
   |true =>
    rw[ik,Iy]at h;obtain⟨e',zD,hj⟩:=fA.1 h;exact absurd hj (eo e' zD).1
  ·cases h:oK j ((al.map u7).map (·.2.2.1)) with
   |false=>rfl
   |true =>
    rw[ik,Iy]at h;obtain⟨e',zD,hj⟩:=fA.1 h;exact absurd hj (eo e' zD).2
 ·have h7:=afo e he;unfold alB at h7;simp only[aV]at h7;obtain⟨h7,_⟩:=h7;split at h7
  ·rename_i d U ty pos after ho;simp only[aV,u7]at h7 ho;have e1:=Nat.eq_of_beq_eq_true h7.1;have e2:=Nat.eq_of_beq_eq_true h7.2;subst e1;subst e2;have hdn:=fk.1 hN e he;exact⟨_,ho,rfl,rfl,fun objs'=>T7 hg hT hZ (by simp only[aO];rw[I6];rw[Nat.blt_eq]at hdn;exact hdn) objs'⟩
  ·cases h7
 ·have h7:=afo e he;unfold alB at h7;simp only[aV]at h7;obtain⟨_,h7⟩:=h7;split at h7
  ·rename_i U a b ty pos after ho;simp only[aV,u7]at h7 ho;have e1:=Nat.eq_of_beq_eq_true h7.1.1;have e2:=Nat.eq_of_beq_eq_true h7.1.2;have e3:=Nat.eq_of_beq_eq_true h7.2;subst e1;subst e2;subst e3;refine⟨U,ty,pos,after,τ,ho,hT,at_ qg e he,at_ tQ e he,hzs,fun e' zD=>?_⟩;have h8:=fk.1 h5 _ (zI e he);simp only[aV,xM,u7]at h8;constructor
   ·intro hx;have h9:=h8.1;rw[Iy,show oK e.x (al.map fun e=>(u7 e).2.1)=true from ik.2 (fA.2 ⟨e',zD,hx⟩)]at h9;cases h9
   ·intro hx;have:=h8.2;rw[Iy,show oK e.s (al.map fun e=>(u7 e).1)=true from ik.2 (fA.2 ⟨e',zD,hx⟩)]at this;cases this
  ·cases h7
 ·have:=congrArg (fun l=>l[i]?) Gt;have l7:=(bC.1 hi).1;simp only[eU,hi,rD,V9 l7,Option.some.injEq]at this;exact this
 ·have h7:=fk.1 h6 (o,j) (nE Sl);simp only[aV,api]at h7;have h8:=fk.1 h7.1 _ (zI e he);simp only[u7,Nat.beq_refl,xK,zA]at h8;exact Nat.eq_of_beq_eq_true h8
 ·have:=mO h2;rwa [Iy]at this
 ·have:=mO h3;rwa [Iy]at this
 ·have:=mO h4;rwa [Iy]at this
 ·have key:∀l:bk,(∀p∈l,(p.1,if oK p.1 (al.map (·.d)) then AV.any else dA objs.length p.2)=(p.1,if oK p.1 (al.map (·.d)) then AV.any else p.2))→dA objs.length (lk l t)=lk l t:=fun l=>by
   induction l with
   |nil=>intro _;rfl
   |cons p l ih =>
    intro hl;obtain⟨k,v⟩:=p;simp only[lk];cases hk:Nat.beq k t with
    |false=>exact ih fun p hp=>hl p Gd
    |true =>
     have:=Nat.eq_of_beq_eq_true hk;subst this;have h9:=hl (k,v) aC;simp only[Prod.mk.injEq,true_and]at h9;rw[if_neg,if_neg]at h9
     ·exact h9
     ·intro h;obtain⟨e,he,hd⟩:=fA.1 (ik.1 h);exact ht e he hd
     ·intro h;obtain⟨e,he,hd⟩:=fA.1 (ik.1 h);exact ht e he hd
  exact key _ (at_ hpu)

theorem KY(hg:c9 g)(hd:aO ⟨g.ty,g.N⟩ dst=true):tW g ad ⟨dst,.makeMap T none,ty,pos,after,none⟩ E objs (.mp objs.length) (objs++[.map []]):=by
 refine(aI.eT (b:=0) hg (.add _ _) rfl hd aC fun φ a w hρ hs=>?_).toE;refine⟨.value (.map (some w.heap.size)),.map (some w.heap.size),w.alloc (.map #[] 0),φ++[.js w.heap.size],?_,.inl rfl,?_,?_⟩
 ·simp[execOp,Instr.makeMap,run_newObj]
 ·simp only[RV];exact⟨w.heap.size,by rw[← hs.len];simp,rfl⟩
 ·refine jJ.new hs (fun b hb=>by simp only [bB.bl] at hb; exact hb.symm) ?_;simp only[bd];exact⟨#[],0,heap_alloc_new _ _,by simp[mT],by simp[aW]⟩

def amv (ad:Array Oper)(T tm:Nat)(e:T6):Bool :=
 match ad[e.1]? with
 |some ⟨none,.insert U (.tmp a) (.const (.string s)) (.tmp b),_,_,_,none⟩=>Nat.beq U T&&Nat.beq a tm&&Nat.beq b e.2.2&&bE s e.2.1
 |_=>false

def amw (ad:Array Oper)(jm tm:Nat):Bool :=
 match ad[jm]? with
 |some ⟨some d,.makeMap _ none,_,_,_,none⟩=>Nat.beq d tm
 |_=>false
def amx (jm:Nat)(ins:List T6)(j:Nat):Bool:=Nat.beq j jm || oK j (ins.map (·.1))

theorem Ra(hg:c9 g){jm tm:Nat}{ins:List T6}{N E0:bk}(T:Nat){q cj q' oU kt et:Nat}{z z':List Value}(hT:g.ty T=some ⟨q,cj,z,.map kt et⟩)(oC:g.ty kt=some ⟨q',oU,z',.str⟩)(hb:YG ad=true)(hd:ah4 ad=true)(hn:ah5 ad (N.map (·.1))=true)(hc:ins.all (amv ad T tm)=true)(hm:amw ad jm tm=true)(htm:Nat.blt tm g.N=true)
  (hj:oK jm (ins.map (·.1))=false) (hn1:N2 (ins.map (·.1))=true) (SQ:(ins.map (·.2.1)).Nodup) (YF:lk (N++E0) tm=.mp objs.length) (eK:rY g ad (N++E0) objs (amx jm ins) 0 ad.toList):Hm g ad jm tm ins objs E0 (N++E0):=by
 refine⟨Ck hb,FA hd,FB hn,fun j o ho hjm eo=>eK.get j o Sl ?_,?_,YF,fun p hp=>⟨fun e=>?_,?_⟩,SQ,mO hn1⟩
 ·rw [MF];unfold amx;rw[DI];constructor
  ·exact sX hjm
  ·cases h:oK j (ins.map (·.1)) with
   |false=>rfl
   |true =>
    obtain⟨p,hp,he⟩:=fA.1 (ik.1 h);exact absurd he (eo p hp)
 ·unfold amw at hm;split at hm
  ·rename_i d U ty pos after ho;have:=Nat.eq_of_beq_eq_true hm;subst this;exact⟨_,ho,rfl,KY hg (by simp only[aO];rw[I6];rw[Nat.blt_eq]at htm;exact htm)⟩
  ·cases hm
 ·rw [ik.2 (fA.2 ⟨p,hp,e⟩)] at hj;cases hj
 ·have h7:=fk.1 hc p hp;unfold amv at h7;split at h7
  ·rename_i U a s b ty pos after ho;simp only[aV]at h7;have e1:=Nat.eq_of_beq_eq_true h7.1.1.1;have e2:=Nat.eq_of_beq_eq_true h7.1.1.2;have e3:=Nat.eq_of_beq_eq_true h7.1.2;have e4:=Tm.bo.1 h7.2;subst e1;subst e2;subst e3;subst e4;exact⟨_,_,_,_,_,_,_,_,_,_,_,_,ho,hT,oC⟩
  ·cases h7
theorem YJ{pf:Nat→cC}{Fin:Exit→Act→World→Prop}(hg:c9 g){id:Nat}(al:List Hn)(N:bk){k:List It}(hk:mA k=true)(hf:KV g ad Z al objs E (N++E))(h:R g pf Fin k (N++E) (objs++al.map fun e=>.box e.c)):R g pf Fin (.code (.region id ad true)::k) E objs:=ams hg al (N++E) hk hf h
theorem Rb{pf:Nat→cC}{Fin:Exit→Act→World→Prop}(hg:c9 g){id jm tm:Nat}(ins:List T6)(N:bk){k:List It}(hk:mA k=true)(hf:Hm g ad jm tm ins objs E (N++E))(h:R g pf Fin k (N++E) (objs++[.tI (eI (ym (N++E) ins))])):R g pf Fin (.code (.region id ad true)::k) E objs:=ah1 hg ins (N++E) hk hf h
end
end aw

namespace Go.Proofs.YtaagocopollacaaGreatDoor
open Go aw Go.Proofs
def anQ:Nat→cC:=fun f=>bif Nat.beq f 4900100001 then .bO 100 else bif Nat.beq f 150 then .still else bif Nat.beq f 151 then .still else .ji
def tmC (t:Tm):List AV:=[.d (.v (.int .i64 t.k)),.d (.v (.string t.s)),.d (.v (.int .i64 t.n)),.d (.sl (Tm.aa t.l))]
def amy:List AV:=[.d (.v (.int .i64 0)),.d (.v (.string ByteArray.empty)),.d (.v (.int .i64 0)),.d (.v (.slice none 0 0))]
theorem jN (nx:Int)(l:List Tm):(bX nx l).ap=false:=by unfold bX;split<;>rfl
theorem jO (nx:Int)(l:List Tm):(bX nx l).tx=[]:=by unfold bX;split<;>rfl
theorem gH (o:List Ob)(l:List Tm)(k:Ak)(h1:k.ap=false)(h2:k.tx=[]):(jR l k.al false ByteArray.empty k.nx k.e).map (aQ (bQ false 1 o 5))=jR l k.al k.ap (Tx k.tx) k.nx k.e:=by rw[h1,h2];exact dL o _ _ _ _ _ _
def fnO (t n a:Tm)(nx:Int):List Ob:=jR [t,n,a] [] false ByteArray.empty nx 0++[aP t,aP n,aP a]

theorem gI (Y:YP)(l l2:List Tm)(ap:Bool)(nx:Int)(hb:∀t∈l2,eu t)(eo:l2≠[])(aZ:l2.length≤1000):aU Tryz.prog Y 127 [.lo 0 0,.d (.sl (l2.map Tm.row))] (jR l [] ap ByteArray.empty nx 0) (bV (bX nx l2).h) (jR l (bX nx l2).al ap ByteArray.empty (bX nx l2).nx (bX nx l2).e):=by
 rw[← Tm.dZ];exact aco Y l l2 ap nx hb eo aZ

theorem N3 (Y:YP)(t n a:Tm)(ht:eu t)(hn:eu n)(ha:eu a)(nx:Int)(iW:0≤nx∧nx≤999992):y7 Y 136 [t,n,a] nx (cA nx t n a):=by
 refine mH6 Tryz.func136 fun w S φ hg=>?_
 have hφ:φ.length=1:=hg.j5.len;refine af ?_;refine YJ hg.ok (Z:=amy) [⟨18,3,21,12,tmC t⟩,⟨19,4,22,18,tmC n⟩,⟨20,5,23,24,tmC a⟩] [(7,.lo 0 0),(8,.lo 0 0),(9,.lo 0 0),(10,.d (.sl (Tm.aa [t,n,a]))),(11,.d (.bG (Tm.row t))),(12,t.av),(13,.lo 0 0),(14,.lo 0 0),(15,.lo 0 0),(16,.d (.sl (Tm.aa [t,n,a]))),(17,.d (.bG (Tm.row n))),(18,n.av),(19,.lo 0 0),(20,.lo 0 0),(21,.lo 0 0),(22,.d (.sl (Tm.aa [t,n,a]))),(23,.d (.bG (Tm.row a))),(24,a.av),(3,.lo 1 0),(4,.lo 2 0),(5,.lo 3 0)] rfl ?_ ?_
 ·refine YI hg.ok 27 rfl rfl cX cX cX cX cX rfl ?_ rfl rfl rfl rfl rfl rfl (by show φ.length≤1; omega);refine⟨fun _ tl=>ao hg.ok rfl rfl rfl rfl dQ,?_⟩;refine⟨fun _ tl=>ao hg.ok rfl rfl rfl rfl dQ,?_⟩;refine⟨fun _ tl=>ao hg.ok rfl rfl rfl rfl dQ,?_⟩;refine⟨fun _ tl=>ao hg.ok rfl rfl rfl rfl dQ,?_⟩;refine⟨fun _ tl=>iy hg.ok rfl rfl rfl rfl rfl rfl fi (Tm.aB (l:=[t,n,a]) (i:=0) rfl) rfl dQ,?_⟩;refine⟨fun _ tl=>ao hg.ok rfl rfl rfl rfl dQ,?_⟩;refine⟨fun _ tl=>ao hg.ok rfl rfl rfl rfl dQ,?_⟩;refine⟨fun _ tl=>ao hg.ok rfl rfl rfl rfl dQ,?_⟩;refine⟨fun _ tl=>ao hg.ok rfl rfl rfl rfl dQ,?_⟩;refine⟨fun _ tl=>ao hg.ok rfl rfl rfl rfl dQ,?_⟩;refine⟨fun _ tl=>iy hg.ok rfl rfl rfl rfl rfl rfl fi (Tm.aB (l:=[t,n,a]) (i:=1) rfl) rfl dQ,?_⟩;refine⟨fun _ tl=>ao hg.ok rfl rfl rfl rfl dQ,?_⟩;refine⟨fun _ tl=>ao hg.ok rfl rfl rfl rfl dQ,?_⟩;refine⟨fun _ tl=>ao hg.ok rfl rfl rfl rfl dQ,?_⟩;refine⟨fun _ tl=>ao hg.ok rfl rfl rfl rfl dQ,?_⟩;refine⟨fun _ tl=>ao hg.ok rfl rfl rfl rfl dQ,?_⟩;refine⟨fun _ tl=>iy hg.ok rfl rfl rfl rfl rfl rfl fi (Tm.aB (l:=[t,n,a]) (i:=2) rfl) rfl dQ,?_⟩;exact akg
 refine af ?_
 have e4:∀ (P:Tm→Prop) (x y z u:Tm),P x→P y→P z→P u→∀v∈[x,y,z,u],P v:=fun P x y z u hx hy hz hu v hv=>by
  simp only[eL,nW,or_false]at hv;rcases hv with rfl |rfl |rfl |rfl<;>assumption
 have e2:∀ (P:Tm→Prop) (x y:Tm),P x→P y→∀v∈[x,y],P v:=fun P x y hx hy v hv=>by
  simp only[eL,nW,or_false]at hv;rcases hv with rfl |rfl<;>assumption
 refine aj (fun h1=>?_) fun h1=>?_
 ·have h1:t.k=2:=by simpa using h1
  rw[show cA nx t n a=bX nx [n,t,a,gj 0] by unfold cA;rw[if_pos h1]];refine aF (Cf 0) ?_;refine ai hg.ok hg.cm hg.wide hg.Y [0] (jR [t,n,a] (bX nx [n,t,a,gj 0]).al false ByteArray.empty (bX nx [n,t,a,gj 0]).nx (bX nx [n,t,a,gj 0]).e++[aP t,aP n,aP a]) (gI Y [t,n,a] [n,t,a,gj 0] false nx (by exact e4 eu _ _ _ _ hn ht ha (Ch 0)) aC aC) cF rfl rfl rfl rfl rfl rfl rfl rfl (af ?_);exact aK hg 1 5 cP rfl rfl (gH _ [t,n,a] (bX nx [n,t,a,gj 0]) (jN _ _) (jO _ _))
 have h1:¬ t.k=2:=by simpa using h1
 refine aj (fun h2=>?_) fun h2=>?_
 ·have h2:t.k=3:=by simpa using h2
  rw[show cA nx t n a=bX nx [n,gG t.s,a,gj t.l.length] by unfold cA;rw[if_neg h1,if_pos h2]];refine aF (tp t.s) ?_;refine aF (Cf (Tm.aa t.l).length) ?_;rw[Tm.au];refine ai hg.ok hg.cm hg.wide hg.Y [0] (jR [t,n,a] (bX nx [n,gG t.s,a,gj t.l.length]).al false ByteArray.empty (bX nx [n,gG t.s,a,gj t.l.length]).nx (bX nx [n,gG t.s,a,gj t.l.length]).e++[aP t,aP n,aP a]) (gI Y [t,n,a] [n,gG t.s,a,gj t.l.length] false nx (by exact e4 eu _ _ _ _ hn (Ci (Hk ht)) ha (Ch _)) aC aC) cF rfl rfl rfl rfl rfl rfl rfl rfl (af ?_);exact aK hg 1 5 cP rfl rfl (gH _ [t,n,a] (bX nx [n,gG t.s,a,gj t.l.length]) (jN _ _) (jO _ _))
 have h2:¬ t.k=3:=by simpa using h2
 refine aj (fun h3=>?_) fun h3=>?_
 ·have h3:n.k=1:=by simpa using h3
  rw[show cA nx t n a=eG nx 4 by unfold cA;rw[if_neg h1,if_neg h2,if_pos (.inl h3)]];refine ajW ?_;exact ad6
 have h3:¬ n.k=1:=by simpa using h3
 refine aj (fun h4=>?_) fun h4=>?_
 ·have h4:a.k=1:=by simpa using h4
  rw[show cA nx t n a=eG nx 4 by unfold cA;rw[if_neg h1,if_neg h2,if_pos (.inr h4)]];refine ajW ?_;exact ad6
 have h4:¬ a.k=1:=by simpa using h4
 refine aj (fun h5=>?_) fun h5=>?_
 ·have h5:a.k≠2:=by simpa using h5
  rw[show cA nx t n a=eG nx 5 by unfold cA;rw[if_neg h1,if_neg h2,if_neg (fun h=>h.elim h3 h4),if_pos (.inl h5)]];refine afR ?_;exact VF
 have h5:¬ a.k≠2:=by simpa using h5
 refine aj (fun h6=>?_) fun h6=>?_
 ·have h6:0<n.l.length:=by simpa [Tm.au] using h6
  rw[show cA nx t n a=eG nx 5 by unfold cA;rw[if_neg h1,if_neg h2,if_neg (fun h=>h.elim h3 h4),if_pos (.inr h6)]];refine afR ?_;exact VF
 have h6:¬ 0<n.l.length:=by simpa[Tm.au]using h6
 refine aj (fun h7=>?_) fun h7=>?_
 ·have h7:a.n<0:=by simpa using h7
  rw[show cA nx t n a=eG nx 6 by unfold cA;rw[if_neg h1,if_neg h2,if_neg (fun h=>h.elim h3 h4),if_neg (fun h=>h.elim h5 h6),if_pos (.inl h7)]];refine ajX ?_;exact ad7
 have h7:¬ a.n<0:=of_decide_eq_false h7;refine aj (fun h8=>?_) fun h8=>?_
 ·have h8:a.n > 8:=by simpa using h8
  rw[show cA nx t n a=eG nx 6 by unfold cA;rw[if_neg h1,if_neg h2,if_neg (fun h=>h.elim h3 h4),if_neg (fun h=>h.elim h5 h6),if_pos (.inr h8)]];refine ajX ?_;exact ad7
 have h8:¬ a.n > 8:=of_decide_eq_false h8;refine aj (fun h9=>?_) fun h9=>?_
 ·have h9:a.n=0:=by simpa using h9
  rw[show cA nx t n a=bX nx [t,n] by unfold cA;rw[if_neg h1,if_neg h2,if_neg (fun h=>h.elim h3 h4),if_neg (fun h=>h.elim h5 h6),if_neg (fun h=>h.elim h7 h8),if_pos h9]];refine ai hg.ok hg.cm hg.wide hg.Y [0] (jR [t,n,a] (bX nx [t,n]).al false ByteArray.empty (bX nx [t,n]).nx (bX nx [t,n]).e++[aP t,aP n,aP a]) (gI Y [t,n,a] [t,n] false nx (by exact e2 eu _ _ ht hn) aC aC) cF rfl rfl rfl rfl rfl rfl rfl rfl (af ?_);exact aK hg 1 5 cP rfl rfl (gH _ [t,n,a] (bX nx [t,n]) (jN _ _) (jO _ _))
 have h9:¬ a.n=0:=by simpa using h9
 refine aj (fun mm=>?_) fun mm=>?_
 ·have mm:n.k=2:=by simpa using mm
  rw[show cA nx t n a=eG nx 5 by unfold cA;rw[if_neg h1,if_neg h2,if_neg (fun h=>h.elim h3 h4),if_neg (fun h=>h.elim h5 h6),if_neg (fun h=>h.elim h7 h8),if_neg h9,if_pos mm]];refine afR ?_;exact VF
 have mm:¬ n.k=2:=by simpa using mm
 rw[show cA nx t n a=bX (nx+a.n) [t,.mk 3 n.s 0 (dy nx a.n.toNat)] by unfold cA;rw[if_neg h1,if_neg h2,if_neg (fun h=>h.elim h3 h4),if_neg (fun h=>h.elim h5 h6),if_neg (fun h=>h.elim h7 h8),if_neg h9,if_neg mm]];refine l9 4 3 4 rfl rfl rfl (af ?_);obtain⟨m,hm⟩:∃m:Nat,a.n=m:=⟨a.n.toNat,by omega⟩;have hm8:m≤8:=by omega
 have htn:a.n.toNat=m:=by omega
 rw[htn];have Qx:=Cg;refine bh (fun k:Nat=>([(0,.lo 0 0),(3,.lo 1 0),(6,.lo 4 0),(105,iV a.n),(106,iV k)],fnO t n a (nx+k)++[.box [.d (.v (.int .i64 3)),.d (.v (.string n.s)),iV 0,.ow 5 k],.arr 4 k (Tm.aa (dy nx k))])) (fun k=>k≤m) (fun k=>m - k) 0 fy agc (by simp only[Int.natCast_zero,Int.add_zero];rfl) ?_;rintro k hk;have kQ:(Tm.aa (dy nx k)).length=k:=by rw[Tm.au,Qx]
 refine af ?_;refine iD (fun h=>?_) fun h=>?_
 ·refine af ?_;have aR:k<m:=by have:=of_decide_eq_true h;omega
  refine gN 116 rfl (bM.S3 (row':=Tm.row (.mk 1 ByteArray.empty (nx+k) [])) ⟨.refl _,.refl _,.refl _,.nil,trivial⟩) ?_;refine dp hg.ok (Tm.aa (dy nx (k+1))) rfl rfl rfl rfl rfl rfl rfl rfl rfl (by simp[Tm.row]) PO ?_ Sd Sd ?_
  ·rw[y6,← oh];rfl
  refine af ?_;refine bp (k+1) aR an IV ?_;have hw:IntKind.i64.wrap (nx+(k:Int)+1)=nx+((k+1:Nat):Int):=by rw[sK an an];push_cast;omega
  show _=fnO t n a (nx+((k+1:Nat):Int))++_
  rw[← hw];rfl
 ·have aR:m≤k:=by have:=of_decide_eq_false h; omega
  have hkm:k=m:=by omega
  subst hkm
  have hxb:eu (.mk 3 n.s 0 (dy nx k)):=Hl (Hk hn) (fun x hx=>by
   obtain⟨h1,h2,h3⟩:=KR x hx;exact T4 h1 h2 h3) (by rw[y8];omega)
  have dV:aU Tryz.prog Y 127 [.lo 0 0,.d (.sl ([t,.mk 3 n.s 0 (dy nx k)].map Tm.row))] (jR [t,n,a] [] false ByteArray.empty (nx+k) 0) (bV (bX (nx+a.n) [t,.mk 3 n.s 0 (dy nx k)]).h) (jR [t,n,a] (bX (nx+a.n) [t,.mk 3 n.s 0 (dy nx k)]).al false ByteArray.empty (bX (nx+a.n) [t,.mk 3 n.s 0 (dy nx k)]).nx (bX (nx+a.n) [t,.mk 3 n.s 0 (dy nx k)]).e):=by
   have e:nx+a.n=nx+(k:Int):=by rw[hm]
   rw[e];exact gI Y [t,n,a] [t,.mk 3 n.s 0 (dy nx k)] false (nx+k) (e2 eu _ _ ht hxb) aC aC
  refine vC ?_;refine EW hg.cm 5 [(0,.lo 0 0),(3,.lo 1 0),(6,.lo 4 0)] (fnO t n a (nx+k)++[aP (.mk 3 n.s 0 (dy nx k)),.dead]) rfl rfl uC ⟨nR.refl _,nR.refl _,nR.refl _,nR.refl _,⟨.refl _,.refl _,.refl _,bM.frz 5 _ _,trivial⟩,by simp[nR],trivial⟩ (af ?_);refine ai hg.ok hg.cm hg.wide hg.Y [0] (jR [t,n,a] (bX (nx+a.n) [t,.mk 3 n.s 0 (dy nx k)]).al false ByteArray.empty (bX (nx+a.n) [t,.mk 3 n.s 0 (dy nx k)]).nx (bX (nx+a.n) [t,.mk 3 n.s 0 (dy nx k)]).e++[aP t,aP n,aP a,aP (.mk 3 n.s 0 (dy nx k)),.dead]) (dV) cF rfl rfl rfl rfl rfl rfl rfl rfl (af ?_);exact aK hg 1 5 cP rfl rfl (gH _ [t,n,a] (bX (nx+a.n) [t,.mk 3 n.s 0 (dy nx k)]) (jN _ _) (jO _ _))

theorem ah7 (Y:YP)(n t a:Tm)(hn:eu n)(ht:eu t)(ha:eu a)(nx:Int)(htl:t.l.length≤1000):y7 Y 137 [n,t,a] nx (lW nx n t a):=by
 refine mH6 Tryz.func137 fun w S φ hg=>?_
 have hφ:φ.length=1:=hg.j5.len;refine af ?_;refine YJ hg.ok (Z:=amy) [⟨18,3,21,11,tmC n⟩,⟨19,4,22,17,tmC t⟩,⟨20,5,23,23,tmC a⟩] [(6,.lo 0 0),(7,.lo 0 0),(8,.lo 0 0),(9,.d (.sl (Tm.aa [n,t,a]))),(10,.d (.bG (Tm.row n))),(11,n.av),(12,.lo 0 0),(13,.lo 0 0),(14,.lo 0 0),(15,.d (.sl (Tm.aa [n,t,a]))),(16,.d (.bG (Tm.row t))),(17,t.av),(18,.lo 0 0),(19,.lo 0 0),(20,.lo 0 0),(21,.d (.sl (Tm.aa [n,t,a]))),(22,.d (.bG (Tm.row a))),(23,a.av),(3,.lo 1 0),(4,.lo 2 0),(5,.lo 3 0)] rfl ?_ ?_
 ·refine YI hg.ok 27 rfl rfl cX cX cX cX cX rfl ?_ rfl rfl rfl rfl rfl rfl (by show φ.length≤1; omega);refine⟨fun _ tl=>ao hg.ok rfl rfl rfl rfl dQ,?_⟩;refine⟨fun _ tl=>ao hg.ok rfl rfl rfl rfl dQ,?_⟩;refine⟨fun _ tl=>ao hg.ok rfl rfl rfl rfl dQ,?_⟩;refine⟨fun _ tl=>ao hg.ok rfl rfl rfl rfl dQ,?_⟩;refine⟨fun _ tl=>iy hg.ok rfl rfl rfl rfl rfl rfl fi (Tm.aB (l:=[n,t,a]) (i:=0) rfl) rfl dQ,?_⟩;refine⟨fun _ tl=>ao hg.ok rfl rfl rfl rfl dQ,?_⟩;refine⟨fun _ tl=>ao hg.ok rfl rfl rfl rfl dQ,?_⟩;refine⟨fun _ tl=>ao hg.ok rfl rfl rfl rfl dQ,?_⟩;refine⟨fun _ tl=>ao hg.ok rfl rfl rfl rfl dQ,?_⟩;refine⟨fun _ tl=>ao hg.ok rfl rfl rfl rfl dQ,?_⟩;refine⟨fun _ tl=>iy hg.ok rfl rfl rfl rfl rfl rfl fi (Tm.aB (l:=[n,t,a]) (i:=1) rfl) rfl dQ,?_⟩;refine⟨fun _ tl=>ao hg.ok rfl rfl rfl rfl dQ,?_⟩;refine⟨fun _ tl=>ao hg.ok rfl rfl rfl rfl dQ,?_⟩;refine⟨fun _ tl=>ao hg.ok rfl rfl rfl rfl dQ,?_⟩;refine⟨fun _ tl=>ao hg.ok rfl rfl rfl rfl dQ,?_⟩;refine⟨fun _ tl=>ao hg.ok rfl rfl rfl rfl dQ,?_⟩;refine⟨fun _ tl=>iy hg.ok rfl rfl rfl rfl rfl rfl fi (Tm.aB (l:=[n,t,a]) (i:=2) rfl) rfl dQ,?_⟩;exact akg
 refine af ?_;refine aj (fun h1=>?_) fun h1=>?_
 ·have h1:n.k=1:=by simpa using h1
  rw[show lW nx n t a=eG nx 4 by unfold lW;rw[if_pos (.inl h1)]];refine ajY ?_;exact ad8
 have h1:¬ n.k=1:=by simpa using h1
 refine aj (fun h2=>?_) fun h2=>?_
 ·have h2:t.k=1:=by simpa using h2
  rw[show lW nx n t a=eG nx 4 by unfold lW;rw[if_pos (.inr h2)]];refine ajY ?_;exact ad8
 have h2:¬ t.k=1:=by simpa using h2
 refine aj (fun h3=>?_) fun h3=>?_
 ·have h3:n.k≠2:=by simpa using h3
  rw[show lW nx n t a=eG nx 5 by unfold lW;rw[if_neg (fun h=>h.elim h1 h2),if_pos (.inl h3)]];refine adf ?_;exact ad9
 have h3:¬ n.k≠2:=by simpa using h3
 refine aj (fun h4=>?_) fun h4=>?_
 ·have h4:t.l.length=0:=by simp [Tm.au] at h4; simp [h4]
  rw[show lW nx n t a=eG nx 5 by unfold lW;rw[if_neg (fun h=>h.elim h1 h2),if_pos (.inr h4)]];refine adf ?_;exact ad9
 have h4:¬ t.l.length=0:=fun he=>by simp[Tm.au,he]at h4
 refine aj (fun h5=>?_) fun h5=>?_
 rotate_left
 ·have h5:n.n<1:=by have:=of_decide_eq_false h5; omega
  rw[show lW nx n t a=mg nx false by unfold lW;rw[if_neg (fun h=>h.elim h1 h2),if_neg (fun h=>h.elim h3 h4),if_pos (.inl h5)]];exact aea
 have h5:¬ n.n<1:=by have:=of_decide_eq_true h5;omega
 refine aj (fun h6=>?_) fun h6=>?_
 rotate_left
 ·have h6:n.n > t.l.length:=by have:=of_decide_eq_false h6; rw [Tm.au] at this; omega
  rw[show lW nx n t a=mg nx false by unfold lW;rw[if_neg (fun h=>h.elim h1 h2),if_neg (fun h=>h.elim h3 h4),if_pos (.inr h6)]];exact aea
 have h6:¬ n.n > t.l.length:=by have:=of_decide_eq_true h6;rw[Tm.au]at this;omega
 have hw:IntKind.i64.wrap (n.n - 1)=n.n - 1:=sK an an;have e1:t.l[(n.n - 1).toNat]? = some (t.l[(n.n - 1).toNat]' an):=dY an;have hxm:=eg (show (n.n - 1).toNat<t.l.length by omega);rw[show lW nx n t a=bX nx [(t.l[(n.n - 1).toNat]?).getD aJ,a] by unfold lW;rw[if_neg (fun h=>h.elim h1 h2),if_neg (fun h=>h.elim h3 h4),if_neg (fun h=>h.elim h5 h6)]];rw[e1,Option.getD_some];generalize t.l[(n.n - 1).toNat]' an=x at e1 hxm;refine dN hg.ok rfl rfl rfl rfl rfl rfl (by rw[hw];omega) (by rw[hw];exact Tm.aB e1) rfl (af ?_)
 have Aa:∀v∈[x,a],eu v:=fun v hv=>by
  simp only[eL,nW,or_false]at hv;rcases hv with rfl |rfl
  ·exact wN ht hxm
  ·exact ha
 refine ai hg.ok hg.cm hg.wide hg.Y [0] (jR [n,t,a] (bX nx [x,a]).al false ByteArray.empty (bX nx [x,a]).nx (bX nx [x,a]).e++[aP n,aP t,aP a]) (gI Y [n,t,a] [x,a] false nx Aa aC aC) cF rfl rfl rfl rfl rfl rfl rfl rfl (af ?_);exact aK hg 1 5 cP rfl rfl (gH _ [n,t,a] (bX nx [x,a]) (jN _ _) (jO _ _))
end Go.Proofs.YtaagocopollacaaGreatDoor

namespace aw
open Go Go.RowKit
section
variable {g:G} {pf:Nat→cC} {ad:Array Oper} {Fin:Exit→Act→World→Prop}

theorem T8 (hg:c9 g){dst:Option Nat}{T T':Nat}{x y:Operand}{ty:Nat}{pos:String}{after:Array Edge}{gd:Option (Nat × Bool)}{ax:List Oper}{k:List It}{E:bk}{objs:List Ob}
  {q q' cj oU e e':Nat} {z z':List Value} {τ:Ty} {aa cu:List (List D)}
  (bm:aG ad.toList E gd=some true) (hd:aO ⟨g.ty,g.N⟩ dst=true) (hx:ev E x=.fs aa∨(ev E x=.d (.v (.slice none 0 0))∧aa=[])) (hy:lB (ev E y)=.d (.sl cu)) (eo:aa=[]∨cu≠[])
  (hT:g.ty T=some ⟨q,cj,z,.slice e⟩) (kX:g.ty T'=some ⟨q',oU,z',.slice e'⟩) (he:g.ty e=some τ) (hlr:∀r∈aa,r.length=τ.size) (aZ:∀r∈cu,r.length=τ.size)
  (qm:(aa.length+cu.length) * τ.bytes≤140737488355328) (tJ:aa.length+cu.length≤140737488355328)
  (hr:R g pf Fin (.dr ad ax::k) (bf E dst (.d (.sl (aa++cu)))) objs) :
  R g pf Fin (.dr ad (⟨dst,.call { callee:=.builtin .append,args:=#[x,y],argTypes:=#[T,T'] },ty,pos,after,gd⟩::ax)::k) E objs:=by
 refine cL (aI.eT hg (.refl _) bm hd aC fun φ a w hρ hs=>?_) hr;simp only[Op.operands,Call.operands]at hρ;have aN:=hρ x aC;have ew:=bM.lB _ _ _ _ _ (hρ y aC);rw[hy]at ew;simp only[RV]at ew
 have Vi:Rd (SS g.S0 φ) w (.sl aa) (a.eval x)∧∃a0,a.eval x=.slice a0 aa.length aa.length:=by
  rcases hx with hx |⟨hx,rfl⟩
  ·rw[hx]at aN;simpa only[RV]using aN
  ·rw [hx] at aN; simp only [RV] at aN;generalize a.eval x=u at aN;cases aN;exact⟨.nil _ _,_,rfl⟩
 obtain⟨Vi,a0,hv⟩:=Vi;obtain⟨rK,hF⟩:=DN.EF (P:=g.P) Vi hlr;obtain⟨cells,hN⟩:=DN.EF (P:=g.P) ew aZ;have hτ:=hg.ty _ _ he;obtain⟨xa,xc,Mh⟩:=hN.sl;have eK:∀r∈aa++cu,r.length=τ.size:=fun r hr=>(bW.1 hr).elim (hlr r) (aZ r)
 have JJ:aa.length+cu.length≤maxLen:=by simp only[maxLen];omega
 have hw:∀v',RV (SS g.S0 (φ++[bB.nZ τ.size 0 (.slice v' (aa.length+cu.length) 0) none])) w φ .any (.slice v' 0 0):=fun _=>by simp[RV]
 by_cases hm:cu.length=0
 ·have JK:cu=[]:=jy.1 hm;subst JK;have eA:aa=[]:=eo.resolve_right (fun h=>h rfl);subst eA;have rL:cells=[]:=jy.1 PL;subst rL;have fm:=mB (tr:=ty) (bN hg hT) (bN hg kX) hτ (a:=a0) (n:=0) (cap:=0) Mh (hN.run w rfl) cP;refine⟨.value (.slice a0 0 0),.slice a0 0 0,w,φ,?_,.inl rfl,?_,.refl hs⟩
  ·simp only [lM] at hv;simp only[execOp,resolve,invoke,builtin,Sem.run_bind,Sem.run_pure,Result.andThen_ok,rC,List.map_cons,fj,hv,fm]
  ·simp only [RV];exact .nil _ _
 ·rw [hv] at hF;obtain⟨zs,oD,vo,Gp,Jh,fm⟩:=ql (tr:=ty) (bN hg hT) (bN hg kX) hτ Mh hF.run hN.run an qm JJ;have bx:dE (SS g.S0 φ) w (SS g.S0 φ) (w.drew.alloc (.cells (rK++cells++zs).toArray e)):=.of fun b hb GF=>⟨hb,jD GF⟩
  have cS:HS g.S0 φ objs (w.drew.alloc (.cells (rK++cells++zs).toArray e)):=hs.later (by show w.heap.size≤(w.heap.push _).size;simp) (fun b hb=>jD hb);refine⟨.value (.slice (some ⟨w.heap.size,0,none⟩) (aa.length+cu.length) oD),.slice (some ⟨w.heap.size,0,none⟩) (aa.length+cu.length) oD,w.drew.alloc (.cells (rK++cells++zs).toArray e),φ,?_,.inl rfl,?_,⟨cS,bx,.refl _,by show w.heap.size≤(w.heap.push _).size;simp,rfl,rfl,rfl,fun b hb _=>jD hb,fun _ h=>.inl h,fun _ _ _ B h=>⟨B,h⟩⟩⟩
  ·simp only[execOp,resolve,invoke,builtin,Sem.run_bind,Sem.run_pure,Result.andThen_ok,rC,List.map_cons,fj,hv,fm]
  ·simp only [RV];have qf:SS g.S0 φ w.heap.size:=⟨hs.up _ cP,fun hc=>absurd (hs.lt _ hc) (aa3 _)⟩;have YK:∀ (i:Nat) (r:List D),(aa++cu)[i]? = some r→r.length=τ.size:=fun i r hi=>eK r (gZ hi)
   rw[← List.length_append];refine Rd.sl (sz:=τ.size) (fun i j=>((rK++cells)[i * τ.size+j]?).getD undef) qf oE (by rw[List.length_append];exact vo) Gp YK (fun i r j x hi hj=>?_) (fun i r j x hi hj=>?_)
   ·obtain ⟨y',h3,_⟩:=wa hF hN bx i r j x hi hj (YK i r hi);have:=EG (zs:=zs) h3;simp only[MF,h3,Option.getD_some];simpa using this
   ·obtain ⟨y',h3,h4⟩:=wa hF hN bx i r j x hi hj (YK i r hi);simp only[h3,Option.getD_some];exact h4
end
end aw

namespace Go.Proofs.YtaagocopollacaaGreatDoor
open Go aw Go.Proofs

theorem KZ (l:List Tm):(dG l).size=Tm.ay l+l.length+1:=by
 induction l with
 |nil=>rfl
 |cons x l ih=>rw[rW];simp only[Tm.size,Tm.ay,ih,dv];omega

theorem rZ:∀ (l:List Tm),(∀x∈l,eu x)→Tm.ay l≤100000000→eu (dG l)
 |[],_,_=>Ci fi
 |x::l,h,hz=>by
  have hl:=Tm.cI l;simp only[Tm.ay]at hz;have h1:=rZ l (fun y hy=>h y kb) an;rw[rW];refine Hl fi (fun y hy=>?_) ?_
  ·simp only [eL,nW,or_false] at hy;rcases hy with rfl |rfl
   ·exact h _ aC
   ·exact h1
  ·simp only[Tm.ay,KZ];omega

theorem N4 {α:Type}{l:List α}(h:l.length=2):∃a b,l=[a,b]:=by
 match l,h with
 |[a,b],_=>exact⟨a,b,rfl⟩

theorem FC:∀ (n:Nat) (t:Tm),eu t→(∀x∈(rf n t).1,eu x)∧eu (rf n t).2∧Tm.ay (rf n t).1+(rf n t).2.size≤t.size
 |0,t,h=>⟨by simp[rf],h,by simp[rf,Tm.ay]⟩
 |n+1,t,h=>by
  simp only[rf];split
  ·rename_i hc;obtain⟨_,_,hl⟩:=hc;have e0:t.l[0]? = some t.l[0]:=dY an;have e1:t.l[1]? = some t.l[1]:=dY an;have m0:=eg (show 0<t.l.length by omega);have m1:=eg (show 1<t.l.length by omega);have hs:=Tm.size_eq t
   have hz:t.l[0].size+t.l[1].size=Tm.ay t.l:=by
    obtain⟨a,b,Hi⟩:=N4 hl;have ea:t.l[0]=a:=by simp[Hi]
    have eb:t.l[1]=b:=by simp[Hi]
    rw[ea,eb,Hi];simp[Tm.ay]
   rw[e0,e1,Option.getD_some,Option.getD_some];obtain⟨h1,h2,h3⟩:=FC n t.l[1] (wN h m1);refine⟨fun x hx=>?_,h2,by simp only[Tm.ay];omega⟩;rcases eL.1 hx with rfl |hx
   ·exact wN h m0
   ·exact h1 x hx
  ·exact⟨by simp,h,by simp[Tm.ay]⟩
theorem N5 {t:Tm}(h:eu t):(∀x∈(gR t).1,eu x)∧eu (gR t).2∧Tm.ay (gR t).1+(gR t).2.size≤t.size:=FC _ t h
def apk:Nat→cC:=fun f=>bif Nat.beq f 4000000007 then .Qd else bif Nat.beq f 4000000006 then .bO 200 else bif Nat.beq f 150 then .still else bif Nat.beq f 151 then .still else bif Nat.beq f 152 then .still else bif Nat.beq f 153 then .still else bif Nat.beq f 149 then .still else .ji

theorem acr (Y:YP)(t r:Tm)(ht:eu t)(hr:eu r)(nx:Int)(hts:t.size≤1000000)(hrs:r.size≤1000000):y7 Y 138 [t,r] nx (jr nx t r):=by
 have e2:∀ (P:Tm→Prop) (x y:Tm),P x→P y→∀v∈[x,y],P v:=fun P x y hx hy v hv=>by
  simp only[eL,nW,or_false]at hv;rcases hv with rfl |rfl<;>assumption
 refine aU.ej (pf:=apk) gK mixed Tryz.func138 rfl cX cX (by simp[Tryz.ntmps138]) (by simp[jR]) fun w S φ hg=>?_
 have hφ:φ.length=1:=hg.j5.len;refine af ?_;refine dN hg.ok rfl rfl rfl rfl rfl rfl fi (Tm.aB (l:=[t,r]) (i:=0) rfl) rfl (af ?_);refine aj (fun h1=>?_) fun h1=>?_
 ·have h1:t.k=2:=by simpa using h1
  rw[show jr nx t r=bX nx [r,dG [t]] by unfold jr;rw[if_pos h1]];refine VE ?_;have Cb:bD Tryz.prog 152 [.d (.sl ([t].map Tm.row))] (dG [t]).av:=by rw[← Tm.dZ];exact Fx [t] aC
  refine aF (Cb) ?_;have hlb:eu (dG [t]):=rZ [t] (by simpa using ht) Sc;refine ai hg.ok hg.cm hg.wide hg.Y [0] (jR [t,r] (bX nx [r,dG [t]]).al false ByteArray.empty (bX nx [r,dG [t]]).nx (bX nx [r,dG [t]]).e++[aP t]) (gI Y [t,r] [r,dG [t]] false nx (e2 eu _ _ hr hlb) aC aC) cF rfl rfl rfl rfl rfl rfl rfl rfl (af ?_);exact aK hg 1 5 cP rfl rfl (gH _ [t,r] (bX nx [r,dG [t]]) (jN _ _) (jO _ _))
 have h1:¬ t.k=2:=by simpa using h1
 refine aj (fun h2=>?_) fun h2=>?_
 ·have h2:t.k=3:=by simpa using h2
  rw[show jr nx t r=bX nx [r,dG (gG t.s::t.l)] by unfold jr;rw[if_neg h1,if_pos h2]];have Jh:=Tm.size_eq t;have Vd:=Tm.cI t.l
  have hlb:eu (dG (gG t.s::t.l)):=rZ _ (fun x hx=>by
   rcases eL.1 hx with rfl |hx
   ·exact Ci (Hk ht)
   ·exact wN ht hx) (by simp only[Tm.ay,gG,Tm.size];omega)
  refine VE ?_;refine aF (tp t.s) ?_
  have Cb:bD Tryz.prog 152 [.d (.sl ([Tm.row (gG t.s)]++Tm.aa t.l))] (dG (gG t.s::t.l)).av:=by
   have e:[Tm.row (gG t.s)]++Tm.aa t.l=Tm.aa (gG t.s::t.l):=by rw[Tm.dZ,Tm.dZ];rfl
   rw[e];exact Fx _ zw
  by_cases Qu:t.l=[]
  ·rw [Qu];rw[Qu]at Cb;refine NU hg.ok rfl rfl rfl rfl rfl rfl rfl (af ?_);refine aF (Cb) ?_;refine ai hg.ok hg.cm hg.wide hg.Y [0] (jR [t,r] (bX nx [r,dG [gG t.s]]).al false ByteArray.empty (bX nx [r,dG [gG t.s]]).nx (bX nx [r,dG [gG t.s]]).e++[.box [.d (.v (.int .i64 t.k)),.d (.v (.string t.s)),.d (.v (.int .i64 t.n)),.d (.sl (Tm.aa []))]]) (gI Y [t,r] [r,dG [gG t.s]] false nx (e2 eu _ _ hr (Qu ▸ hlb)) aC aC) cF rfl rfl rfl rfl rfl rfl rfl rfl (af ?_);exact aK hg 1 5 cP rfl rfl (gH _ [t,r] (bX nx [r,dG [gG t.s]]) (jN _ _) (jO _ _))
  ·have hrn:Tm.aa t.l≠[]:=fun h=>Qu (jy.1 (by rw [← Tm.au,h]; rfl))
   have hr4:∀x∈Tm.aa t.l,x.length=4:=fun x hx=>by
    rw[Tm.dZ]at hx;obtain⟨y,_,rfl⟩:=fA.1 hx;rfl
   refine T8 hg.ok rfl rfl (.inl rfl) rfl (.inr hrn) rfl rfl rfl aC hr4 aaR aaR (af ?_);refine aF (Cb) ?_;refine ai hg.ok hg.cm hg.wide hg.Y [0] (jR [t,r] (bX nx [r,dG (gG t.s::t.l)]).al false ByteArray.empty (bX nx [r,dG (gG t.s::t.l)]).nx (bX nx [r,dG (gG t.s::t.l)]).e++[aP t]) (gI Y [t,r] [r,dG (gG t.s::t.l)] false nx (e2 eu _ _ hr hlb) aC aC) cF rfl rfl rfl rfl rfl rfl rfl rfl (af ?_);exact aK hg 1 5 cP rfl rfl (gH _ [t,r] (bX nx [r,dG (gG t.s::t.l)]) (jN _ _) (jO _ _))
 have h2:¬ t.k=3:=by simpa using h2
 refine VE ?_;refine aF (YA r hrs) ?_;obtain⟨hmb,heb,hmz⟩:=N5 hr;have hu:jr nx t r=if (gR r).2.k=1 then eG nx 4 else if (gR r).2.same (gG (Tx [91,93]))=false∨(gR r).1=[] then eG nx 5 else match (gR r).1 with
   |[]=>eG nx 5
   |h::m=>if h.k=1 then eG nx 4 else if 0<h.l.length then eG nx 5 else if m=[] then bX nx [t,h] else if 8<m.length then eG nx 6 else if h.k=2 then eG nx 5 else bX nx [t,.mk 3 h.s 0 m]:=by
  unfold jr;rw[if_neg h1,if_neg h2]<;>rfl
 generalize gR r=M at hmb heb hmz hu;obtain⟨m,e⟩:=M;simp only at hmb heb hmz hu;refine aj (fun h3=>?_) fun h3=>?_
 ·have h3:e.k=1:=by simpa using h3
  rw[show jr nx t r=eG nx 4 by rw[hu];rw[if_pos h3]];refine adk ?_;exact aec
 have h3:¬ e.k=1:=by simpa using h3
 rw[if_neg h3]at hu;refine aF (tp (Tx [91,93])) ?_;refine aF (G5 e (gG (Tx [91,93])) heb.1) ?_;refine aj (fun h4=>?_) fun h4=>?_
 ·have h4:e.same (gG (Tx [91,93]))=false:=by simpa using h4
  rw[show jr nx t r=eG nx 5 by rw[hu];rw[if_pos (.inl h4)]];refine aaA ?_;exact Pm
 have h4:e.same (gG (Tx [91,93]))=true:=by simpa using h4
 refine aj (fun h5=>?_) fun h5=>?_
 ·have h5:m=[]:=jy.1 (by simp [Tm.au] at h5; simp [h5]);rw[show jr nx t r=eG nx 5 by rw[hu];rw[if_pos (.inr h5)]];refine aaA ?_;exact Pm
 cases m with
 |nil=>simp[Tm.aa]at h5
 |cons h m =>
 rw[if_neg (by simp[h4])]at hu;simp only at hu;have hh:=hmb h aC;have hml:=Tm.cI m;simp only[Tm.ay]at hmz;have hrw:Tm.aa (h::m)=Tm.row h::Tm.aa m:=by rw[Tm.dZ,Tm.dZ];rfl
 refine Vz ?_;refine aj (fun h6=>?_) fun h6=>?_
 ·have h6:h.k=1:=by simpa using h6
  rw[show jr nx t r=eG nx 4 by rw[hu];rw[if_pos h6]];refine adk ?_;exact aec
 have h6:¬ h.k=1:=by simpa using h6
 rw[if_neg h6]at hu;refine Vz ?_;refine aj (fun h7=>?_) fun h7=>?_
 ·have h7:0<h.l.length:=by simpa [Tm.au] using h7
  rw[show jr nx t r=eG nx 5 by rw[hu];rw[if_pos h7]];refine aaA ?_;exact Pm
 have h7:¬ 0<h.l.length:=by simpa[Tm.au]using h7
 rw[if_neg h7]at hu;refine aj (fun h8=>?_) fun h8=>?_
 ·have h8:m=[]:=by
   simp[Tm.au]at h8;cases m with
   |nil=>rfl
   |cons x m=>simp at h8;omega
  rw[if_pos h8]at hu;rw[hu];refine Vz ?_;refine ai hg.ok hg.cm hg.wide hg.Y [0] (jR [t,r] (bX nx [t,h]).al false ByteArray.empty (bX nx [t,h]).nx (bX nx [t,h]).e++[aP t,aP e]) (gI Y [t,r] [t,h] false nx (e2 eu _ _ ht hh) aC aC) cF rfl rfl rfl rfl rfl rfl rfl rfl (af ?_);exact aK hg 1 5 cP rfl rfl (gH _ [t,r] (bX nx [t,h]) (jN _ _) (jO _ _))
 have h8:¬ m=[]:=fun he=>by subst he;simp[Tm.au]at h8
 rw[if_neg h8]at hu;have hw:IntKind.i64.wrap (((Tm.aa (h::m)).length:Int) - 1)=(m.length:Int):=by rw[Tm.au,sK agi agi];simp only[dv];omega
 rw[hw];refine aj (fun h9=>?_) fun h9=>?_
 ·have h9:8<m.length:=by have:=of_decide_eq_true h9; omega
  rw[show jr nx t r=eG nx 6 by rw[hu];rw[if_pos h9]];refine ai hg.ok hg.cm hg.wide hg.Y [0] (jR [t,r] [] false ByteArray.empty nx 6++[aP t,aP e]) (km Y [t,r] nx 6) cF rfl rfl rfl rfl rfl rfl rfl rfl (af ?_);exact aK hg 1 5 cP rfl rfl (dL _ [t,r] [] false ByteArray.empty nx 6)
 have h9:¬ 8<m.length:=by have:=of_decide_eq_false h9;omega
 rw[if_neg h9]at hu;refine Vz ?_;refine aj (fun mm=>?_) fun mm=>?_
 ·have mm:h.k=2:=by simpa using mm
  rw[show jr nx t r=eG nx 5 by rw[hu];rw[if_pos mm]];refine aaA ?_;exact Pm
 have mm:¬ h.k=2:=by simpa using mm
 rw[if_neg mm]at hu;rw[hu];have hxb:eu (.mk 3 h.s 0 m):=Hl (Hk hh) (fun x hx=>hmb x tM) an;refine Vz ?_
 have h4r:∀x∈Tm.aa (h::m),x.length=4:=fun x hx=>by
  rw[Tm.dZ]at hx;obtain⟨y,_,rfl⟩:=fA.1 hx;rfl
 refine Bn hg.ok (Tm.aa m) rfl rfl rfl rfl rfl rfl rfl h4r fi (by rw[hrw];simp;omega) (gP _) (by rw[hrw];simp) (af ?_);refine ai hg.ok hg.cm hg.wide hg.Y [0] (jR [t,r] (bX nx [t,.mk 3 h.s 0 m]).al false ByteArray.empty (bX nx [t,.mk 3 h.s 0 m]).nx (bX nx [t,.mk 3 h.s 0 m]).e++[aP t,aP e]) (gI Y [t,r] [t,.mk 3 h.s 0 m] false nx (e2 eu _ _ ht hxb) aC aC) cF rfl rfl rfl rfl rfl rfl rfl rfl (af ?_);exact aK hg 1 5 cP rfl rfl (gH _ [t,r] (bX nx [t,.mk 3 h.s 0 m]) (jN _ _) (jO _ _))
end Go.Proofs.YtaagocopollacaaGreatDoor

namespace aw
open Go
section
variable {B:ak} {M:Nat}
end
end aw

namespace aw
open Go
variable{σ:Int→Tm}{t:Tm}
namespace Tm

def dS (B:ak):Nat→Tm→Tm
 |0,t=>t
 |f+1,t=>if t.k=1 then (match a7 B t.n with |some x=>dS B f x |none=>t) else t
def aE (B:ak)(t:Tm):Tm:=dS B (B.length+1) t

mutual
def rh (g:Int→List Int→Bool × List Int):Tm→List Int→Bool × List Int
 |mk k _ n l,M=>if k=1 then g n M else qC g l M
def qC (g:Int→List Int→Bool × List Int):List Tm→List Int→Bool × List Int
 |[],M=>(false,M)
 |x::r,M=>if (rh g x M).1 then (true,(rh g x M).2) else qC g r (rh g x M).2
end

def u9 (B:ak) (v:Int):Nat→Int→List Int→Bool × List Int
 |0,n,M=>(decide (n=v),M)
 |u+1,n,M=>if n=v then (true,M) else match a7 B n with
  |none=>(false,M)
  |some x=>if M.contains n then (false,M) else rh (u9 B v u) x (M++[n])
def hH (B:ak)(v:Int)(t:Tm):Bool:=(rh (u9 B v (B.length+1)) t []).1
def ku (x y:Tm):Bool:=decide (x.k≠y.k) || decide (x.n≠y.n) || !bE x.s y.s || decide (x.l.length≠y.l.length)
def nU (σ:Int→Tm)(B:ak):Prop:=∀b∈B,σ b.1=bZ σ b.2

theorem pS(h:t.k=1):bZ σ t=σ t.n:=by
 cases t;simp only[k,n]at h ⊢;simp only[bZ];rw[if_pos h]

theorem jG(h:t.k≠1):bZ σ t=mk t.k t.s t.n (dt σ t.l):=by
 cases t;simp only[k,n,s,l]at h ⊢;simp only[bZ];rw[if_neg h]
theorem size_pos(t:Tm):1≤size t:=by rw[size_eq];omega

theorem gm{σ:Int→Tm}{B:ak}(h:nU σ B):∀ (f:Nat) (t:Tm),bZ σ (dS B f t)=bZ σ t
 |0,t=>rfl
 |f+1,t=>by
  simp only[dS];by_cases hk:t.k=1
  ·rw [if_pos hk];cases hf:a7 B t.n with
   |none=>rfl
   |some x =>
    simp only;rw[gm h f x,pS hk,h _ (dq hf)]
  simp_all

def ah9 (σ:Int→Tm)(v:Int)(g:Int→List Int→Bool × List Int):Prop:=∀n M,(g n M).1=true→size (σ v)≤size (σ n)

mutual
theorem Cm{σ:Int→Tm}{v:Int}{g:Int→List Int→Bool × List Int}(hg:ah9 σ v g):∀ (t:Tm) (M:List Int),(rh g t M).1=true→size (σ v)≤size (bZ σ t)∧(t.k≠1→size (σ v)<size (bZ σ t))
 |mk k s n l,M,h=>by
  simp only[rh]at h;by_cases hk:k=1
  ·rw [if_pos hk] at h;have:=hg n M h;simp only[bZ,if_pos hk,Tm.k];omega
  ·rw [if_neg hk] at h;have:=FD hg l M h;simp only[bZ,if_neg hk,size];omega
theorem FD{σ:Int→Tm}{v:Int}{g:Int→List Int→Bool × List Int}(hg:ah9 σ v g):∀ (l:List Tm) (M:List Int),(qC g l M).1=true→size (σ v)≤ay (dt σ l)
 |[],M,h=>by simp[qC]at h
 |x::r,M,h=>by
  simp only[qC]at h;simp only[dt,ay];by_cases hx:(rh g x M).1=true
  ·have:=(Cm hg x M hx).1;omega
  ·rw [if_neg hx] at h;have:=FD hg r _ h;omega
end

theorem YL{σ:Int→Tm}{B:ak}(h:nU σ B)(v:Int):∀u,ah9 σ v (u9 B v u)
 |0,n,M,hl=>by simp only[u9,decide_eq_true_eq]at hl;simp_all
 |u+1,n,M,hl=>by
  simp only[u9]at hl;by_cases hn:n=v
  ·simp_all
  ·rw [if_neg hn] at hl;cases hf:a7 B n with
   |none=>simp_all
   |some x =>
    rw[hf]at hl;simp only at hl;split at hl
    ·cases hl
    ·have:=(Cm (YL h v u) x _ hl).1;rw[h _ (dq hf)];exact this

theorem YM{B:ak}(h:nU σ B){v:Int}(he:σ v=bZ σ t)(hv:¬ (t.k=1∧(t.n=v∨a7 B t.n≠none))):hH B v t=false:=by
 cases hw:hH B v t with
 |false=>rfl
 |true =>
  exfalso;unfold hH at hw;by_cases hk:t.k=1
  ·cases t with
   |mk k s n l =>
    simp only[Tm.k,Tm.n]at hk hv;simp only[rh,if_pos hk,u9]at hw
    simp_all
  ·have:=(Cm (YL h v _) t [] hw).2 hk
   simp_all
end Tm
end aw
namespace aw
open Go
variable{B:ak}{v:Int}
namespace Tm

structure jW (B:ak):Prop where
 nodup:(B.map (·.1)).Nodup
 chain:∀ (i:Nat) (b:Int × Tm),B[i]? = some b→b.2.k=1→∀ (j:Nat) (c:Int × Tm),B[j]? = some c→c.1=b.2.n→i<j
theorem jW.nil:jW []:=⟨by simp,by simp⟩

theorem nF:a7 B v=none↔∀b∈B,b.1≠v:=by
 unfold a7
 simp_all

theorem Cn{x:Tm}(h:a7 B v=some x):∃j:Nat,B[j]? = some (v,x):=by
 obtain⟨j,hj⟩:=uE.1 (dq h)
 grind

theorem jW.snoc(h:jW B){t:Tm}(hv:a7 B v=none)(ht:t.k=1→a7 B t.n=none∧t.n≠v):jW (B++[(v,t)]):=by
 have rp:=nF.1 hv;constructor
 ·rw [List.map_append,vN];refine⟨h.nodup,by simp,?_⟩
  grind
 ·intro i b hb hk j c hc hcn;rcases oy i B.length with hi |hi
  ·rw [jx hi] at hb;rcases oy j B.length with hj |hj
   ·rw [jx hj] at hc;exact h.chain i b hb hk j c hc hcn
   ·omega
  ·rw [kR hi] at hb
   have hi0:i - B.length=0:=by
    rcases Sn (i - B.length) with h |h
    ·exact h
    ·rw[Jc zw]at hb;cases hb
   rw[hi0]at hb;simp at hb;subst hb;obtain⟨h1,h2⟩:=ht hk;exfalso;rcases oy j B.length with hj |hj
   ·rw [jx hj] at hc;exact nF.1 h1 c (gZ hc) hcn
   grind

theorem K0{B:ak}(h:jW B):∀ (f:Nat) (t:Tm),(∀ (j:Nat) (c:Int × Tm),B[j]? = some c→t.k=1→c.1=t.n→B.length - j≤f)→(dS B f t).k=1→a7 B (dS B f t).n=none
 |0,t,hj,hk=>by
  simp only[dS]at hk ⊢;cases hf:a7 B t.n with
  |none=>rfl
  |some x =>
   obtain⟨j,hx⟩:=Cn hf
   grind
 |f+1,t,hj,hk=>by
  simp only[dS]at hk ⊢;by_cases ht:t.k=1
  ·rw [if_pos ht] at hk ⊢;cases hf:a7 B t.n with
   |none=>exact hf
   |some x =>
    rw[hf]at hk;simp only at hk ⊢;obtain⟨j,hx⟩:=Cn hf;have h1:=hj j _ hx ht rfl;refine K0 h f x (fun j' c hc hxk hcn=>?_) hk;have:=h.chain j _ hx hxk j' c hc hcn;omega
  simp_all
theorem yn(h:jW B){t:Tm}(hk:(aE B t).k=1):a7 B (aE B t).n=none:=K0 h _ t (fun j c hc _ _=>by omega) hk
def Co (B:ak):Prop:=∀b∈B,b.2.bw=true∧0≤b.1∧b.1<1000000

theorem yo{B:ak}(h:Co B):∀ (f:Nat) (t:Tm),t.bw=true→(dS B f t).bw=true
 |0,t,ht=>ht
 |f+1,t,ht=>by
  simp only[dS];split
  ·split
   ·rename_i x hx;exact yo h f x (h _ (dq hx)).1
   ·exact ht
  ·exact ht
def tX (σ:Int→Tm)(T:List (Tm × Tm)):Nat:=(T.map fun p=>size (bZ σ p.1)).sum
theorem YN(σ:Int→Tm)(A B:List (Tm × Tm)):tX σ (A++B)=tX σ A+tX σ B:=by simp[tX]

theorem Cp(σ:Int→Tm):∀ (l m:List Tm),l.length=m.length→tX σ (l.zip m)=ay (dt σ l)
 |[],[],_=>rfl
 |[],_::_,h=>by simp at h
 |_::_,[],h=>by simp at h
 |a::l,b::m,h=>by
  have:=Cp σ l m l6;simp only[tX,List.zip_cons_cons,List.map_cons,List.sum_cons,dt,ay]at this ⊢;omega

theorem Rc{σ:Int→Tm}:∀ (l m:List Tm),dt σ l=dt σ m→∀p∈l.zip m,bZ σ p.1=bZ σ p.2
 |[],m,_,p,hp=>by simp at hp
 |_::_,[],_,p,hp=>by simp at hp
 |a::l,b::m,h,p,hp=>by
  simp only[dt,List.cons.injEq]at h;rcases eL.1 Sk with e |e
  ·simp_all
  ·exact Rc l m h.2 p e
end Tm
end aw
namespace aw
open Go
variable{M:List Int}
namespace Tm

def K3 (g:Int→List Int→Bool × List Int):Prop:=∀n M,∃R,(g n M).2=M++R

mutual
theorem Ag{g:Int→List Int→Bool × List Int}(hg:K3 g):∀ (t:Tm) (M:List Int),∃R,(rh g t M).2=M++R
 |mk k s n l,M=>by
  simp only[rh];split
  ·exact hg n M
  ·exact K4 hg l M
theorem K4{g:Int→List Int→Bool × List Int}(hg:K3 g):∀ (l:List Tm) (M:List Int),∃R,(qC g l M).2=M++R
 |[],M=>⟨[],by simp[qC]⟩
 |x::r,M=>by
  obtain⟨R,h⟩:=Ag hg x M;simp only[qC];split
  ·simp_all
  ·obtain ⟨R2,h2⟩:=K4 hg r (rh g x M).2
   simp_all
end

theorem Ah(B:ak)(v:Int):∀u,K3 (u9 B v u)
 |0,n,M=>⟨[],by simp[u9]⟩
 |u+1,n,M=>by
  simp only[u9];split
  ·simp_all
  ·split
   ·simp_all
   ·split
    ·simp_all
    ·rename_i x _ _;obtain⟨R,h⟩:=Ag (Ah B v u) x (M++[n])
     simp_all

theorem count_le(B:ak)(M R:List Int):(B.countP fun b=>!(M++R).contains b.1)≤B.countP fun b=>!M.contains b.1:=by
 apply Wi
 simp_all

theorem Cq{B:ak}{n:Int}{x:Tm}(hx:a7 B n=some x)(hM:M.contains n=false):(B.countP fun b=>!(M++[n]).contains b.1)<B.countP fun b=>!M.contains b.1:=by
 obtain⟨j,hj⟩:=P1.1 (dq hx);obtain⟨r,rfl⟩:=hj;have h1:=count_le j M [n];have h2:=count_le r M [n]
 grind

theorem Ai{g:Int→List Int→Bool × List Int}{t:Tm}(h:t.k=1):rh g t M=g t.n M:=by
 cases t;simp only[k,n]at h ⊢;simp only[rh];rw[if_pos h]

theorem acs{g:Int→List Int→Bool × List Int}{t:Tm}(h:t.k≠1):rh g t M=qC g t.l M:=by
 cases t;simp only[k,l]at h ⊢;simp only[rh];rw[if_neg h]
end Tm
end aw
namespace aw

theorem Tm.mh:∀l:List Tm,l.length≤Tm.ay l
 |[]=>by simp
 |x::l=>by have:=Tm.mh l;have:=Tm.size_pos x;simp only[dv,Tm.ay];omega
end aw
namespace aw
open Go
namespace Tm

def aia (N:Nat)(T:List (Tm × Tm)):Prop:=∀p∈T,p.1.size≤N∧p.2.size≤N
def T9 (N:Nat)(B:ak):Prop:=∀b∈B,b.2.size≤N

theorem Cr {N:Nat}{B:ak}(h:T9 N B):∀ (f:Nat) (t:Tm),t.size≤N→(dS B f t).size≤N
 |0,t,ht=>ht
 |f+1,t,ht=>by
  simp only[dS];split
  ·split
   ·rename_i x hx;exact Cr h f x (h _ (dq hx))
   ·exact ht
  ·exact ht

theorem T9.snoc {N:Nat}{B:ak}(h:T9 N B){v:Int}{t:Tm}(ht:t.size≤N):T9 N (B++[(v,t)]):=fun b hb=>by
 rcases bW.1 hb with hb |hb
 ·exact h b hb
 simp_all
end Tm
end aw
namespace aw
open Go
namespace Tm
def lK (x y:Tm)(cD:List (Int × Int)):List (Int × Int):=if decide (x.k=1)&&decide (y.k=1) then cD++[(x.n,y.n)] else cD
def kH (x y:Tm)(cD:List (Int × Int)):Bool:=(decide (x.k=1)&&decide (y.k=1))&&cD.contains (x.n,y.n)
section
variable {σ:Int→Tm} {B':ak} {n:Nat} {R:List (Tm × Tm)} {x y:Tm} {B:ak} {cD:List (Int × Int)}
end
end Tm
end aw

namespace aw
open Go
namespace Tm

def Cl (B:ak)(v:Int)(M M':List Int):Prop:=∀n∈M',n∈M∨∃x,a7 B n=some x∧∀u∈cz x,u≠v∧(a7 B u≠none→u∈M')

theorem Cl.trans {B:ak}{v:Int}{M M1 M2:List Int}(h1:Cl B v M M1)(h2:Cl B v M1 M2)(hs:∀n∈M1,n∈M2):Cl B v M M2:=fun n hn=>by
 rcases h2 n hn with h |h
 ·rcases h1 n h with h | ⟨x,hx,hu⟩
  ·exact .inl h
  ·exact .inr ⟨x,hx,fun u hu1=>⟨(hu u hu1).1,fun hb=>hs u ((hu u hu1).2 hb)⟩⟩
 ·exact .inr h
def N6 (B:ak)(M:List Int):Nat:=B.countP fun b=>!M.contains b.1

def aib (B:ak)(v:Int)(u:Nat)(g:Int→List Int→Bool × List Int):Prop:=∀n M,N6 B M<u→(g n M).1=false→(∀m∈M,m∈(g n M).2)∧Cl B v M (g n M).2∧n≠v∧(a7 B n≠none→n∈(g n M).2)

mutual
theorem N7 {B:ak}{v:Int}{u:Nat}{g:Int→List Int→Bool × List Int}(he:K3 g)(hg:aib B v u g):∀ (t:Tm) (M:List Int),N6 B M<u→(rh g t M).1=false→(∀m∈M,m∈(rh g t M).2)∧Cl B v M (rh g t M).2∧∀n∈cz t,n≠v∧(a7 B n≠none→n∈(rh g t M).2)
 |mk k s n l,M,hM,h=>by
  simp only[rh,cz]at h ⊢;split at h
  ·rename_i hk;rw[if_pos hk,if_pos hk];obtain⟨h1,h2,h3,h4⟩:=hg n M hM h;exact⟨h1,h2,fun m hm=>by simp only[dh]at hm;subst hm;exact⟨h3,h4⟩⟩
  ·rename_i hk;rw[if_neg hk,if_neg hk];exact Re he hg l M hM h
theorem Re {B:ak}{v:Int}{u:Nat}{g:Int→List Int→Bool × List Int}(he:K3 g)(hg:aib B v u g):∀ (l:List Tm) (M:List Int),N6 B M<u→(qC g l M).1=false→(∀m∈M,m∈(qC g l M).2)∧Cl B v M (qC g l M).2∧∀n∈ek l,n≠v∧(a7 B n≠none→n∈(qC g l M).2)
 |[],M,hM,h=>by simp only[qC,ek];exact⟨fun m hm=>hm,fun n hn=>.inl hn,by simp⟩
 |x::r,M,hM,h=>by
  simp only[qC,ek]at h ⊢;cases hx:(rh g x M).1 with
  |true=>rw[hx]at h;simp at h
  |false =>
   rw[hx]at h;simp only[lL,if_false]at h ⊢;obtain⟨h1,h2,h3⟩:=N7 he hg x M hM hx;obtain⟨R,hR⟩:=Ag he x M
   have hM1:N6 B (rh g x M).2<u:=by
    have:=count_le B M R;rw[hR];unfold N6 at hM ⊢;omega
   obtain⟨g1,g2,g3⟩:=Re he hg r _ hM1 h;refine⟨fun m hm=>g1 m (h1 m hm),h2.trans g2 g1,fun n hn=>?_⟩;rcases bW.1 hn with hn |hn
   ·exact⟨(h3 n hn).1,fun hb=>g1 n ((h3 n hn).2 hb)⟩
   ·exact g3 n hn
end

theorem YO (B:ak)(v:Int):∀u,aib B v u (u9 B v u)
 |0,n,M,hM,_=>by omega
 |u+1,n,M,hM,h=>by
  simp only[u9]at h ⊢;by_cases hn:n=v
  ·rw[if_pos hn]at h;cases h
  rw[if_neg hn]at h ⊢;cases hf:a7 B n with
  |none=>exact⟨fun m hm=>hm,fun m hm=>.inl hm,hn,fun h=>absurd rfl h⟩
  |some x =>
   rw[hf]at h;simp only at h ⊢;split at h
   ·rename_i hc;rw[if_pos hc];exact⟨fun m hm=>hm,fun m hm=>.inl hm,hn,fun _=>by simpa using hc⟩
   ·rename_i hc;rw[if_neg hc];have Qj:M.contains n=false:=by simpa using hc
    have hl:=Cq hf Qj;obtain⟨h1,h2,h3⟩:=N7 (Ah B v u) (YO B v u) x (M++[n]) (by unfold N6 at hM ⊢;omega) h;have hnm:=h1 n aC;refine⟨fun m hm=>h1 m (by simp[hm]),fun m hm=>?_,hn,fun _=>hnm⟩;rcases h2 m hm with h |h
    ·rcases bW.1 h with h | h
     ·exact .inl h
     ·simp only [dh] at h; subst h;exact .inr ⟨x,hf,h3⟩
    ·exact .inr h

theorem N8 {B:ak}{v:Int}{t:Tm}(h:hH B v t=false):∀M,v ∉ cz (bn B M t):=by
 unfold hH at h;obtain⟨_,h2,h3⟩:=N7 (Ah B v _) (YO B v (B.length+1)) t [] (by unfold N6;exact yP Jd) h;generalize (rh (u9 B v (B.length+1)) t []).2=M' at h2 h3
 have main:∀ (m:Nat) (x:Tm),(∀n∈cz x,n≠v∧(a7 B n≠none→n∈M'))→∀z∈cz (bn B m x),z≠v:=by
  intro m;induction m with
  |zero=>intro x hx z hz;exact(hx z hz).1
  |succ m ih =>
   intro x hx z hz;simp only[bn]at hz;obtain⟨u,hu,hz⟩:=wG x z hz;cases hf:a7 B u with
   |none =>
    rw[hf]at hz;simp[cz,vT]at hz;rw[hz];exact(hx u hu).1
   |some y =>
    rw[hf]at hz;have hm:=(hx u hu).2 (by rw[hf];simp);rcases h2 u hm with h |⟨y',hy,hc⟩
    ·cases h
    ·rw [hf] at hy; cases hy;exact ih y hc z hz
 exact fun M hv=>main M t h3 v hv rfl
end Tm
end aw

namespace aw
open Go
variable{B:ak}{ρ:Int→Nat}{σ:Int→Tm}
namespace Tm

theorem vd(h:(B.map (·.1)).Nodup){b:Int × Tm}(hb:b∈B):a7 B b.1=some b.2:=by
 induction B with
 |nil=>cases hb
 |cons c B ih =>
  rw[qw];simp only[List.map_cons,xL]at h;rcases eL.1 hb with rfl |hb
  ·rw[if_pos rfl]
  ·rw [if_neg (fun e=>h.1 (by rw [e]; exact fA.2 ⟨b,hb,rfl⟩))];exact ih h.2 hb
def Ho (B:ak)(ρ:Int→Nat)(r:Nat):Nat:=B.countP fun b=>decide (ρ b.1<r)

theorem Hp(B:ak)(ρ:Int→Nat){r r':Nat}(h:r≤r'):Ho B ρ r≤Ho B ρ r':=by
 apply Wi;intro b _ hb;simp only[decide_eq_true_eq]at hb ⊢;omega

theorem acu{b:Int × Tm}(hb:b∈B):Ho B ρ (ρ b.1)<Ho B ρ (ρ b.1+1):=by
 obtain⟨l,r,rfl⟩:=P1.1 hb;have h1:=Hp l ρ (show ρ b.1≤ρ b.1+1 by omega);have h2:=Hp r ρ (show ρ b.1≤ρ b.1+1 by omega);unfold Ho at *;simp only[List.countP_append,P0];have e1:decide (ρ b.1<ρ b.1)=false:=by simp
 have e2:decide (ρ b.1<ρ b.1+1)=true:=by simp
 rw[e1,e2];simp only[if_true,lL,if_false];omega

theorem YQ(hf:∀b∈B,b.2.bw=true)(hρ:∀b∈B,∀u∈cz b.2,a7 B u≠none→ρ u<ρ b.1):∀ (r i:Nat) (b:Int × Tm),B[i]? = some b→ρ b.1=r→wE (fW B) (Ho B ρ (r+1)) i:=by
 intro r;induction r using Nat.strongRecOn with
 |ind r ih =>
  intro i b hb hr;have hm:=gZ hb;have h1:=acu (ρ:=ρ) hm;rw[hr]at h1;obtain⟨m,hm'⟩:∃m,Ho B ρ (r+1)=m+1:=⟨Ho B ρ (r+1) - 1,by omega⟩;rw[hm'];refine .mk fun k hk=>?_
  simp only[fW,hb,xJ]at hk;obtain⟨v,hv,hk⟩:=hk;rw[j7 (BA (hf _ hm))]at hv;simp only[ek,vJ]at hv;rcases fF B v with ⟨h1,h2⟩ |⟨j,t,h2,h3,h4⟩
  ·rw[if_pos h1]at hk;cases hk
  ·rw [if_neg an] at hk;simp only[Option.some.injEq]at hk;have fu:=hρ b hm v hv I3;have hkj:k=j:=by omega
   subst hkj;have:=ih (ρ v) an k (v,t) h3 rfl;refine this.mono ?_;have:=Hp B ρ (show ρ v+1≤r by omega);omega

theorem K5(hf:∀b∈B,b.2.bw=true)(hρ:∀b∈B,∀u∈cz b.2,a7 B u≠none→ρ u<ρ b.1):Sub B B.length :=
 ⟨hf,fun i hi=>(YQ hf hρ _ i B[i] (dY hi) rfl).mono (by unfold Ho;exact Jd)⟩

mutual
theorem K6{σ:Int→Tm}:∀ (t:Tm) (u:Int),u∈cz t→size (σ u)≤size (bZ σ t)∧(t.k≠1→size (σ u)<size (bZ σ t))
 |mk k s n l,u,h=>by
  simp only[cz]at h;by_cases hk:k=1
  ·rw [if_pos hk,dh] at h;subst h;simp only[bZ,if_pos hk,Tm.k];exact⟨ef _,fun h=>absurd hk h⟩
  ·rw [if_neg hk] at h;have:=FE (σ:=σ) l u h;simp only[bZ,if_neg hk,size];exact⟨by omega,fun _=>by omega⟩
theorem FE{σ:Int→Tm}:∀ (l:List Tm) (u:Int),u∈ek l→size (σ u)≤ay (dt σ l)
 |[],u,h=>by simp[ek]at h
 |t::l,u,h=>by
  simp only[ek,bW]at h;simp only[dt,ay];rcases h with h |h
  ·have:=(K6 (σ:=σ) t u h).1;omega
  ·have:=FE (σ:=σ) l u h;omega
end

theorem N9{t:Tm}(hk:t.k=1){u:Int}(h:u∈cz t):u=t.n:=by
 cases t;simp only[k]at hk;simp only[cz,if_pos hk,dh]at h;exact h

theorem K7(hs:nU σ B)(hc:jW B):∃ρ:Int→Nat,∀b∈B,∀u∈cz b.2,a7 B u≠none→ρ u<ρ b.1:=by
 refine⟨fun v=>size (σ v) * (B.length+1)+(B.length - (eM B v).toNat),fun b hb u hu hub=>?_⟩;show size (σ u) * (B.length+1)+(B.length - (eM B u).toNat)<size (σ b.1) * (B.length+1)+(B.length - (eM B b.1).toNat)
 have GF:=hs b hb;have h1:=K6 (σ:=σ) b.2 u hu;by_cases hk:b.2.k=1
 ·have he:=N9 hk hu;rw[pS hk,← he]at GF;rw[GF];rcases fF B u with ⟨g1,g2⟩ |⟨j,t,g1,g2,g3⟩
  ·exact absurd g2 hub
  rcases fF B b.1 with ⟨e1,e2⟩ |⟨i,t',e1,e2,e3⟩
  ·rw[vd hc.nodup hb]at e2;cases e2
  rw[vd hc.nodup hb]at e3;simp only[Option.some.injEq]at e3;subst e3;have:=hc.chain i _ e2 hk j _ g2 he;have:=(bC.1 g2).1;rw[g1,e1];simp only[vM];omega
 ·have h2:=h1.2 hk;rw[← GF]at h2;have:(size (σ u)+1) * (B.length+1)≤size (σ b.1) * (B.length+1):=o7 _ h2;rw[Nat.add_mul]at this;omega

theorem Hq(hs:nU σ B)(hc:jW B)(hf:Co B):Sub B B.length :=
 (K7 hs hc).elim fun _ h=>K5 (fun b hb=>(hf b hb).1) h

def Ct (B:ak)(v:Int):Tm:=match a7 B v with |some x=>bn B B.length x |none=>vT v
theorem Cu(h:Sub B B.length){t:Tm}(hf:t.bw=true):bZ (Ct B) t=bn B B.length t:=(h.fix hf).symm

theorem K8(h:Sub B B.length)(hc:jW B):nU (Ct B) B:=fun b hb=>by
 rw[Cu h (h.fair b hb)];unfold Ct;rw[vd hc.nodup hb]
theorem Oa{v:Int}(h:a7 B v=none):Ct B v=vT v:=by unfold Ct;rw[h]

theorem YR(hs:nU σ B)(hc:jW B)(hf:Co B){v:Int}{w:Tm}(hv:a7 B v=none)(hw:w.bw=true)(hn:hH B v w=false):∃σ',nU σ' (B++[(v,w)]):=by
 have hS:=Hq hs hc hf;have amz:=N8 hn B.length;have hfw:=hS.ae6 hw;refine⟨fun z=>bZ (fun u=>if u=v then bZ (Ct B) w else vT u) (Ct B z),fun b hb=>?_⟩;simp only;rw[← Fb];rcases bW.1 hb with hb |hb
 ·rw[K8 hS hc b hb]
 ·simp only [dh] at hb; subst hb;simp only;rw[Oa hv,pS (show (vT v).k=1 from rfl)];simp only[vT,Tm.n,if_true];rw[Cu hS hw];refine(XH _ hfw fun u hu=>?_).symm;rw[if_neg (fun e=>amz (by rw[← e];exact hu))];rfl
end Tm
end aw

namespace aw
open Go
variable{sw:Bool}{S:List Int}
namespace Tm
def il (sw:Bool)(x y:Tm):Tm × Tm:=if (sw || decide (x.k≠1))&&decide (y.k=1) then (y,x) else (x,y)
def FF (x y:Tm):Prop:=x.k=1∧y.k=1∧x.n=y.n
def D6 (sw:Bool)(l m:List Tm):List (Tm × Tm):=if sw then l.zip m else (l.zip m).reverse
theorem r7{l m:List Tm}{p:Tm × Tm}:p∈D6 sw l m↔p∈l.zip m:=by cases sw<;>simp[D6]

theorem pT{x y u w:Tm}(h:il sw x y=(u,w)):(u=x∧w=y)∨(u=y∧w=x∧y.k=1):=by
 unfold il at h;split at h
 ·rename_i hc;simp only[aV,decide_eq_true_eq]at hc;cases h;exact .inr ⟨rfl,rfl,hc.2⟩
 ·cases h;exact .inl ⟨rfl,rfl⟩

theorem FG{x y u w:Tm}(h:il sw x y=(u,w))(hu:u.k≠1):x.k≠1∧y.k≠1:=by
 unfold il at h;split at h
 ·rename_i hc;simp only[aV,decide_eq_true_eq]at hc;cases h;exact absurd hc.2 hu
 ·rename_i hc;cases h;refine⟨hu,fun hy=>hc ?_⟩;simp[hu,hy]

inductive mH (sw:Bool):Nat→List (Tm × Tm)→ak→List (Int × Int)→ak→Bool→Prop
 |done {n:Nat} {B:ak} {cD:List (Int × Int)}:mH sw n [] B cD B true
 |skip {n:Nat} {x y:Tm} {R:List (Tm × Tm)} {B B':ak} {cD:List (Int × Int)} {ok:Bool} (hs:kH x y cD=true) (h:mH sw n R B cD B' ok):mH sw (n+1) ((x,y)::R) B cD B' ok
 |same {n:Nat} {x y:Tm} {R:List (Tm × Tm)} {B B':ak} {cD:List (Int × Int)} {ok:Bool} (hs:kH x y cD=false) (hv:FF (aE B x) (aE B y)) (h:mH sw n R B (lK x y cD) B' ok):mH sw (n+1) ((x,y)::R) B cD B' ok
 |cz {n:Nat} {x y u w:Tm} {R:List (Tm × Tm)} {B:ak} {cD:List (Int × Int)} (hs:kH x y cD=false) (hv:¬ FF (aE B x) (aE B y)) (hp:il sw (aE B x) (aE B y)=(u,w)) (hk:u.k=1) (hw:hH B u.n w=true):mH sw (n+1) ((x,y)::R) B cD B false
 |bind {n:Nat} {x y u w:Tm} {R:List (Tm × Tm)} {B B':ak} {cD:List (Int × Int)} {ok:Bool} (hs:kH x y cD=false) (hv:¬ FF (aE B x) (aE B y)) (hp:il sw (aE B x) (aE B y)=(u,w)) (hk:u.k=1) (hw:hH B u.n w=false) (h:mH sw n R (B++[(u.n,w)]) (lK x y cD) B' ok):mH sw (n+1) ((x,y)::R) B cD B' ok
 |kI {n:Nat} {x y:Tm} {R:List (Tm × Tm)} {B:ak} {cD:List (Int × Int)} (hs:kH x y cD=false) (hx:(aE B x).k≠1) (hy:(aE B y).k≠1) (hc:ku (aE B x) (aE B y)=true):mH sw (n+1) ((x,y)::R) B cD B false
 |args {n:Nat} {x y:Tm} {R:List (Tm × Tm)} {B B':ak} {cD:List (Int × Int)} {ok:Bool} (hs:kH x y cD=false) (hx:(aE B x).k≠1) (hy:(aE B y).k≠1) (hc:ku (aE B x) (aE B y)=false) (h:mH sw n (D6 sw (aE B x).l (aE B y).l++R) B (lK x y cD) B' ok):mH sw (n+1) ((x,y)::R) B cD B' ok

structure UG (S:List Int) (N:Nat) (T:List (Tm × Tm)) (B:ak):Prop where
 chain:jW B
 mo:Co B
 oi:∀p∈T,p.1.bw=true∧p.2.bw=true
 st:aia N T
 sb:T9 N B
 Vc:∃σ,nU σ B
 vb:∀b∈B,b.1∈S∧∀u∈cz b.2,u∈S
 vt:∀p∈T,(∀u∈cz p.1,u∈S)∧∀u∈cz p.2,u∈S

theorem Cv{S:List Int}{B:ak}(h:∀b∈B,b.1∈S∧∀u∈cz b.2,u∈S):∀ (f:Nat) (t:Tm),(∀u∈cz t,u∈S)→∀u∈cz (dS B f t),u∈S
 |0,t,ht=>ht
 |f+1,t,ht=>by
  simp only[dS];split
  ·split
   ·rename_i x hx;exact Cv h f x (h _ (dq hx)).2
   ·exact ht
  ·exact ht

structure UW (S:List Int) (N:Nat) (B:ak) (x:Tm):Prop where
 fair:x.bw=true
 size:x.size≤N
 cz:∀u∈cz x,u∈S
 nd:x.k=1→a7 B x.n=none
section
variable {S:List Int} {N:Nat} {x y:Tm} {R:List (Tm × Tm)} {B:ak}

theorem UG.tail{p:Tm × Tm}(h:UG S N (p::R) B):UG S N R B :=
 ⟨h.chain,h.mo,fun q hq=>h.oi q Er,fun q hq=>h.st q Er,h.sb,h.Vc,h.vb,fun q hq=>h.vt q Er⟩

theorem UG.K9(h:UG S N ((x,y)::R) B):UW S N B (aE B x) :=
 ⟨yo h.mo _ x (h.oi (x,y) aC).1,Cr h.sb _ x (h.st (x,y) aC).1,Cv h.vb _ x (h.vt (x,y) aC).1,yn h.chain⟩

theorem UG.La(h:UG S N ((x,y)::R) B):UW S N B (aE B y) :=
 ⟨yo h.mo _ y (h.oi (x,y) aC).2,Cr h.sb _ y (h.st (x,y) aC).2,Cv h.vb _ y (h.vt (x,y) aC).2,yn h.chain⟩

theorem UG.pick{u w:Tm}(h:UG S N ((x,y)::R) B)(hv:¬ FF (aE B x) (aE B y))(hp:il sw (aE B x) (aE B y)=(u,w))(hk:u.k=1):UW S N B u∧UW S N B w∧(w.k=1→w.n≠u.n):=by
 rcases pT hp with ⟨rfl,rfl⟩ |⟨rfl,rfl,_⟩
 ·exact⟨h.K9,h.La,fun hw e=>hv ⟨hk,hw,e.symm⟩⟩
 ·exact⟨h.La,h.K9,fun hw e=>hv ⟨hw,hk,e⟩⟩

theorem UG.bind{u w:Tm}(h:UG S N ((x,y)::R) B)(hv:¬ FF (aE B x) (aE B y))(hp:il sw (aE B x) (aE B y)=(u,w))(hk:u.k=1)(hw:hH B u.n w=false):UG S N R (B++[(u.n,w)]):=by
 obtain⟨hu,P7,eo⟩:=h.pick hv hp hk;obtain⟨σ,hs⟩:=h.Vc;have ht:=h.tail;refine⟨h.chain.snoc (hu.nd hk) fun h1=>⟨P7.nd h1,eo h1⟩,fun b hb=>?_,ht.oi,ht.st,h.sb.snoc P7.size,YR hs h.chain h.mo (hu.nd hk) P7.fair hw,fun b hb=>?_,ht.vt⟩
 ·rcases bW.1 hb with hb | hb
  ·exact h.mo b hb
  ·simp only [dh] at hb; subst hb;exact⟨P7.fair,lh u hu.fair u.n (Ab hk)⟩
 ·rcases bW.1 hb with hb | hb
  ·exact h.vb b hb
  ·simp only [dh] at hb; subst hb;exact⟨hu.cz _ (Ab hk),P7.cz⟩

theorem Rf{t x:Tm}(hk:t.k≠1)(hx:x∈t.l){u:Int}(hu:u∈cz x):u∈cz t:=by
 cases t;simp only[k,l]at hk hx;simp only[cz,if_neg hk];clear hk;rename_i l;induction l with
 |nil=>cases hx
 |cons a l ih =>
  simp only[ek,bW];rcases eL.1 hx with rfl |hx
  ·exact .inl hu
  ·exact .inr (ih hx)

theorem UG.args(h:UG S N ((x,y)::R) B)(hx:(aE B x).k≠1)(hy:(aE B y).k≠1):UG S N (D6 sw (aE B x).l (aE B y).l++R) B:=by
 have ht:=h.tail;have h1:=h.K9;have h2:=h.La;generalize aE B x=x' at *;generalize aE B y=y' at *;have hz:∀p∈D6 sw x'.l y'.l,p.1∈x'.l∧p.2∈y'.l:=fun p hp=>Jf (r7.1 hp)
 refine⟨h.chain,h.mo,fun q hq=>?_,fun q hq=>?_,h.sb,h.Vc,h.vb,fun q hq=>?_⟩
 ·rcases bW.1 hq with hq | hq
  ·exact⟨Sub.BH h1.fair (hz q hq).1,Sub.BH h2.fair (hz q hq).2⟩
  ·exact ht.oi q hq
 ·rcases bW.1 hq with hq | hq
  ·have g1:=ct (hz q hq).1;have g2:=ct (hz q hq).2;have g3:=size_eq x';have g4:=size_eq y';have g5:=h1.size;have g6:=h2.size;omega
  ·exact ht.st q hq
 ·rcases bW.1 hq with hq | hq
  ·exact⟨fun u hu=>h1.cz u (Rf hx (hz q hq).1 hu),fun u hu=>h2.cz u (Rf hy (hz q hq).2 hu)⟩
  ·exact ht.vt q hq
end
def YS (S:List Int)(B:ak):Nat:=S.countP fun v=>(a7 B v).isNone

theorem nH(B:ak)(v z:Int)(w:Tm):a7 (B++[(v,w)]) z=match a7 B z with |some x=>some x |none=>if v=z then some w else none:=by
 induction B with
 |nil=>simp[qw,a7]
 |cons b B ih =>
  simp only[jj,qw];split
  ·rfl
  ·exact ih

theorem acv{B:ak}{v:Int}(hv:v∈S)(hb:a7 B v=none)(w:Tm):YS S (B++[(v,w)])<YS S B:=by
 obtain⟨l,r,rfl⟩:=P1.1 hv
 have mono:∀l:List Int,(l.countP fun z=>(a7 (B++[(v,w)]) z).isNone)≤l.countP fun z=>(a7 B z).isNone:=fun l=>by
  apply Wi;intro z _ hz;rw[nH]at hz;cases hf:a7 B z with
  |none=>rfl
  |some x=>rw[hf]at hz;simp at hz
 have h1:=mono l;have h2:=mono r;unfold YS;simp only[List.countP_append,P0];rw[hb,nH,hb];simp;omega
theorem YT(σ:Int→Tm)(T:List (Tm × Tm)):tX σ T.reverse=tX σ T:=by simp[tX]

theorem YU(σ:Int→Tm)(sw:Bool)(l m:List Tm)(h:l.length=m.length):tX σ (D6 sw l m)=ay (dt σ l):=by
 cases sw
 ·rw[D6,if_neg aC,YT,Cp σ l m h]
 ·rw[D6,if_pos rfl,Cp σ l m h]
theorem FH(σ:Int→Tm)(p:Tm × Tm)(T:List (Tm × Tm)):tX σ (p::T)=size (bZ σ p.1)+tX σ T:=by simp[tX]

theorem Lb{x y:Tm}(h:ku x y=false):x.k=y.k∧x.s=y.s∧x.n=y.n∧x.l.length=y.l.length:=by
 unfold ku at h;simp only[DI,decide_eq_false_iff_not,Decidable.not_not,Sq]at h;obtain⟨⟨⟨h1,h2⟩,h3⟩,h4⟩:=h;exact⟨h1,Tm.bo.1 h3,h2,h4⟩

theorem Ua(sw:Bool){N:Nat}:∀ (c:Nat) (s:Nat) (σ:Int→Tm) (T:List (Tm × Tm)) (B:ak) (cD:List (Int × Int)),UG S N T B→YS S B≤c→nU σ B→tX σ T≤s→∃n B' ok,mH sw n T B cD B' ok:=by
 intro c;induction c using Nat.strongRecOn with
 |ind c ihc =>
  intro s;induction s with
  |zero =>
   intro σ T B cD hU hc hs acw;cases T with
   |nil=>exact⟨0,B,true,.done⟩
   |cons p T =>
    rw[FH]at acw;have:=size_pos (bZ σ p.1);omega
  |succ s ih =>
   intro σ T B cD hU hc hs acw;cases T with
   |nil=>exact⟨0,B,true,.done⟩
   |cons p T =>
    obtain⟨x,y⟩:=p;rw[FH]at acw;have aho:=size_pos (bZ σ x);simp only at acw;cases hsk:kH x y cD with
    |true =>
     obtain⟨n,B',ok,h⟩:=ih σ T B cD hU.tail hc hs (by omega);exact⟨n+1,B',ok,.skip hsk h⟩
    |false =>
     by_cases hv:FF (aE B x) (aE B y)
     ·obtain ⟨n,B',ok,h⟩:=ih σ T B (lK x y cD) hU.tail hc hs (by omega);exact⟨n+1,B',ok,.same hsk hv h⟩
     ·obtain ⟨u,w,hp⟩:∃ u w,il sw (aE B x) (aE B y)=(u,w):=⟨_,_,rfl⟩;by_cases hk:u.k=1
      ·cases hw:hH B u.n w with
       |true=>exact⟨1,B,false,.cz (n:=0) hsk hv hp hk hw⟩
       |false =>
        have hb:=hU.bind hv hp hk hw;obtain⟨hu,_,_⟩:=hU.pick hv hp hk;have fu:=acv (hu.cz _ (Ab hk)) (hu.nd hk) w;obtain⟨σ',fh⟩:=hb.Vc;obtain⟨n,B',ok,h⟩:=ihc _ (by omega) (tX σ' T) σ' T _ (lK x y cD) hb (ef _) fh (ef _);exact⟨n+1,B',ok,.bind hsk hv hp hk hw h⟩
      ·obtain ⟨hx,hy⟩:=FG hp hk;cases dV:ku (aE B x) (aE B y) with
       |true=>exact⟨1,B,false,.kI (n:=0) hsk hx hy dV⟩
       |false =>
        obtain⟨_,_,_,aZ⟩:=Lb dV
        have hz:size (bZ σ x)=1+ay (dt σ (aE B x).l):=by
         rw[← gm hs (B.length+1) x,show dS B (B.length+1) x=aE B x from rfl,jG hx];simp only[size]
        obtain⟨n,B',ok,h⟩:=ih σ (D6 sw (aE B x).l (aE B y).l++T) B (lK x y cD) (hU.args hx hy) hc hs (by rw[YN,YU σ sw _ _ aZ];omega);exact⟨n+1,B',ok,.args hsk hx hy dV h⟩

theorem Cw{N:Nat}{σ:Int→Tm}{n:Nat}{T:List (Tm × Tm)}{B B':ak}{cD:List (Int × Int)}{ok:Bool}(h:mH sw n T B cD B' ok):UG S N T B→nU σ B→(∀p∈T,bZ σ p.1=bZ σ p.2)→ok=true∧nU σ B':=by
 induction h with
 |done=>exact fun _ hs _=>⟨rfl,hs⟩
 |skip _ _ ih=>exact fun hU hs ht=>ih hU.tail hs fun p hp=>ht p Gd
 |same _ _ _ ih=>exact fun hU hs ht=>ih hU.tail hs fun p hp=>ht p Gd
 |cz hsk hv hp hk hw =>
  intro hU hs ht;rename_i x y u w R B cD;have he:=ht (x,y) aC;simp only at he;rw[← gm hs (B.length+1) x,← gm hs (B.length+1) y]at he;obtain⟨hu,P7,eo⟩:=hU.pick hv hp hk
  have Ix:bZ σ u=bZ σ w:=by
   rcases pT hp with ⟨rfl,rfl⟩ |⟨rfl,rfl,_⟩
   ·exact he
   ·exact he.symm
  rw[pS hk]at Ix
  rw[YM hs Ix (fun ⟨h1,h2⟩=>by
   rcases h2 with h2 |h2
   ·exact eo h1 h2
   ·exact h2 (P7.nd h1))]at hw
  cases hw
 |bind hsk hv hp hk hw _ ih =>
  intro hU hs ht;rename_i n x y u w R B B' cD ok _;have he:=ht (x,y) aC;simp only at he;rw[← gm hs (B.length+1) x,← gm hs (B.length+1) y]at he
  have Ix:bZ σ u=bZ σ w:=by
   rcases pT hp with ⟨rfl,rfl⟩ |⟨rfl,rfl,_⟩
   ·exact he
   ·exact he.symm
  rw[pS hk]at Ix;refine ih (hU.bind hv hp hk hw) (fun b hb=>?_) fun p hp=>ht p Gd
  rcases bW.1 hb with hb |hb
  ·exact hs b hb
  ·simp only[dh]at hb;subst hb;exact Ix
 |kI hsk hx hy hc =>
  intro hU hs ht;rename_i n x y R B cD;have he:=ht (x,y) aC;simp only at he;rw[← gm hs (B.length+1) x,← gm hs (B.length+1) y]at he
  change bZ σ (aE B x)=bZ σ (aE B y) at he;generalize aE B x=x' at *;generalize aE B y=y' at *;rw[jG hx,jG hy]at he;simp only[Tm.mk.injEq]at he;obtain⟨e1,e2,e3,e4⟩:=he;have aZ:x'.l.length=y'.l.length:=by rw[← pD σ,e4,pD]
  unfold ku at hc;simp[e1,e2,e3,aZ,bE]at hc
 |args hsk hx hy hc _ ih =>
  intro hU hs ht;rename_i n x y R B B' cD ok _;have he:=ht (x,y) aC;simp only at he;rw[← gm hs (B.length+1) x,← gm hs (B.length+1) y]at he;refine ih (hU.args hx hy) hs fun p hp=>?_
  rcases bW.1 hp with hp |hp
  ·change bZ σ (aE B x)=bZ σ (aE B y) at he;rw[jG hx,jG hy]at he;simp only[Tm.mk.injEq]at he;exact Rc _ _ he.2.2.2 p (r7.1 hp)
  ·exact ht p Gd
end Tm
end aw

namespace aw
open Go
variable{cD:List (Int × Int)}{B:ak}{V:Tm × Tm→Prop}{S:List Int}{N:Nat}{v:Int}{w:Tm}
namespace Tm

theorem Ub{sw:Bool}{n:Nat}{T:List (Tm × Tm)}{B B':ak}{ok:Bool}(h:mH sw n T B cD B' ok):UG S N T B→UG S N [] B'∧∃X,B'=B++X:=by
 induction h with
 |done=>exact fun hU=>⟨hU,[],by simp⟩
 |skip _ _ ih=>exact fun hU=>ih hU.tail
 |same _ _ _ ih=>exact fun hU=>ih hU.tail
 |cz hsk hv hp hk hw =>
  intro hU;exact akD
 |bind hsk hv hp hk hw _ ih =>
  intro hU;obtain⟨h1,X,h2⟩:=ih (hU.bind hv hp hk hw);exact⟨h1,_,by rw[h2,List.append_assoc]⟩
 |kI hsk hx hy hc =>
  intro hU;exact akD
 |args hsk hx hy hc _ ih=>exact fun hU=>ih (hU.args hx hy)

theorem Uc(hw:w.k=1→a7 B w.n=none∧w.n≠v):∀ (f:Nat) (t:Tm),((dS B f t).k=1→a7 B (dS B f t).n=none)→dS (B++[(v,w)]) (f+1) t=if (dS B f t).k=1∧(dS B f t).n=v then w else dS B f t:=by
 have x6:∀f,dS (B++[(v,w)]) f w=w:=fun f=>by
  cases f with
  |zero=>rfl
  |succ f =>
   simp only[dS];split
   ·rename_i hk;obtain⟨h1,h2⟩:=hw hk;rw[nH,h1];simp only;rw[if_neg (fun e=>h2 e.symm)]
   ·rfl
 have stop:∀ (f:Nat) (t:Tm),(t.k=1→a7 B t.n=none)→dS (B++[(v,w)]) (f+1) t=if t.k=1∧t.n=v then w else t:=fun f t ht=>by
  simp only[dS];by_cases hk:t.k=1
  ·rw [if_pos hk,nH,ht hk];simp only;by_cases hn:v=t.n
   ·rw[if_pos hn,if_pos ⟨hk,hn.symm⟩];exact x6 f
   ·rw[if_neg hn,if_neg (fun e=>hn e.2.symm)]
  ·rw[if_neg hk,if_neg (fun e=>hk e.1)]
 intro f;induction f with
 |zero=>exact fun t ht=>stop 0 t ht
 |succ f ih =>
  intro t ht;by_cases hk:t.k=1
  ·cases hf:a7 B t.n with
   |none =>
    have e:dS B (f+1) t=t:=by simp only[dS];rw[if_pos hk,hf]
    rw[e];exact stop _ t fun _=>hf
   |some x =>
    have e:dS B (f+1) t=dS B f x:=by simp only[dS];rw[if_pos hk,hf]
    rw[e]at ht ⊢;rw[← ih x ht]
    have e2:∀f',dS (B++[(v,w)]) (f'+1) t=dS (B++[(v,w)]) f' x:=fun f'=>by
     conv=>lhs;unfold dS
     rw[if_pos hk,nH,hf]
    exact e2 _
  ·have e:dS B (f+1) t=t:=by simp only [dS]; rw [if_neg hk]
   rw[e];exact stop _ t fun h=>absurd h hk

theorem lq(hc:jW B)(hw:w.k=1→a7 B w.n=none∧w.n≠v)(t:Tm):aE (B++[(v,w)]) t=if (aE B t).k=1∧(aE B t).n=v then w else aE B t:=by
 have e:aE (B++[(v,w)]) t=dS (B++[(v,w)]) (B.length+1+1) t:=by unfold aE;simp
 rw[e];exact Uc hw (B.length+1) t (yn hc)

def wO (B:ak)(V:Tm × Tm→Prop)(p:Tm × Tm):Prop:=aE B p.1=aE B p.2∨((aE B p.1).k≠1∧(aE B p.2).k≠1∧(aE B p.1).k=(aE B p.2).k∧(aE B p.1).s=(aE B p.2).s∧(aE B p.1).n=(aE B p.2).n∧(aE B p.1).l.length=(aE B p.2).l.length∧∀q∈(aE B p.1).l.zip (aE B p.2).l,V q)

theorem wO.mono{V V':Tm × Tm→Prop}{p:Tm × Tm}(h:wO B V p)(hV:∀q,V q→V' q):wO B V' p:=by
 rcases h with h |⟨h1,h2,h3,h4,h5,h6,h7⟩
 ·exact .inl h
 ·exact .inr ⟨h1,h2,h3,h4,h5,h6,fun q hq=>hV q (h7 q hq)⟩

theorem wO.more{p:Tm × Tm}(h:wO B V p)(hc:jW B)(hw:w.k=1→a7 B w.n=none∧w.n≠v):wO (B++[(v,w)]) V p:=by
 rcases h with h |⟨h1,h2,h3⟩
 ·exact .inl (by rw[lq hc hw,lq hc hw,h])
 ·refine .inr ?_;rw[lq hc hw,lq hc hw,if_neg (fun e=>h1 e.1),if_neg (fun e=>h2 e.1)];exact⟨h1,h2,h3⟩

theorem jH{t:Tm}(hf:t.bw=true)(hk:t.k=1):t=vT t.n:=by
 obtain⟨k,s,n,l⟩:=t;simp only[Tm.k]at hk;subst hk;obtain⟨_,h⟩:=pC hf;obtain⟨rfl,rfl⟩:=h rfl;rfl

theorem Ud{x y:Tm}(h:kH x y cD=true):x.k=1∧y.k=1∧(x.n,y.n)∈cD:=by
 simp only[kH,aV,decide_eq_true_eq]at h;exact⟨h.1.1,h.1.2,by simpa using h.2⟩

theorem Cx{x y:Tm}{m:Int × Int}(h:m∈lK x y cD):m∈cD∨(x.k=1∧y.k=1∧m=(x.n,y.n)):=by
 unfold lK at h;split at h
 ·rename_i hc;simp only[aV,decide_eq_true_eq]at hc;rcases bW.1 h with h |h
  ·exact .inl h
  ·simp only[dh]at h;exact .inr ⟨hc.1,hc.2,h⟩
 ·exact .inl h

theorem Oc{sw:Bool}{n:Nat}{T:List (Tm × Tm)}{B B':ak}{ok:Bool}(h:mH sw n T B cD B' ok):UG S N T B→ok=true→∀V:Tm × Tm→Prop,(∀p,V p→wO B (fun q=>V q∨q∈T) p)→(∀m∈cD,V (vT m.1,vT m.2))→∃V':Tm × Tm→Prop,(∀p,V p→V' p)∧(∀p∈T,V' p)∧∀p,V' p→wO B' V' p:=by
 induction h with
 |done=>exact fun _ _ V hV _=>⟨V,fun _ h=>h,by simp,fun p hp=>(hV p hp).mono fun q hq=>by rcases hq with h |h;exact h;cases h⟩
 |skip hs h ih =>
  intro hU dw V hV hm;rename_i n x y R B B' cD ok;obtain⟨h1,h2,h3⟩:=Ud hs
  have hxy:V (x,y):=by
   have:=hm _ h3;rw[← jH (hU.oi (x,y) aC).1 h1,← jH (hU.oi (x,y) aC).2 h2]at this;exact this
  obtain⟨V',g1,g2,g3⟩:=ih hU.tail dw V (fun p hp=>(hV p hp).mono fun q hq=>by
   rcases hq with h |h
   ·exact .inl h
   ·rcases eL.1 h with rfl | h
    ·exact .inl hxy
    ·exact .inr h) hm
  exact⟨V',g1,fun p hp=>by
   rcases eL.1 hp with rfl |h
   ·exact g1 _ hxy
   ·exact g2 p h,g3⟩
 |same hs hv h ih =>
  intro hU dw V hV hm;rename_i n x y R B B' cD ok
  obtain⟨V',g1,g2,g3⟩:=ih hU.tail dw (fun q=>V q∨q=(x,y)) (fun p hp=>by
   rcases hp with hp |rfl
   ·exact(hV p hp).mono fun q hq=>by
     rcases hq with h |h
     ·exact .inl (.inl h)
     ·rcases eL.1 h with rfl | h
      ·exact .inl (.inr rfl)
      ·exact .inr h
   ·refine .inl ?_;simp only;rw[jH hU.K9.fair hv.1,jH hU.La.fair hv.2.1,hv.2.2]) (fun m Iy=>by
   rcases Cx Iy with h |⟨k1,k2,rfl⟩
   ·exact .inl (hm m h)
   ·refine .inr ?_;simp only;rw[← jH (hU.oi (x,y) aC).1 k1,← jH (hU.oi (x,y) aC).2 k2])
  exact akt
 |cz=>exact fun _ h=>DH
 |kI=>exact fun _ h=>DH
 |bind hs hv hp hk hw h ih =>
  intro hU dw V hV hm;rename_i n x y u w R B B' cD ok;obtain⟨hu,P7,eo⟩:=hU.pick hv hp hk;have x6:w.k=1→a7 B w.n=none∧w.n≠u.n:=fun h=>⟨P7.nd h,eo h⟩
  obtain⟨V',g1,g2,g3⟩:=ih (hU.bind hv hp hk hw) dw (fun q=>V q∨q=(x,y)) (fun p x7=>by
   rcases x7 with x7 |rfl
   ·refine ((hV p x7).more hU.chain x6).mono fun q hq=>?_
    rcases hq with h |h
    ·exact .inl (.inl h)
    ·rcases eL.1 h with rfl | h
     ·exact .inl (.inr rfl)
     ·exact .inr h
   ·refine .inl ?_;simp only;rw[lq hU.chain x6,lq hU.chain x6];rcases pT hp with ⟨rfl,rfl⟩ |⟨rfl,rfl,_⟩
    ·rw[if_pos ⟨hk,rfl⟩,if_neg (fun e=>eo e.1 e.2)]
    ·rw[if_pos (⟨hk,rfl⟩:(aE B y).k=1∧(aE B y).n=(aE B y).n),if_neg (fun e=>eo e.1 e.2)]) (fun m Iy=>by
   rcases Cx Iy with h |⟨k1,k2,rfl⟩
   ·exact .inl (hm m h)
   ·refine .inr ?_;simp only;rw[← jH (hU.oi (x,y) aC).1 k1,← jH (hU.oi (x,y) aC).2 k2])
  exact akt
 |args hs hx hy hc h ih =>
  intro hU dw V hV hm;rename_i n x y R B B' cD ok;obtain⟨e1,e2,e3,e4⟩:=Lb hc
  obtain⟨V',g1,g2,g3⟩:=ih (hU.args hx hy) dw (fun q=>V q∨q=(x,y)) (fun p x7=>by
   rcases x7 with x7 |rfl
   ·refine (hV p x7).mono fun q hq=>?_
    rcases hq with h |h
    ·exact .inl (.inl h)
    ·rcases eL.1 h with rfl | h
     ·exact .inl (.inr rfl)
     ·exact .inr (bW.2 (.inr h))
   ·exact .inr ⟨hx,hy,e1,e2,e3,e4,fun q hq=>.inr (bW.2 (.inl (r7.2 hq)))⟩) (fun m Iy=>by
   rcases Cx Iy with h |⟨k1,k2,rfl⟩
   ·exact .inl (hm m h)
   ·refine .inr ?_;simp only;rw[← jH (hU.oi (x,y) aC).1 k1,← jH (hU.oi (x,y) aC).2 k2])
  exact⟨V',fun p hp=>g1 p (.inl hp),fun p hp=>by
   rcases eL.1 hp with rfl |h
   ·exact g1 _ (.inr rfl)
   ·exact g2 p (bW.2 (.inr h)),g3⟩

theorem Rg{σ:Int→Tm}:∀ (l m:List Tm),l.length=m.length→(∀q∈l.zip m,bZ σ q.1=bZ σ q.2)→dt σ l=dt σ m
 |[],[],_,_=>rfl
 |[],_::_,h,_=>by simp at h
 |_::_,[],h,_=>by simp at h
 |a::l,b::m,h,hq=>by
  simp only[dt,List.cons.injEq];exact⟨hq (a,b) aC,Rg l m l6 fun q h=>hq q (by simp[h])⟩

theorem Lc{σ:Int→Tm}{x z:Tm}(hx:x.k≠1)(hz:z∈x.l):size (bZ σ z)<size (bZ σ x):=by
 rw[jG hx];simp only[size]
 have:∀l:List Tm,z∈l→size (bZ σ z)≤ay (dt σ l):=fun l=>by
  induction l with
  |nil=>intro h;cases h
  |cons a l ih =>
   intro h;simp only[dt,ay];rcases eL.1 h with rfl |h
   ·omega
   ·have:=ih h;omega
 have:=this x.l hz;omega

theorem YV{σ:Int→Tm}(hs:nU σ B)(hV:∀p,V p→wO B V p):∀ (c:Nat) (p:Tm × Tm),V p→size (bZ σ p.1)≤c→bZ σ p.1=bZ σ p.2:=by
 intro c;induction c with
 |zero=>intro p _ h;have:=size_pos (bZ σ p.1);omega
 |succ c ih =>
  intro p hp h;rw[← gm hs (B.length+1) p.1,← gm hs (B.length+1) p.2];rw[← gm hs (B.length+1) p.1]at h
  change size (bZ σ (aE B p.1))≤_ at h;show bZ σ (aE B p.1)=bZ σ (aE B p.2)
  rcases hV p hp with e |⟨h1,h2,h3,h4,h5,h6,h7⟩
  ·rw[e]
  ·rw[jG h1,jG h2,h3,h4,h5,Rg _ _ h6 fun q hq=>ih q (h7 q hq) (by
    have:=Lc (σ:=σ) h1 (Jf hq).1;omega)]

theorem Od(sw:Bool){a b:Tm}(hU:UG S N [(a,b)] B):∃n B' ok,mH sw n [(a,b)] B [] B' ok∧UG S N [] B'∧(∃X,B'=B++X)∧(ok=true→∀σ,nU σ B'↔nU σ B∧bZ σ a=bZ σ b)∧(ok=false→∀σ,nU σ B→bZ σ a≠bZ σ b):=by
 obtain⟨σ0,h0⟩:=hU.Vc;obtain⟨n,B',ok,h⟩:=Ua sw (YS S B) (tX σ0 [(a,b)]) σ0 [(a,b)] B [] hU cP h0 cP;obtain⟨g1,X,g2⟩:=Ub h hU;refine⟨n,B',ok,h,g1,⟨X,g2⟩,fun dw σ=>⟨fun hs=>?_,fun ⟨hs,he⟩=>?_⟩,fun dw σ hs he=>?_⟩
 ·obtain ⟨V',_,v2,v3⟩:=Oc h hU dw (fun _=>False) (fun p hp=>hp.elim) (fun m hm=>by cases hm);refine⟨fun b hb=>hs b (by rw[g2];simp[hb]),YV hs v3 _ (a,b) (v2 _ aC) cP⟩
 ·exact(Cw h hU hs (fun p hp=>by simp at hp;subst hp;exact he)).2
 ·have:=(Cw h hU hs (fun p hp=>by simp at hp; subst hp; exact he)).1;rw[dw]at this;cases this
end Tm
end aw

namespace aw
open Go

theorem Ue {B:ak}{M:Nat}(hS:Sub B M)(hn:(B.map (·.1)).Nodup)(hb:∀b∈B,0≤b.1∧b.1<1000000∧b.2.bS=true):jq B=true:=by
 rw[← Tj];unfold Nt;rw[aV,fk,fk];constructor
 ·intro i hi;have l7:i<B.length:=by simpa using hi
  have e1:B[i]? = some (B[i]'l7):=dY _;have h1:=hb _ (gZ e1);have h3:=y1.1 hn i _ e1;rw[XM,e1];simp[h1.1,h1.2.1,h1.2.2,h3]
 ·intro i hi;cases hw:ie (qx (fW B)) B.length i i with
  |false=>rfl
  |true=>exact absurd (hS.okn i (by simpa using hi)) (Fl (pI _ _ _ _ hw))
namespace Tm
end Tm

theorem Cy {α:Type}[DecidableEq α]:∀ (l L:List α),l.Nodup→(∀x∈l,x∈L)→l.length≤L.length
 |[],L,_,_=>cT _
 |x::l,L,hn,hs=>by
  obtain⟨a,b,rfl⟩:=P1.1 (hs x aC);simp only[xL]at hn
  have:=Cy l (a++b) hn.2 fun y hy=>by
   have:=hs y kb;simp only[bW,eL]at this ⊢;rcases this with h |h |h
   ·exact .inl h
   ·subst h;exact absurd hy hn.1
   ·exact .inr h
  simp only[List.length_append,dv]at this ⊢;omega
namespace Tm

theorem y9 {B:ak}{M:List Int}(hn:M.Nodup)(hb:∀m∈M,a7 B m≠none):M.length≤B.length:=by
 have:=Cy M (B.map (·.1)) hn fun m hm=>by
  cases hf:a7 B m with
  |none=>exact absurd hf (hb m hm)
  |some x=>exact fA.2 ⟨_,dq hf,rfl⟩
 simpa using this
end Tm
namespace Tm
abbrev Met:=List (Int × Int)
end Tm
namespace Tm

theorem UG.sub {S:List Int}{N:Nat}{T T':List (Tm × Tm)}{B:ak}(h:UG S N T B)(hs:∀p∈T',p∈T):UG S N T' B :=
 ⟨h.chain,h.mo,fun p hp=>h.oi p (hs p hp),fun p hp=>h.st p (hs p hp),h.sb,h.Vc,h.vb,fun p hp=>h.vt p (hs p hp)⟩
end Tm
end aw

namespace aw
open Go
namespace Tm

mutual
theorem FI {σ:Int→Tm}{D:Nat}:∀ (t:Tm),(∀v∈cz t,depth (σ v)≤D)→depth (bZ σ t)≤depth t+D
 |mk k s n l,h=>by
  simp only[bZ];by_cases hk:k=1
  ·rw [if_pos hk];have:=h n (by simp[cz,hk]);omega
  ·rw [if_neg hk];have:=Cz l fun v hv=>h v (by simp[cz,hk,hv])
   simp only[depth];omega
theorem Cz {σ:Int→Tm}{D:Nat}:∀ (l:List Tm),(∀v∈ek l,depth (σ v)≤D)→eF (dt σ l)≤eF l+D
 |[],_=>by simp[dt,eF]
 |t::r,h=>by
  have h1:=FI t fun v hv=>h v (by simp[ek,hv])
  have h2:=Cz r fun v hv=>h v (by simp[ek,hv])
  simp only[dt,eF];omega
end

theorem CD {B:ak}{N:Nat}(h1:1≤N)(h:∀b∈B,depth b.2≤N):∀ (M:Nat) (t:Tm),depth (bn B M t)≤depth t+M * N
 |0,t=>by simp[bn]
 |M+1,t=>by
  simp only[bn];refine FI t fun v _=>?_
  rw[uF];split
  ·rename_i x hx;have h2:=CD h1 h M x;have h3:=h _ (dq hx);simp only at h3;omega
  ·simp only[vT,depth,eF];omega

theorem Uf {σ:Int→Tm}{t x:Tm}(hk:t.k≠1)(hx:x∈t.l):depth (bZ σ x)+1≤depth (bZ σ t):=by
 rw[jG hk,depth]
 have:∀l:List Tm,x∈l→depth (bZ σ x)≤eF (dt σ l):=fun l=>by
  induction l with
  |nil=>intro h;cases h
  |cons a l ih =>
   intro h;simp only[dt,eF];rcases eL.1 h with rfl |h
   ·omega
   ·have:=ih h;omega
 have:=this t.l hx;omega

structure eN (S:List Int) (N:Nat) (a0:Tm) (n:Nat) (T:List (Tm × Tm)) (B:ak) (cD:Met) (B':ak) (ok:Bool):Prop where
 run:mH false n T.reverse B cD B' ok
 ug:UG S N T B
 lev:∀ (i:Nat) (p:Tm × Tm),T[i]? = some p→∃l,i≤N * l∧∀σ,nU σ B→depth (bZ σ p.1)+l≤depth (bZ σ a0)
 fa:a0.bw=true
 sa:a0.size≤N
section
variable {S:List Int} {N:Nat} {a0:Tm} {n:Nat} {R T:List (Tm × Tm)} {x y:Tm} {B B':ak} {cD:Met} {ok:Bool}

theorem UG.Oe (h:UG S N T B):B.length≤S.length:=by
 have:=Cy (B.map (·.1)) S h.chain.nodup (fun v hv=>by
  obtain⟨c,hc,rfl⟩:=fA.1 hv;exact(h.vb c hc).1)
 simpa using this
theorem UG.perm (h:UG S N T B){T':List (Tm × Tm)}(hs:∀p,p∈T'→p∈T):UG S N T' B:=h.sub hs

theorem eN.len (h:eN S N a0 n T B cD B' ok):T.length≤N * (N+S.length * N)+1:=by
 obtain⟨σ,hs⟩:=h.ug.Vc;have hS:=Hq hs h.ug.chain h.ug.mo;have hv:=K8 hS h.ug.chain;have h1:1≤N:=by have:=size_pos a0;have:=h.sa;omega
 rcases Wj T with rfl |⟨R,p,rfl⟩
 ·simp
 obtain⟨l,g1,g2⟩:=h.lev R.length p aC;have g3:=g2 _ hv;rw[Cu hS h.fa]at g3;have g4:=CD h1 (B:=B) (fun b hb=>tP (oF _) (h.ug.sb b hb)) B.length a0;have g5:=oF a0;have g6:=h.sa;have g7:B.length * N≤S.length * N:=o7 _ h.ug.Oe;have g8:N * l≤N * (N+S.length * N):=Nat.mul_le_mul_left _ an;simp only[List.concat_eq_append,List.length_append,vL];omega

theorem eN.nil (h:eN S N a0 n [] B cD B' ok):B'=B∧ok=true:=by
 have:=h.run;simp only[List.reverse_nil]at this;cases this;exact⟨rfl,rfl⟩

theorem eN.pos (h:eN S N a0 n (R++[(x,y)]) B cD B' ok):∃m,n=m+1:=by
 have:=h.run;rw[P2]at this;cases this<;>exact⟨_,rfl⟩

theorem eN.first (ha:a0.bw=true)(hs:a0.size≤N){b0:Tm}(h:mH false n [(a0,b0)] B [] B' ok)(hU:UG S N [(a0,b0)] B):eN S N a0 n [(a0,b0)] B [] B' ok :=
 ⟨h,hU,fun i p hp=>by
  cases i with
  |zero=>simp at hp;subst hp;exact⟨0,cT _,fun σ _=>ef _⟩
  |succ i=>simp at hp,ha,hs⟩

theorem Ld (h:eN S N a0 n (R++[(x,y)]) B cD B' ok):∀ (i:Nat) (p:Tm × Tm),R[i]? = some p→∃l,i≤N * l∧∀σ,nU σ B→depth (bZ σ p.1)+l≤depth (bZ σ a0):=fun i p hp =>
 h.lev i p (by rw[jx (bC.1 hp).1];exact hp)

theorem eN.skip (h:eN S N a0 (n+1) (R++[(x,y)]) B cD B' ok)(hs:kH x y cD=true):eN S N a0 n R B cD B' ok:=by
 have hr:=h.run;rw[P2]at hr;have ht:=Ld h;have hg:=h.ug.perm (T':=R) (by simp +contextual);cases hr with
 |skip _ h1=>exact⟨h1,hg,ht,h.fa,h.sa⟩
 |same h1=>rw[hs]at h1;cases h1
 |cz h1=>rw[hs]at h1;cases h1
 |bind h1=>rw[hs]at h1;cases h1
 |kI h1=>rw[hs]at h1;cases h1
 |args h1=>rw[hs]at h1;cases h1

theorem eN.step (h:eN S N a0 (n+1) (R++[(x,y)]) B cD B' ok)(hs:kH x y cD=false) :
  ((aE B x).k=1→a7 B (aE B x).n=none)∧((aE B y).k=1→a7 B (aE B y).n=none)∧(aE B x).size≤N∧(aE B y).size≤N ∧
  ((aE B x).k=1∧(aE B y).k=1∧(aE B x).n=(aE B y).n→eN S N a0 n R B (lK x y cD) B' ok) ∧
  (¬ ((aE B x).k=1∧(aE B y).k=1∧(aE B x).n=(aE B y).n) →
   ((aE B x).k=1→(hH B (aE B x).n (aE B y)=true→B'=B∧ok=false)∧(hH B (aE B x).n (aE B y)=false→eN S N a0 n R (B++[((aE B x).n,aE B y)]) (lK x y cD) B' ok)) ∧
   (¬ (aE B x).k=1→((aE B y).k=1→(hH B (aE B y).n (aE B x)=true→B'=B∧ok=false)∧(hH B (aE B y).n (aE B x)=false→eN S N a0 n R (B++[((aE B y).n,aE B x)]) (lK x y cD) B' ok)) ∧
    (¬ (aE B y).k=1→(ku (aE B x) (aE B y)=true→B'=B∧ok=false)∧(ku (aE B x) (aE B y)=false→eN S N a0 n (R++(aE B x).l.zip (aE B y).l) B (lK x y cD) B' ok)))):=by
 have hr:=h.run;rw[P2]at hr;have ht:=Ld h;have hU:UG S N ((x,y)::R) B:=h.ug.perm (by simp +contextual [or_comm]);have YW:=h.lev R.length (x,y) aC;have h1:=hU.K9;have h2:=hU.La;have wx:∀σ,nU σ B→bZ σ (aE B x)=bZ σ x:=fun σ hσ=>gm hσ _ x
 have mr:=fun hx hy=>hU.args (sw:=true) hx hy
 have akA:=fun (u w:Tm) hv hp hk hw=>hU.bind (sw:=false) (u:=u) (w:=w) hv hp hk hw
 have akB:∀B1:ak,(∃X,B1=B++X)→∀ (i:Nat) (p:Tm × Tm),R[i]? = some p→∃l,i≤N * l∧∀σ,nU σ B1→depth (bZ σ p.1)+l≤depth (bZ σ a0):=fun B1 ⟨X,hX⟩ i p hp=>by
  obtain⟨l,g1,g2⟩:=ht i p hp;exact⟨l,g1,fun σ hσ=>g2 σ fun b hb=>hσ b (by rw[hX];simp[hb])⟩
 have targs:(aE B x).k≠1→∀ (i:Nat) (p:Tm × Tm),(R++(aE B x).l.zip (aE B y).l)[i]? = some p→∃l,i≤N * l∧∀σ,nU σ B→depth (bZ σ p.1)+l≤depth (bZ σ a0):=fun hx i p hp=>by
  by_cases hi:i<R.length
  ·rw[jx hi]at hp;exact ht i p hp
  ·rw [kR an] at hp;obtain⟨l,g1,g2⟩:=YW;have l7:=(bC.1 hp).1;rw[mA1]at l7;have Vd:=mh (aE B x).l;have hsz:=size_eq (aE B x);have hz:=h1.size;refine⟨l+1,by rw[Nat.mul_succ];omega,fun σ hσ=>?_⟩;have g3:=g2 σ hσ;simp only at g3;rw[← wx σ hσ]at g3;have g4:=Uf (σ:=σ) hx (Jf (gZ hp)).1;omega
 clear wx;generalize Le:aE B x=x' at *;generalize Of:aE B y=y' at *;have hR0:UG S N R B:=hU.tail;refine⟨h1.nd,h2.nd,h1.size,h2.size,fun hv=>?_,fun hv=>⟨fun hk=>?_,fun lJ=>⟨fun hk=>?_,fun xw=>?_⟩⟩⟩
 ·cases hr with
  |skip g=>rw[hs]at g;cases g
  |same _ _ g=>exact⟨g,hR0,ht,h.fa,h.sa⟩
  |cz _ g=>rw[Le,Of]at g;exact absurd hv g
  |bind _ g=>rw[Le,Of]at g;exact absurd hv g
  |kI _ g=>rw[Le]at g;exact absurd hv.1 g
  |args _ g=>rw[Le]at g;exact absurd hv.1 g
 ·have hp:il false x' y'=(x',y'):=by unfold il; rw [if_neg (by simp [hk])]
  cases hr with
  |skip g=>rw[hs]at g;cases g
  |same _ g=>rw[Le,Of]at g;exact absurd g hv
  |cz _ _ g _ gw =>
   rw[Le,Of,hp]at g;cases g;exact⟨fun _=>⟨rfl,rfl⟩,fun e=>by rw[gw]at e;cases e⟩
  |bind _ _ g _ gw gr =>
   rw[Le,Of,hp]at g;cases g;exact akz
  |kI _ g=>rw[Le]at g;exact absurd hk g
  |args _ g=>rw[Le]at g;exact absurd hk g
 ·have hp:il false x' y'=(y',x'):=by unfold il; rw [if_pos (by simp [hk,lJ])]
  cases hr with
  |skip g=>rw[hs]at g;cases g
  |same _ g=>rw[Le,Of]at g;exact absurd g hv
  |cz _ _ g _ gw =>
   rw[Le,Of,hp]at g;cases g;exact⟨fun _=>⟨rfl,rfl⟩,fun e=>by rw[gw]at e;cases e⟩
  |bind _ _ g _ gw gr =>
   rw[Le,Of,hp]at g;cases g;exact akz
  |kI _ _ g=>rw[Of]at g;exact absurd hk g
  |args _ _ g=>rw[Of]at g;exact absurd hk g
 ·have hp:il false x' y'=(x',y'):=by unfold il; rw [if_neg (by simp [xw])]
  cases hr with
  |skip g=>rw[hs]at g;cases g
  |same _ g=>rw[Le,Of]at g;exact absurd g hv
  |cz _ _ g gk=>rw[Le,Of,hp]at g;cases g;exact absurd gk lJ
  |bind _ _ g gk=>rw[Le,Of,hp]at g;cases g;exact absurd gk lJ
  |kI _ _ _ g =>
   rw[Le,Of]at g;exact⟨fun _=>⟨rfl,rfl⟩,fun e=>by rw[g]at e;cases e⟩
  |args _ _ _ g gr =>
   rw[Le,Of]at g gr;refine⟨fun e=>(by rw[g]at e;cases e),fun _=>⟨?_,(mr lJ xw).perm fun p hp=>?_,targs lJ,h.fa,h.sa⟩⟩
   ·rw[P2];exact gr
   ·rcases bW.1 hp with hp | hp
    ·exact bW.2 (.inr hp)
    ·exact bW.2 (.inl (r7.2 hp))
end

def ugF:Nat→List (Tm × Tm)→ak→Met→Option (ak × Bool)
 |0,_,_,_=>none
 |_+1,[],B,_=>some (B,true)
 |f+1,(x,y)::R,B,cD =>
  if kH x y cD then ugF f R B cD
  else if (aE B x).k=1∧(aE B y).k=1∧(aE B x).n=(aE B y).n then ugF f R B (lK x y cD)
  else if (il false (aE B x) (aE B y)).1.k=1 then (if hH B (il false (aE B x) (aE B y)).1.n (il false (aE B x) (aE B y)).2 then some (B,false) else ugF f R (B++[((il false (aE B x) (aE B y)).1.n,(il false (aE B x) (aE B y)).2)]) (lK x y cD))
  else if ku (aE B x) (aE B y) then some (B,false)
  else ugF f (D6 false (aE B x).l (aE B y).l++R) B (lK x y cD)

theorem wP:∀ (n:Nat) (T:List (Tm × Tm)) (B:ak) (cD:Met) (B':ak) (ok:Bool),ugF n T B cD=some (B',ok)→mH false n T B cD B' ok
 |0,_,_,_,_,_,h=>by cases h
 |f+1,[],B,cD,B',ok,h=>by simp only[ugF]at h;cases h;exact .done
 |f+1,(x,y)::R,B,cD,B',ok,h=>by
  simp only[ugF]at h;split at h
  ·rename_i hs;exact .skip hs (wP f _ _ _ _ _ h)
  rename_i hs;have fh:kH x y cD=false:=by simpa using hs
  split at h
  ·rename_i hv;exact .same fh hv (wP f _ _ _ _ _ h)
  rename_i hv;split at h
  ·rename_i hk;split at h
   ·rename_i hw;cases h;exact .cz fh hv rfl hk hw
   ·rename_i hw;exact .bind fh hv (u:=(il false (aE B x) (aE B y)).1) (w:=(il false (aE B x) (aE B y)).2) rfl hk (by simpa using hw) (wP f _ _ _ _ _ h)
  rename_i hk;obtain⟨hx,hy⟩:=FG (u:=(il false (aE B x) (aE B y)).1) (w:=(il false (aE B x) (aE B y)).2) rfl hk;split at h
  ·rename_i hc;cases h;exact .kI fh hx hy hc
  ·rename_i hc;exact .args fh hx hy PV (wP f _ _ _ _ _ h)
end Tm
end aw

namespace aw
open Go

structure Td where
 g:Gl
 sh:Nat
 to:Nat

def gn:List Td→D
 |[]=>.v (.pointer none)
 |x::r=>.bG (Gl.row x.g++[.v (.int .i64 x.sh),.v (.int .i64 x.to),gn r])
def bJ (l:List Gl)(sh to:Nat)(r:List Td):List Td:=l.map (fun g=>⟨g,sh,to⟩)++r

structure Tr where
 mark:Nat
 az:Nat
 call:Tm
 oW:Nat
 tY:List Td
 other:Bool
def Tr.row (t:Tr):List D:=[.v (.int .i64 t.mark),.v (.int .i64 t.az),.v (.int .i64 t.call.k),.v (.string t.call.s),.v (.int .i64 t.call.n),.sl (Tm.aa t.call.l),.v (.int .i64 t.oW),gn t.tY,.v (.bool t.other)]

structure Ev where
 k:Int
 tx:ByteArray
 ts:List Tm
 c:Int
def Ev.row (e:Ev):List D:=[.v (.int .i64 e.k),.v (.string e.tx),.sl (Tm.aa e.ts),.v (.int .i64 e.c)]
def r8:Ev:=⟨4,ByteArray.empty,[],0⟩
def ko:Ev:=⟨5,ByteArray.empty,[],0⟩
def kJ (c:Int):Ev:=⟨3,ByteArray.empty,[],c⟩
def nI (l:List Tm):Ev:=⟨1,ByteArray.empty,l,0⟩
def r9 (t:Bs):Ev:=⟨2,Tx t,[],0⟩

structure Mo where
 B:ak
 az:Nat
 ag:List Tr
 now:List Td
 done:Nat
 aD:List Ev

def YX (B:ak)(a b:Tm)(B':ak):Prop:=∃n,Tm.mH false n [(a,b)] B [] B' true

open Classical in
noncomputable def sd (B:ak) (a b:Tm):Option ak:=if h:∃B',YX B a b B' then some h.choose else none

noncomputable def fP (B:ak):List Tm→Option ak
 |a::b::r=>match sd B a b with
  |some B'=>fP B' r
  |none=>none
 |_=>some B
def dz (d:Nat)(t:Tm):Tm:=Tm.fS (fun n=>n+d) t
def eH (B:ak)(t:Tm):Tm × Int:=DU (bn B B.length t)
def aM:Gl:=.mk 0 aJ [] [] []
def dK:Gl:=.mk 2 (gG (Tx [102,97,105,108])) [] [] []

noncomputable def je (m:Mo) (t:Tr):Nat→List Cs→Option Mo
 |_,[]=>none
 |i,c::r =>
  if c.head.s=t.call.s∧c.head.l.length=t.call.l.length then
   match sd m.B t.call (dz m.az c.head) with
   |some B'=>some { m with B:=B',ag:=m.ag++[{ t with oW:=i+1 }],now:=bJ c.body m.az m.ag.length t.tY,az:=m.az+c.vars.toNat }
   |none=>je m t (i+1) r
  else je m t (i+1) r

noncomputable def jh (P:List Cs):Nat→Mo→Mo × Bool
 |0,m=>({ m with aD:=m.aD++[r8] },false)
 |n+1,m=>match m.ag.getLast? with
  |none=>({ m with aD:=m.aD++[r8] },false)
  |some t =>
   if t.other then ({ m with ag:=m.ag.dropLast,B:=m.B.take t.mark,az:=t.az,now:=t.tY },true)
   else match je { m with ag:=m.ag.dropLast,B:=m.B.take t.mark,az:=t.az } t t.oW (P.drop t.oW) with
    |some m'=>(m',true)
    |none=>jh P n { m with ag:=m.ag.dropLast,B:=m.B.take t.mark,az:=t.az }
noncomputable def ep (P:List Cs) (m:Mo):Mo × Bool:=jh P m.ag.length m

noncomputable def jf (P:List Cs) (head:Tm) (m:Mo):Mo × Bool :=
 if head.l.any (fun x=>(eH m.B x).2≠0) then ({ m with aD:=m.aD++[kJ 3] },false)
 else ep P { m with aD:=m.aD++[nI (dH (head.l.map fun x=>(eH m.B x).1)).1] }

noncomputable def oo (P:List Cs) (m:Mo) (t:Tm):Mo × Bool :=
 if t.l.any (fun x=>(eH m.B x).2≠0) then ({ m with aD:=m.aD++[kJ 3] },false)
 else
  let a:=dR t.s (t.l.map fun x=>(eH m.B x).1) m.az
  if a.e≠0 then ({ m with aD:=m.aD++[kJ a.e] },false)
  else if a.h=false then ep P m
  else if a.ap then (match fP m.B a.al with
   |some _=>ep P m
   |none=>(m,true))
  else match fP m.B a.al with
   |none=>ep P m
   |some B'=>({ m with B:=B',az:=a.nx.toNat,aD:=if a.tx=[] then m.aD else m.aD++[r9 a.tx] },true)

def Hr (m:Mo)(x:Td)(other cE:List Td):Mo :=
 { m with ag:=m.ag++[⟨m.B.length,m.az,aJ,0,other,true⟩],now:=bJ x.g.a x.sh m.ag.length (⟨aM,0,m.ag.length⟩::cE) }

noncomputable def eh (P:List Cs) (head:Tm) (ab:Nat) (m:Mo):Mo × Bool :=
 match m.now with
 |[]=>jf P head m
 |x::r =>
  let m:={ m with now:=r }
  if x.g.k=0∨x.g.k=3 then ({ m with ag:=m.ag.take x.to },true)
  else if x.g.k=2 then oo P m (dz x.sh x.g.t)
  else if x.g.k=4 then (Hr m x (bJ x.g.c x.sh x.to r) (bJ x.g.b x.sh x.to r),true)
  else if x.g.k=5 then (Hr m x r (bJ [dK] 0 0 []),true)
  else if x.g.k=1 then
   if ab≤m.done then ({ m with aD:=m.aD++[ko] },false)
   else match je { m with done:=m.done+1 } ⟨m.B.length,m.az,dz x.sh x.g.t,0,r,false⟩ 0 P with
    |some m'=>(m',true)
    |none=>ep P { m with done:=m.done+1 }
  else (m,true)

noncomputable def oQ (P:List Cs) (head:Tm) (ab:Nat):Nat→Mo→Mo × Bool
 |0,m=>(m,true)
 |n+1,m=>if (eh P head ab m).2 then oQ P head ab n (eh P head ab m).1 else ((eh P head ab m).1,false)
end aw

namespace aw
open Go

variable{l:List Tm}{g:Int→Int}{t:Tm}
theorem wQ(t:Tm):t.Fit↔(jt t.k∧jt t.n)∧∀x∈t.l,x.Fit:=by
 constructor
 ·intro h;refine⟨h 0 (0,t) PM,fun x hx d e he=>h (d - 1) e ?_⟩;rw[Tm.kr];exact Sw _ (Tm.vG hx agj)
 ·rintro ⟨h1,h2⟩ d e he;rw[Tm.kr]at he;rcases eL.1 he with rfl |he
  ·exact h1
  ·obtain ⟨x,hx,he⟩:=Tm.wq he;exact h2 x hx _ e he
theorem se{k n:Int}{s:ByteArray}:(Tm.mk k s n l).Fit↔(jt k∧jt n)∧∀x∈l,x.Fit:=wQ _

theorem Ug(h:t.bw=true)(hk:t.k=1):t.l=[]∧t.s=ByteArray.empty∧0≤t.n∧t.n<1000000:=by
 rw[Tm.px]at h;simp only[aV,Tm.mu,if_pos hk,decide_eq_true_eq,Tm.bo,beq_iff_eq]at h;refine⟨jy.1 an,h.2.1.2,h.2.1.1.1,h.2.1.1.2⟩

theorem FJ{t x:Tm}(h:t.bw=true)(hx:x∈t.l):x.bw=true:=by
 rw[Tm.px]at h;simp only[aV]at h;exact Tm.fN.1 h.1.2 x hx
theorem qD(t:Tm):Tm.cz t=if t.k=1 then [t.n] else Tm.ek t.l:=by cases t;rw[Tm.cz];rfl
theorem sf(g:Int→Int)(t:Tm):Tm.fS g t=.mk t.k t.s (if t.k=1 then g t.n else t.n) (Tm.dj g t.l):=by cases t;rw[Tm.fS];rfl
theorem CE{y:Tm}:y∈Tm.dj g l↔∃x∈l,Tm.fS g x=y:=by rw[Tm.jQ,fA]

theorem wR{x:Tm}(hx:x∈l){v:Int}(hv:v∈Tm.cz x):v∈Tm.ek l:=by
 induction l with
 |nil=>cases hx
 |cons y l ih =>
  simp only[Tm.ek,bW];rcases eL.1 hx with rfl |hx
  ·exact .inl hv
  ·exact .inr (ih hx)

theorem YY(t:Tm)(hr:t.bw=true)(h:t.Fit)(hg:∀v∈Tm.cz t,jt (g v)):(Tm.fS g t).Fit:=by
 induction t using Tm.ind with
 |_ t ih =>
 rw[sf,se];rw[wQ]at h;by_cases hk:t.k=1
 ·obtain ⟨hl,_⟩:=Ug hr hk;rw[if_pos hk,hl];exact⟨⟨h.1.1,hg _ (by rw[qD,if_pos hk];simp)⟩,by simp[Tm.dj]⟩
 ·rw [if_neg hk];refine⟨h.1,fun y hy=>?_⟩;obtain⟨x,hx,rfl⟩:=CE.1 hy;exact ih x hx (FJ hr hx) (h.2 x hx) fun v hv=>hg v (by rw[qD,if_neg hk];exact wR hx hv)

theorem Uh{σ:Int→Tm}{y:Tm}:y∈Tm.dt σ l↔∃x∈l,Tm.bZ σ x=y:=by
 induction l with
 |nil=>simp[Tm.dt]
 |cons a l ih =>
  simp only[Tm.dt,eL,ih];constructor
  ·rintro (rfl | ⟨x,hx,rfl⟩)
   ·exact⟨a,.inl rfl,rfl⟩
   ·exact⟨x,.inr hx,rfl⟩
  ·rintro ⟨x,rfl | hx,rfl⟩
   ·exact .inl rfl
   ·exact .inr ⟨x,hx,rfl⟩

theorem acy{σ:Int→Tm}(t:Tm)(h:t.Fit)(hg:∀v∈Tm.cz t,(σ v).Fit):(Tm.bZ σ t).Fit:=by
 induction t using Tm.ind with
 |_ t ih =>
 by_cases hk:t.k=1
 ·rw[Tm.pS hk];exact hg _ (by rw[qD,if_pos hk];simp)
 ·rw [Tm.jG hk,se];rw[wQ]at h;refine⟨h.1,fun y hy=>?_⟩;obtain⟨x,hx,rfl⟩:=Uh.1 hy;exact ih x hx (h.2 x hx) fun v hv=>hg v (by rw[qD,if_neg hk];exact wR hx hv)

theorem Hs(h:t.bw=true):FwT t:=fun d e he=>by
 have h1:=(Tm.wu t d).2 h e he;rw[Tm.GN]at h1;simp only[aV,Tm.mu]at h1;have h2:=h1.2;split at h2
 ·simp only [aV,Tm.bo] at h2;rw[h2.1.2];decide
 ·split at h2
  ·simp only [aV,Tm.bo] at h2;rw[h2.1];decide
  ·simp only [aV,decide_eq_true_eq] at h2;have:=h2.1.2;omega

structure GT (t:Tm):Prop where
 r:t.bS=true
 f:t.Fit
theorem GT.fair(h:GT t):t.bw=true:=(Tm.dF.1 h.r).1
theorem GT.size{t:Tm}(h:GT t):t.size≤3000:=(Tm.dF.1 h.r).2.1

theorem GT.bO(h:GT t)(hg:∀v∈Tm.cz t,0≤g v∧g v<1000000):GT (Tm.fS g t) :=
 ⟨Tm.Ni h.r hg,YY t h.fair h.f fun v hv=>by have:=hg v hv;unfold jt;omega⟩

theorem GT.kid{t x:Tm}(h:GT t)(hx:x∈t.l):GT x:=by
 have h1:=Tm.dF.1 h.r;have h2:=Tm.ct hx;have h3:=Tm.size_eq t;have h4:=Tm.J3 t
 have h5:∀l:List Tm,x∈l→x.depth≤Tm.eF l:=fun l=>by
  induction l with
  |nil=>intro h;cases h
  |cons a l ih =>
   intro h;simp only[Tm.eF];rcases eL.1 h with rfl |h
   ·omega
   ·have:=ih h;omega
 have:=h5 _ hx;exact⟨Tm.dF.2 ⟨FJ h.fair hx,by omega,by omega⟩,((wQ t).1 h.f).2 x hx⟩

theorem Og(l:List Tm):(bH l).length≤Tm.ay l:=by
 unfold bH
 have key:∀ (l:List Tm) (a:List Int),(l.foldl (fun a t=>(t.gV 1).foldl fJ a) a).length≤a.length+Tm.ay l:=fun l=>by
  induction l with
  |nil=>intro a;simp[Tm.ay]
  |cons t l ih =>
   intro a;rw[vI];have h1:=ih ((t.gV 1).foldl fJ a);have h2:=Fv (t.gV 1) a;have h3:=Tm.lE t 1;simp only[Tm.ay];omega
 have:=key l [];simpa using this

theorem Oh(h:∀t∈l,GT t)(hs:Tm.ay l<1000000):∀x∈(dH l).1,GT x:=by
 have hr:∀t∈l,t.bS=true:=fun t ht=>(h t ht).r
 have Bp:Tm.cM l=true:=Tm.fN.2 fun t ht=>(h t ht).fair
 unfold dH;rw[if_pos (Np.2 hr)];intro x hx;obtain⟨t,ht,rfl⟩:=CE.1 hx;refine(h t ht).bO fun v hv=>?_
 obtain⟨_,h1,h2⟩:=No Bp (wR ht hv);have h3:=Og l;omega
end aw

namespace Go.Proofs.YtaagocopollacaaGreatDoor
open Go aw Go.Proofs
theorem nJ {t:Tm}(h:t.bS=true):eu t:=TY (Tm.dF.1 h).1 (by have:=(Tm.dF.1 h).2.1;omega)
def ajB:Nat→cC:=fun f=>bif Nat.beq f 149 then .still else bif Nat.beq f 145 then .still else bif Nat.beq f 147 then .still else bif Nat.beq f 150 then .still else bif Nat.beq f 154 then .still else bif Nat.beq f 141 then .still else .ji

theorem vf (Y:YP)(l:List Tm)(nx e:Int)(t:Tm)(ht:eu t)(hf:t.Fit):aU Tryz.prog Y 140 [.lo 0 0,t.av] (jR l [] false ByteArray.empty nx e) (iV (bt t).1) (jR l [] false ByteArray.empty nx (nD e (bt t).2)):=by
 refine mH7 Tryz.func140 fun w S φ hg=>?_
 refine aF (Ye t hf ht.1 (ht.2 1)) ?_;refine aj (fun h=>?_) fun h=>?_
 ·refine ai hg.ok hg.cm hg.wide hg.Y [0] (jR l [] false ByteArray.empty nx (nD e (bt t).2)++[aP t]) (tn Y l [] false ByteArray.empty nx e (bt t).2) cF rfl rfl rfl rfl rfl rfl rfl rfl (af ?_);exact aK hg 1 5 cP rfl rfl (dL _ l [] false ByteArray.empty nx (nD e (bt t).2))
 ·have h:(bt t).2=0:=by simpa using h
  have hb:nD e (bt t).2=e:=by unfold nD;split<;>omega
  rw[hb];exact aK hg 1 5 cP rfl rfl (dL _ l [] false ByteArray.empty nx e)

theorem FK (Y:YP)(a b:Tm)(nx:Int)(ha:eu a):aU Tryz.prog Y 129 [.lo 0 0] (jR [a,b] [] false ByteArray.empty nx 0) (bV (a.same b)) (jR [a,b] [] false ByteArray.empty nx 0):=by
 refine mH7 Tryz.func129 fun w S φ hg=>?_
 refine R3 ?_;refine R4 ?_;refine aF (G5 a b ha.1) ?_;exact aed

def odE (e:Int)(a b:Tm):Int:=if zN a b=2 then nD e 4 else e

theorem Oi (Y:YP)(a b:Tm)(nx:Int)(ha:a.bS=true)(hb:b.bS=true):aU Tryz.prog Y 123 [.lo 0 0] (jR [a,b] [] false ByteArray.empty nx 0) (iV (Tm.BB a b)) (jR [a,b] [] false ByteArray.empty nx (odE 0 a b)):=by
 have hba:=nJ ha;have hbb:=nJ hb;have hc:(nC a b).1=Tm.BB a b:=by unfold nC;rw[cN,cN,ha,hb];rfl
 refine mH7 Tryz.func123 fun w S φ hg=>?_
 refine R3 ?_;refine R4 ?_;refine aF (NY a b hba.1) ?_;refine iD (fun h=>?_) fun h=>?_
 ·have h:zN a b=2:=by simpa using h
  rw[odE,if_pos h];refine af ?_;refine ai hg.ok hg.cm hg.wide hg.Y [0] (jR [a,b] [] false ByteArray.empty nx (nD 0 4)) (tn Y [a,b] [] false ByteArray.empty nx 0 4) cF rfl rfl rfl rfl rfl rfl rfl rfl (af ?_);refine R3 ?_;refine R4 ?_;refine aF (Cd a b hba hbb) ?_;rw[hc];exact aK hg 1 5 cP rfl rfl (dL _ [a,b] [] false ByteArray.empty nx (nD 0 4))
 ·have h:¬ zN a b=2:=by simpa using h
  rw[odE,if_neg h];refine af ?_;refine R3 ?_;refine R4 ?_;refine aF (Cd a b hba hbb) ?_;rw[hc];exact aed

theorem acz (Y:YP)(a b:Tm)(nx:Int)(ha:eu a)(hb:eu b)(hf:b.Fit):y7 Y 135 [a,b] nx (Ce nx a b):=by
 refine mH7 Tryz.func135 fun w S φ hg=>?_
 refine R4 ?_;refine ai hg.ok hg.cm hg.wide hg.Y [0] (jR [a,b] [] false ByteArray.empty nx (nD 0 (bt b).2)) (vf Y [a,b] nx 0 b hb hf) cF rfl rfl rfl rfl rfl rfl rfl rfl (af ?_);have hb0:nD 0 (bt b).2=(bt b).2:=by unfold nD;rw[if_pos rfl]
 rw[hb0];refine aj (fun h=>?_) fun h=>?_
 ·have h:(bt b).2=0:=by simpa using h
  rw[show Ce nx a b=bX nx [a,gj (bt b).1] by unfold Ce;rw[if_neg (by simp[h])]];rw[h];refine R3 ?_;refine aF (Cf (bt b).1) ?_
  have Hi:∀v∈[a,gj (bt b).1],eu v:=fun v hv=>by
   simp only[eL,nW,or_false]at hv;rcases hv with rfl |rfl
   ·exact ha
   ·exact Ch _
  refine ai hg.ok hg.cm hg.wide hg.Y [0] (jR [a,b] (bX nx [a,gj (bt b).1]).al false ByteArray.empty (bX nx [a,gj (bt b).1]).nx (bX nx [a,gj (bt b).1]).e) (gI Y [a,b] [a,gj (bt b).1] false nx Hi aC aC) cF rfl rfl rfl rfl rfl rfl rfl rfl (af ?_);exact aK hg 1 5 cP rfl rfl (gH _ [a,b] (bX nx [a,gj (bt b).1]) (jN _ _) (jO _ _))
 ·have h:¬ (bt b).2=0:=by simpa using h
  rw[show Ce nx a b=eG nx (bt b).2 by unfold Ce;rw[if_pos h]];exact aK hg 1 5 cP rfl rfl (dL _ [a,b] [] false ByteArray.empty nx (bt b).2)

theorem Oj (Y:YP)(a b:Tm)(nx:Int)(ha:a.bS=true)(hb:b.bS=true):y7 Y 128 [a,b] nx ⟨true,[a,b],true,[],nx,0⟩:=by
 have Hi:∀v∈[a,b],eu v:=fun v hv=>by
  simp only[eL,nW,or_false]at hv;rcases hv with rfl |rfl
  ·exact nJ ha
  ·exact nJ hb
 have hk:bX nx [a,b]=⟨true,[a,b],false,[],nx,0⟩:=by unfold bX;rw[if_pos (by simp[cN,ha,hb])]
 have BQ:=gI Y [a,b] [a,b] true nx Hi aC aC;rw[hk]at BQ;refine aU.ej (pf:=ajB) gK mixed Tryz.func128 rfl cX cX (by simp[Tryz.ntmps128]) (by simp[jR]) fun w S φ hg=>?_
 refine gv hg.ok 6 rfl rfl ?_;refine vB (jR [a,b] [] true ByteArray.empty nx 0) ⟨⟨.refl _,.refl _,.refl _,bM.tt,.refl _,.refl _,.refl _,trivial⟩,trivial⟩ rfl (af ?_);refine R3 ?_;refine R4 ?_;refine ai hg.ok hg.cm hg.wide hg.Y [0] (jR [a,b] [a,b] true ByteArray.empty nx 0) (BQ) cF rfl rfl rfl rfl rfl rfl rfl rfl (af ?_);exact aK hg 1 5 cP rfl rfl (dL _ [a,b] [a,b] true ByteArray.empty nx 0)

theorem Ol (Y:YP)(a:Tm)(nx:Int)(ha:a.bS=true)(hf:a.Fit):y7 Y 125 [a] nx (Af nx (((dH [a]).1[0]?).getD aJ)):=by
 have hba:=nJ ha;have dw:(dH [a]).2.2=0:=by unfold dH;rw[if_pos (by simp[cN,ha])]
 have aic:=uh [a] (by simp only[Tm.ay];have:=hba.1;omega) (fun t ht=>by rw[dh.1 ht];exact hba.2 1)
 obtain⟨x,hx⟩:∃x,(dH [a]).1[0]? = some x:=by
  unfold dH;rw[if_pos (by simp[cN,ha])];exact⟨_,rfl⟩
 have Vi:GT x:=Oh (l:=[a]) (fun t ht=>by rw[dh.1 ht];exact⟨ha,hf⟩) (by have:=(Tm.dF.1 ha).2.1;simp only[Tm.ay];omega) x (gZ hx);rw[hx,Option.getD_some];generalize dH [a]=M at aic dw hx;obtain⟨L,v,e⟩:=M;simp only at aic dw hx;have Xr:=TW x ⟨Vi.f,Hs Vi.fair,by have:=Vi.size;omega⟩;have hrt:c0 x=true:=by rw[cN];exact Vi.r
 refine mH7 Tryz.func125 fun w S φ hg=>?_
 refine aF (aic) ?_;refine dN hg.ok rfl rfl rfl rfl rfl rfl fi (Tm.aB hx) rfl (af ?_);refine aF (Xr) ?_;unfold rV Af;rw[if_pos hrt];by_cases hl:(fC [] (uz x)).length≤8000
 ·rw [if_pos hl,if_pos hl];refine gu ?_;exact lI
 ·rw [if_neg hl,if_neg hl];refine oS ?_;refine ai hg.ok hg.cm hg.wide hg.Y [0] (jR [a] [] false ByteArray.empty nx 3) (km Y [a] nx 3) cF rfl rfl rfl rfl rfl rfl rfl rfl (af ?_);exact aK hg 1 5 cP rfl rfl (dL _ [a] [] false ByteArray.empty nx 3)
def nS (f:Nat):D:=.v (.func (.func f) #[] #[])

theorem bM.nS (f:Nat):bM (.bU f [] []) (.d (Go.Proofs.YtaagocopollacaaGreatDoor.nS f)):=fun S w φ v h=>by
 simp only[RV]at h ⊢;obtain⟨va,vc,rfl,h1,h2⟩:=h;cases va with
 |nil=>cases vc with
  |nil=>exact .v _
  |cons x l=>simp[aW]at h2
 |cons x l=>simp[aW]at h1

theorem bM.apq (f:Nat):bM (.d (Go.Proofs.YtaagocopollacaaGreatDoor.nS f)) (.bU f [] []):=fun S w φ v h=>by
 simp only[RV]at h ⊢;cases h;exact⟨[],[],rfl,by simp[aW],by simp[aW]⟩
def Ht (l al:List Tm)(ap:Bool)(tx:ByteArray)(nx e:Int):List Ob:=jR l al ap tx nx e++[.box [.lo 0 0]]
theorem o5 (o:List Ob)(l al:List Tm)(ap:Bool)(tx:ByteArray)(nx e:Int):(Ht l al ap tx nx e).map (aQ (bQ false 2 o 5))=Ht l al ap tx nx e:=by cases al<;>rfl
theorem Ui (o:List Ob)(l:List Tm)(k:Ak)(h1:k.ap=false)(h2:k.tx=[]):(Ht l k.al false ByteArray.empty k.nx k.e).map (aQ (bQ false 2 o 5))=Ht l k.al k.ap (Tx k.tx) k.nx k.e:=by rw[h1,h2];exact o5 o _ _ _ _ _ _

theorem jY (b:Bool):bD Tryz.prog 119 [bV b] (.bU 120 [] [.d (.bG [.v (.bool b)])]):=by
 refine oY Tryz.func119 fun w S hg=>?_
 refine cq ?_;rfl

theorem wS (b:Bool):bD Tryz.prog 120 [.d (.bG [.v (.bool b)])] (bV b):=by
 refine oY Tryz.func120 fun w S hg=>?_
 refine cq ?_;rfl

theorem vQ (Y:YP)(f:Nat)(l:List Tm)(nx:Int):aU Tryz.prog Y 121 [.d (nS f),.lo 1 0] (Ht l [] false ByteArray.empty nx 0) (.bU 122 [] [.lo 1 0,.d (.bG [nS f])]) (Ht l [] false ByteArray.empty nx 0):=by
 refine uw Tryz.func121 fun w S φ hg=>?_
 exact aK hg 2 5 cP rfl rfl (o5 _ l [] false ByteArray.empty nx 0)

def YZ (f:Nat)(is:Int→Bool):Prop:=∀n:Int,bD Tryz.prog f [iV n] (bV (is n))

theorem Hu (Y:YP)(f:Nat)(is:Int→Bool)(hf:YZ f is)(a b:Tm)(nx:Int)(ha:a.bS=true)(hb:b.bS=true):aU Tryz.prog Y 122 [.lo 1 0,.d (.bG [nS f])] (Ht [a,b] [] false ByteArray.empty nx 0) (bV (jd nx a b is).h) (Ht [a,b] (jd nx a b is).al (jd nx a b is).ap (Tx (jd nx a b is).tx) (jd nx a b is).nx (jd nx a b is).e):=by
 refine uw Tryz.func122 fun w S φ hg=>?_
 refine ai hg.ok hg.cm hg.wide hg.Y [0] (Ht [a,b] [] false ByteArray.empty nx (odE 0 a b)) (Oi Y a b nx ha hb) cF rfl rfl rfl rfl rfl rfl rfl rfl (af ?_);unfold jd odE;by_cases hd:zN a b=2
 ·rw [if_pos hd,if_pos hd];refine en hg.ok rfl rfl (by simp[nD]) rfl rfl ?_;exact aK hg 2 5 cP rfl rfl (o5 _ [a,b] [] false ByteArray.empty nx 4)
 ·rw [if_neg hd,if_neg hd];refine qY rfl rfl (fun _=>?_) (fun h=>absurd h aC);refine af ?_;refine gN 12 rfl (bM.apq f) ?_;refine aF (hf (Tm.BB a b)) ?_;exact VG

def lzA (l:List Tm):AV:=.d (.bG [.sl (Tm.aa (l++[aJ,aJ]))])
abbrev Lf (Y:YP) (f:Nat) (abh:List AV) (l:List Tm) (nx:Int) (k:Ak):Prop:=aU Tryz.prog Y f abh (Ht l [] false ByteArray.empty nx 0) (bV k.h) (Ht l k.al k.ap (Tx k.tx) k.nx k.e)

theorem amB (Y:YP)(l:List Tm)(nx:Int):Lf Y 124 [.lo 1 0] l nx ⟨true,[],false,[10],nx,0⟩:=by
 refine uw Tryz.func124 fun w S φ hg=>?_
 exact aK hg 2 5 cP rfl rfl rfl

theorem amC (Y:YP)(a b:Tm)(nx:Int)(ha:eu a)(hb:eu b):Lf Y 126 [.lo 1 0,lzA [a,b]] [a,b] nx (bX nx [a,b]):=by
 have Hi:∀v∈[a,b],eu v:=fun v hv=>by
  simp only[eL,nW,or_false]at hv;rcases hv with rfl |rfl<;>assumption
 refine uw Tryz.func126 fun w S φ hg=>?_
 refine adM ?_;refine adN ?_;refine ai hg.ok hg.cm hg.wide hg.Y [0] (Ht [a,b] (bX nx [a,b]).al false ByteArray.empty (bX nx [a,b]).nx (bX nx [a,b]).e) (gI Y [a,b] [a,b] false nx Hi aC aC) cF rfl rfl rfl rfl rfl rfl rfl rfl (af ?_);exact aK hg 2 5 cP rfl rfl (Ui _ [a,b] (bX nx [a,b]) (jN _ _) (jO _ _))

theorem Y0 (Y:YP)(a b:Tm)(nx:Int)(ha:eu a):Lf Y 130 [.lo 1 0] [a,b] nx (mg nx (!a.same b)):=by
 refine uw Tryz.func130 fun w S φ hg=>?_
 refine ai hg.ok hg.cm hg.wide hg.Y [0] (Ht [a,b] [] false ByteArray.empty nx 0) (FK Y a b nx ha) cF rfl rfl rfl rfl rfl rfl rfl rfl (af ?_);exact VG

theorem acA:YZ 131 fun n=>decide (n<0):=fun n=>by
 refine oY Tryz.func131 fun w S hg=>?_
 refine cq ?_;rfl

theorem acB:YZ 132 fun n=>decide (n > 0):=fun n=>by
 refine oY Tryz.func132 fun w S hg=>?_
 refine cq ?_;rfl

theorem acC:YZ 133 fun n=>decide (n≤0):=fun n=>by
 refine oY Tryz.func133 fun w S hg=>?_
 refine cq ?_;rfl

theorem acD:YZ 134 fun n=>decide (n ≥ 0):=fun n=>by
 refine oY Tryz.func134 fun w S hg=>?_
 refine cq ?_;rfl

theorem yp (Y:YP)(s:ByteArray)(a b:Tm)(nx:Int)(ha:eu a)(hb:eu b)(fa:a.Fit)(fb:b.Fit):Lf Y 139 [.lo 1 0,lzA [a,b],.d (.bG [.v (.string s)])] [a,b] nx (Q9 nx s a b):=by
 have hb0:∀c,nD 0 c=c:=fun c=>by unfold nD;rw[if_pos rfl]
 refine mH7 Tryz.func139 fun w S φ hg=>?_
 refine adM ?_;refine ai hg.ok hg.cm hg.wide hg.Y [0] (Ht [a,b] [] false ByteArray.empty nx (nD 0 (bt a).2)) (vf Y [a,b] nx 0 a ha fa) cF rfl rfl rfl rfl rfl rfl rfl rfl (af ?_);rw[hb0];unfold Q9;refine aj (fun h1=>?_) fun h1=>?_
 ·have h1:(bt a).2≠0:=by simpa using h1
  rw[if_pos h1];exact aK hg 2 5 cP rfl rfl (o5 _ [a,b] [] false ByteArray.empty nx (bt a).2)
 have h1:¬ (bt a).2≠0:=by simpa using h1
 rw[if_neg h1];have h1:(bt a).2=0:=by omega
 rw[h1];refine adN ?_;refine ai hg.ok hg.cm hg.wide hg.Y [0] (Ht [a,b] [] false ByteArray.empty nx (nD 0 (bt b).2)) (vf Y [a,b] nx 0 b hb fb) cF rfl rfl rfl rfl rfl rfl rfl rfl (af ?_);rw[hb0];refine aF (Kr s (bt a).1 (bt b).1) ?_;refine aj (fun h2=>?_) fun h2=>?_
 ·have h2:(bt b).2=0:=by simpa using h2
  rw[if_neg (by simp[h2]),h2];exact VG
 ·have h2:¬ (bt b).2=0:=by simpa using h2
  rw[if_pos h2];exact aK hg 2 5 cP rfl rfl (o5 _ [a,b] [] false ByteArray.empty nx (bt b).2)
end Go.Proofs.YtaagocopollacaaGreatDoor

namespace aw
open Go Go.RowKit Go.MapKept

mutual
def pU (i:Nat) (ds:List D):AV→AV
 | .ow j t=>bif Nat.beq j i then .any else .ow j t
 | .el j t r o=>bif Nat.beq j i then .any else .el j t r o
 | .vw j t r=>bif Nat.beq j i then .any else .vw j t r
 | .lo j o=>bif Nat.beq j i then .d (.bG (ds.drop o)) else .lo j o
 | .mp j=>bif Nat.beq j i then .any else .mp j
 | .yl j=>bif Nat.beq j i then .any else .yl j
 | .agg l=>.agg (za i ds l)
 | .cH l=>.cH (za i ds l)
 | .bU f a c=>.bU f (za i ds a) (za i ds c)
 | .any=>.any
 | .tt=>.tt
 | .ff=>.ff
 | .d x=>.d x
 | .fs r=>.fs r
def za (i:Nat) (ds:List D):List AV→List AV
 |[]=>[]
 |x::l=>pU i ds x::za i ds l
end

mutual
theorem Rh {S S':Nat→Prop}{w:World}{φ φ':List bB}{i:Nat}{ds:List D}(hk:dE S w S' w)(hp:∀j,j≠i→φ'[j]? = φ[j]?)(ho:∀off v,RV S w φ (.lo i off) v→Rd S' w (.bG (ds.drop off)) v) :
  ∀ (x:AV) (v:Value),RV S w φ x v→RV S' w φ' (pU i ds x) v
 | .any,_,_=>by simp[RV,pU]
 | .tt,_,h=>by simpa[RV,pU]using h
 | .ff,_,h=>by simpa[RV,pU]using h
 | .d x,v,h=>by simp only[RV,pU]at h ⊢;exact h.mono hk
 | .fs aa,v,h=>by simp only[RV,pU]at h ⊢;exact⟨h.1.mono hk,h.2⟩
 | .agg l,v,h=>by
  simp only[RV,pU]at h ⊢;obtain⟨cs,h1,h2⟩:=h;exact⟨cs,h1,si hk hp ho l cs h2⟩
 | .lo j off,v,h=>by
  simp only[pU];cases hj:Nat.beq j i
  ·have:j≠i:=fun e=>by subst e; simp at hj
   simp only[cond_false];simp only[RV]at h ⊢;rw[hp j this];exact h
  ·have:=cp hj; subst this;simp only[cond_true];have:=ho off v h;simpa only[RV]using this
 | .el j t r o,v,h=>by
  simp only[pU];cases hj:Nat.beq j i
  ·have:j≠i:=fun e=>by subst e; simp at hj
   simp only[RV,cond_false]at h ⊢;rw[hp j this];exact h
  ·simp[RV]
 | .vw j t r,v,h=>by
  simp only[pU];cases hj:Nat.beq j i
  ·have:j≠i:=fun e=>by subst e; simp at hj
   simp only[RV,cond_false]at h ⊢;rw[hp j this];exact h
  ·simp[RV]
 | .mp j,v,h=>by
  simp only[pU];cases hj:Nat.beq j i
  ·have:j≠i:=fun e=>by subst e; simp at hj
   simp only[RV,cond_false]at h ⊢;rw[hp j this];exact h
  ·simp[RV]
 | .yl j,v,h=>by
  simp only[pU];cases hj:Nat.beq j i
  ·have:j≠i:=fun e=>by subst e; simp at hj
   simp only[RV,cond_false]at h ⊢;rw[hp j this];exact h
  ·simp[RV]
 | .ow j t,v,h=>by
  simp only[pU];cases hj:Nat.beq j i
  ·have:j≠i:=fun e=>by subst e; simp at hj
   simp only[RV,cond_false]at h ⊢;rw[hp j this];exact h
  ·simp[RV]
 | .cH l,v,h=>by
  simp only[RV,pU]at h ⊢;obtain⟨cs,h1,h2⟩:=h;exact⟨cs,h1,si hk hp ho l cs h2⟩
 | .bU f a c,v,h=>by
  simp only[RV,pU]at h ⊢;obtain⟨va,vc,h1,h2,h3⟩:=h;exact⟨va,vc,h1,si hk hp ho a va h2,si hk hp ho c vc h3⟩
theorem si {S S':Nat→Prop}{w:World}{φ φ':List bB}{i:Nat}{ds:List D}(hk:dE S w S' w)(hp:∀j,j≠i→φ'[j]? = φ[j]?)(ho:∀off v,RV S w φ (.lo i off) v→Rd S' w (.bG (ds.drop off)) v) :
  ∀ (l:List AV) (vs:List Value),aW S w φ l vs→aW S' w φ' (za i ds l) vs
 |[],[],_=>by simp[aW,za]
 |[],_::_,h=>by simp[aW]at h
 |_::_,[],h=>by simp[aW]at h
 |a::l,v::vs,h=>by
  simp only[aW,za]at h ⊢;exact⟨Rh hk hp ho a v h.1,si hk hp ho l vs h.2⟩
end
section
variable {g:G} {pf:Nat→cC} {ad:Array Oper} {Fin:Exit→Act→World→Prop}

theorem sS (hu:Iu g){k:List It}{E:bk}{objs:List Ob}(i:Nat)(ds:List D)(hn:g.φ0.length≤i)(ho:dk objs i=some (.box (ds.map AV.d)))(ht:gz k=true)
  (hr:R g pf Fin k (qn (pU i ds) E) (da (objs.map (aQ (pU i ds))) i .dead)) (jB:g.rr=[]:=by rfl):R g pf Fin k E objs:=by
 refine mC ht (fun a w hs=>?_) hr;obtain⟨φ,h1,h2,h3,h4,h5,h6⟩:=hs;rw[bu]at ho;have l7:=(bC.1 ho).1;have aaq:i<φ.length:=by rw[h1.len];exact l7
 have JO:∀b,eD φ b→g.S0 b:=fun b hb=>(h2 b hb).elim (hu.up b) (hu.x b)
 have gQ:∀b,eD (φ.set i .no) b→eD φ b:=fun b hb=>by
  rcases lC hb with ⟨j,q,_,g1,g2⟩ |g1
  ·exact⟨j,q,g1,g2⟩
  ·simp[bB.bl]at g1
 have hp:∀j,j≠i→(φ.set i .no)[j]? = φ[j]? := fun j hj=>q6 (fun e=>hj e.symm)
 have bx:dE (SS g.S0 φ) w (SS g.S0 (φ.set i .no)) w:=fun b hb _=>⟨⟨hb.1,fun hc=>hb.2 (gQ b hc)⟩,rfl⟩
 have eQ:φ[i]? = some φ[i]:=dY aaq
 have vR:∀off v,RV (SS g.S0 φ) w φ (.lo i off) v→Rd (SS g.S0 (φ.set i .no)) w (.bG (ds.drop off)) v:=fun off v hv=>by
  simp only[RV]at hv;obtain⟨b,eQ,rfl⟩:=hv;have hk:=h1.ok i _ _ eQ ho;simp only[bd]at hk;obtain⟨cs,T,bc,lz⟩:=hk;have hb:eD φ b:=⟨i,_,eQ,rfl⟩
  have Ir:¬ eD (φ.set i .no) b:=fun hc=>by
   rcases lC hc with ⟨j,q,hj,g1,g2⟩ |g1
   ·exact hj (h1.jA _ _ _ _ _ g1 eQ g2 rfl)
   ·simp[bB.bl]at g1
  refine Rd.bG (fun j=>(cs[off+j]?).getD undef) ⟨JO b hb,Ir⟩ bc (fun j x hj=>?_) (fun j x hj=>?_)
  ·obtain ⟨u,g1,_⟩:=lz.get (off+j) (x:=.d x) (by rw [eU]; rw [AL] at hj; rw [hj]; rfl);simp[g1]
  ·obtain ⟨u,g1,g2⟩:=lz.get (off+j) (x:=.d x) (by rw [eU]; rw [AL] at hj; rw [hj]; rfl);rw[g1];have:Rd (SS g.S0 φ) w x u:=by simpa[RV]using g2
   simpa using this.mono bx
 have hf:=Rh (ds:=ds) bx hp vR
 refine⟨φ.set i .no,h1.JM (pU i ds) V1 (fun j p b hj hb=>?_) (fun j oT hj=>?_) hf,fun b hb=>h2 b (gQ b hb),fun u=>?_,h4,Iq.Jk jB h5 gQ,h6.Jk (fun j l I B h=>⟨B,by
  by_cases nc:j=i
  ·subst nc;rw[qc aaq]at h;cases h
  ·rw[hp j nc]at h;exact h⟩) (fun j p hi=>by
  obtain⟨p',h7,h8⟩:=h6.le j p hi;by_cases nc:j=i
  ·subst nc;have:=(bC.1 hi).1;omega
  ·exact⟨p',by rw[hp j nc];exact h7,h8⟩)⟩
 ·by_cases nc:j=i
  ·subst nc;rw[qc aaq]at hj;cases hj;exact hb.elim
  ·rw[hp j nc]at hj;exact⟨p,hj,hb⟩
 ·rw [bq] at hj;by_cases nc:j=i
  ·subst nc;rw[qc (by simpa using l7)]at hj;cases hj;exact .inl rfl
  ·rw [q6 (fun e=>nc e.symm),eU] at hj;cases ho:objs[j]? with
   |none=>rw[ho]at hj;cases hj
   |some ob=>rw[ho]at hj;exact .inr (.inl ⟨ob,rfl,hp j nc,by simpa using hj.symm⟩)
 ·rcases s5 (f:=pU i ds) E u with h | h
  ·rw[h];exact hf _ _ (h3 u)
  ·rw[h];simp[RV]
end
end aw
