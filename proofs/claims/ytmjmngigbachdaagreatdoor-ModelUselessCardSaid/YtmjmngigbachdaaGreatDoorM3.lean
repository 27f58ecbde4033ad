import Derived.Test.YtmjmngigbachdaaGreatDoorM2
import Derived.Test.YtmjmngigbachdaaGreatDoorPslB
import Derived.Laws.StructEq
set_option maxRecDepth 100000
set_option maxHeartbeats 4000000
namespace Go.Proofs.YtmjmngigbachdaaGreatDoor
open Go ax Go.Proofs
theorem CU {l:List Int}{x n:Int}:(x::l).contains n=(decide (x=n)||l.contains n):=by simp only[Ke];congr 1;rw[o5];simp;exact eq_comm
theorem ady (t:Tm):∀(l:List Int),l.length+t.size<1000000000->br Tryz.prog 27 [.d (.sl (cD l)),t.av] (.d (.sl (cD (Tm.oN l t)))):=by
 induction t using Tm.ind with
 |_ t ih=>
 intro l hsz;have hl:=Tm.bO t.l;have hs:=Tm.size_eq t;refine mH6 Tryz.func27 λw S hg=>?_
 refine af (λh=>?_) λh=>?_
 have hk:t.k=1:=by simpa using h
 refine a7 (λk:Nat=>([(0,.d (.sl (cD l))),(3,.lo 0 0),(5,iV k)],[aO t])) (λk=>k<=l.length/\l.contains t.n=(l.drop k).contains t.n) (λk=>l.length-k) 0 ⟨bU _,rfl⟩ pI rfl ?_;rintro k ⟨J6,hm⟩;refine ag ?_;refine af (λh=>?_) λh=>?_
 have aI:k<l.length:=bo h Tt;have e1:l[k]? = some l[k]:=dG aI;rw[List.drop_eq_getElem_cons aI,CU]at hm;refine cJ (iE e1) ?_;refine af (λh=>?_) λh=>?_
 refine bz ?_;have he:l[k]=t.n:=by simpa using h
 rw[Tm.B7,if_pos hk,jC,if_pos (by rw[hm];simp[he])];have he:¬ l[k]=t.n:=by simpa using h
 refine bb (k+1) ⟨aI,by rw[hm];simp[he]⟩ aq JX rfl;have aI:l.length<=k:=bw h Tt;rw[cX aI]at hm;refine nh hg.ok (aa:=[]) rfl rfl (.inl rfl) rfl (.inl rfl) rfl rfl rfl aD (by simp[cD];intros;subst_vars;rfl) ab1 ab1 (ag ?_);refine cR hg.ok (cD (l++[t.n])) rfl rfl rfl rfl rfl rfl rfl rfl rfl aD NK (by simp[cD,HO]) ab1 ab1 (ag ?_);refine wj hg 5 rfl (r9 rfl) ?_;rw[Tm.B7,if_pos hk,jC,if_neg (by rw[hm];simp)];have hk:¬ t.k=1:=by simpa using h
 refine a7 (λx:Nat×List Int=>([(0,.d (.sl (cD x.2))),(3,.lo 0 0),(6,iV x.1)],[aO t])) (λx=>x.1<=t.l.length/\Tm.oN l t=Tm.fA x.2 (t.l.drop x.1)/\x.2.length+Tm.aw (t.l.drop x.1)<=l.length+Tm.aw t.l) (λx=>t.l.length-x.1) (0,l) ⟨bU _,by rw[Tm.B7,if_neg hk];rfl,eT _⟩ pI rfl ?_;rintro⟨k,a⟩ ⟨J6,hm,vJ⟩;simp only at J6 hm vJ;refine ag ?_;refine af (λh=>?_) λh=>?_
 have aI:k<t.l.length:=bo h wv;have e1:t.l[k]? = some t.l[k]:=dG aI;rw[List.drop_eq_getElem_cons aI]at hm vJ;simp only[Tm.fA]at hm;simp only[Tm.aw]at vJ;refine cJ (Tm.ay e1) ?_;refine aA (ih _ (dy aI) a aq) ?_;have hwl:=Tm.yH t.l[k] a;exact bb (k+1,Tm.oN a t.l[k]) ⟨aI,hm,by simp only;omega⟩ gP ⟨.refl _,.refl _,bJ.wrap gP gP gP,trivial⟩ rfl;have aI:t.l.length<=k:=bw h wv;refine bz ?_;rw[hm,cX aI];rfl
theorem CV (l:List Tm)(hsz:Tm.aw l<1000000000):br Tryz.prog 12 [.d (.sl (Tm.aa l))] (.d (.sl (cD (Tm.fA [] l)))):=by
 have hl:=Tm.bO l;refine mH6 Tryz.func12 λw S hg=>?_
 refine a7 (λx:Nat×List Int=>([(0,.d (.sl (Tm.aa l))),(3,.d (.sl (cD x.2))),(4,iV x.1)],[])) (λx=>x.1<=l.length/\Tm.fA [] l=Tm.fA x.2 (l.drop x.1)/\x.2.length+Tm.aw (l.drop x.1)<=Tm.aw l) (λx=>l.length-x.1) (0,[]) ⟨bU _,rfl,by simp⟩ ⟨.refl _,.nil,.refl _,trivial⟩ rfl ?_;rintro⟨k,a⟩ ⟨J6,hm,vJ⟩;simp only at J6 hm vJ;refine ag ?_;refine af (λh=>?_) λh=>?_
 have aI:k<l.length:=bo h wv;have e1:l[k]? = some l[k]:=dG aI;rw[List.drop_eq_getElem_cons aI]at hm vJ;simp only[Tm.fA]at hm;simp only[Tm.aw]at vJ;refine cJ (Tm.ay e1) ?_;refine aA (ady l[k] a aq) ?_;have hwl:=Tm.yH l[k] a;exact bb (k+1,Tm.oN a l[k]) ⟨aI,hm,by simp only;omega⟩ gP ⟨.refl _,.refl _,bJ.wrap gP gP gP,trivial⟩ rfl;have aI:l.length<=k:=bw h wv;refine bz ?_;rw[hm,cX aI];rfl
def UT (n:Nat):List Int:=(List.range n).map λ(i:Nat)=>(i:Int)
def nZ (a b:Tm):Int×Int:=if de a&&de b then(Tm.Cj a b,0)else(0,1)
theorem CW (a b:Tm)(ha:eB a)(hb:eB b):br Tryz.prog 162 [a.av,b.av] (.cP [iV (nZ a b).1,iV (nZ a b).2]):=by
 refine ng Tryz.func162 λw S hg=>?_
 refine aA (fe a ha.1 (ha.2 1)) ?_;refine af (λh1=>?_) λh1=>?_
 refine bz ?_;have h1:de a=false:=by simpa using h1
 simp only[nZ,h1,rA];rfl;have h1:de a=true:=by simpa using h1
 refine aA (fe b hb.1 (hb.2 1)) ?_;refine af (λh2=>?_) λh2=>?_
 refine bz ?_;have h2:de b=false:=by simpa using h2
 simp only[nZ,h1,h2,Ki];rfl;have h2:de b=true:=by simpa using h2
 refine aA (Zz a b ha.1 ha.2) ?_;refine bz ?_;simp only[nZ,h1,h2,Fq,if_true];rfl
def k5:Tm:=.mk 2 ByteArray.empty 5 []
def k1:Tm:=.mk 1 ByteArray.empty 1 []
def k2:Tm:=.mk 2 ByteArray.empty 0 []
theorem UU {t:Tm}(h:t.bA=true)(hs:t.size<1000000000):eB t:=⟨hs,λd e he=>vE h d e he⟩
end Go.Proofs.YtmjmngigbachdaaGreatDoor

namespace ax
open Go
mutual
def O3:Gl->List Tm| .mk k t a b c=>(if k=1 then [t]else [])++pk a++pk b++pk c
def pk:List Gl->List Tm|[]=>[]|g::r=>O3 g++pk r
end
theorem UX (g:Gl):O3 g=(if g.k=1 then [g.t]else [])++pk g.a++pk g.b++pk g.c:=by cases g;rw[O3];rfl
def Iw (l:List Gl):List Sg:=(pk l).map ef
theorem zJ (has:Sg->Bool)(l:List Gl):bm has l=true↔∀p∈Iw l,has p=true:=by
 refine Gl.Cx (p:=λl=>bm has l=true↔∀p∈Iw l,has p=true) (λl=>?_) l;intro eV;induction l with
 |nil=>simp[bm,Iw,pk]
 |cons g r ih=>
  obtain⟨h1,h2,h3⟩:=eV g aD;have ih:=ih λx hx=>eV x oZ
  unfold Iw at *;simp only[bm,pk,tQ,UX,aV,h1,h2,h3,ih,eR,cu];have key:(!((g.k==1)&&!has (ef g.t)))=true↔∀p∈List.map ef (if g.k=1 then [g.t]else []),has p=true:=by by_cases hk:g.k=1;simp[hk];simp[hk]
  rw[key];constructor;rintro ⟨⟨⟨⟨a,b⟩,c⟩,d⟩,e⟩ p ((((hp| hp)| hp)| hp)| hp);exact a p hp;exact b p hp;exact c p hp;exact d p hp;exact e p hp;intro h;exact⟨⟨⟨⟨λp hp=>h p (.inl (.inl (.inl (.inl hp)))),λp hp=>h p (.inl (.inl (.inl (.inr hp))))⟩,λp hp=>h p (.inl (.inl (.inr hp)))⟩,λp hp=>h p (.inl (.inr hp))⟩,λp hp=>h p (.inr hp)⟩
end ax

namespace ax
open Go
theorem CX {l:List Cs}{p:Sg}:eO l p=true↔∃c∈l,ef c.head=p:=by unfold eO;simp
theorem mh {α:Type}(p:α->Bool):∀(l:List α) (i:Nat),fG p l i=none↔∀x∈l,p x=true|[],_=>by simp[fG]|x::r,i=>by simp only[fG];split;rename_i h;rw[mh p r (i+1)];simp[h];rename_i h;simp[h]
theorem tS (l:List Cs):(fH l).2=0↔l.length<=200/\(∀c∈l,iX c=true)/\∀c∈l,bm (eO l) c.body=true:=by
 unfold fH;split;rename_i h;constructor;intro h2;cases h2;intro h2;omega;rename_i h;have h:l.length<=200:=by omega
 cases h1:fG iX l 0 with
 |some i=>simp only;constructor;intro h2;cases h2;rintro ⟨_,h2,_⟩;rw[(mh iX l 0).2 h2]at h1;cases h1
 |none=>
  have h1:=(mh iX l 0).1 h1;simp only;cases h2:fG (λc=>bm (eO l) c.body) l 0 with
  |some i=>simp only;constructor;intro h2;cases h2;rintro ⟨_,_,h3⟩;rw[(mh (λc=>bm (eO l) c.body) l 0).2 h3]at h2;cases h2
  |none=>have h2:=(mh (λc=>bm (eO l) c.body) l 0).1 h2;simp only[true_iff];exact⟨h,h1,h2⟩
end ax

namespace ax
open Go
section
variable {g:G} {pf:Nat->cI} {ad:Array Oper} {Fin:Exit->Act->World->Prop}
end
end ax
namespace ax
open Go
theorem Cs.E9 (out:List Cs)(x:Cs):Cs.aa out++[x.row]=Cs.aa (out++[x]):=by simp[Cs.aa]
end ax
namespace ax
open Go
end ax
namespace ax
open Go
end ax

namespace ax
open Go
structure Med (l:List Cs):Prop where
 sm:∀c∈l,Ir c
 len:l.length<=210
 size:Cs.aw l<=3000
end ax
namespace ax
open Go
end ax
namespace ax
open Go
end ax
namespace ax
open Go
end ax
namespace ax
open Go
end ax
namespace ax
open Go
end ax

namespace ax
open Go Go.RowKit Go.MapKept
section
variable {g:G} {pf:Nat->cI} {ad:Array Oper} {Fin:Exit->Act->World->Prop}
end
end ax

namespace ax
open Go Go.RowKit Go.MapKept
end ax

namespace ax
open Go Go.RowKit Go.MapKept
section
variable {g:G} {pf:Nat->cI} {ad:Array Oper} {Fin:Exit->Act->World->Prop}
end
end ax

namespace ax
open Go Go.RowKit Go.MapKept
section
variable {g:G} {pf:Nat->cI} {ad:Array Oper} {Fin:Exit->Act->World->Prop}
end
end ax

namespace ax
open Go
end ax

namespace ax
open Go Go.RowKit
section
variable {g:G} {pf:Nat->cI} {ad:Array Oper}
end
section
variable {g:G} {pf:Nat->cI} {ad:Array Oper} {Fin:Exit->Act->World->Prop}
end
end ax
namespace ax
open Go Go.RowKit
def EW (x y:D):Prop:=∀(S:Nat->Prop) (w:World) (v:Value),Rd S w x v->Rd S w y v
def pn:List D->List D->Prop|[],[]=>True|x::r,y::t=>EW x y/\pn r t|_,_=>False
theorem EW.refl (x:D):EW x x:=λ_ _ _ h=>h
theorem EW.nil:EW (.v (.slice none 0 0)) (.sl []):=λS w v h=>by cases h;exact .nil _ _
theorem pn.len:∀{r t:List D},pn r t->r.length=t.length|[],[],_=>rfl|_::_,_::_,h=>by simp[pn.len h.2]|[],_::_,h=>h.elim|_::_,[],h=>h.elim
theorem pn.get:∀{r t:List D} {j:Nat} {y:D},pn r t->t[j]? = some y->∃x,r[j]? = some x/\EW x y|[],[],j,y,_,hj=>by simp at hj|x::r,z::t,0,y,h,hj=>by simp only[TI,Option.some.injEq]at hj;subst hj;exact⟨x,rfl,h.1⟩|x::r,z::t,j+1,y,h,hj=>by simp only[Xb]at hj ⊢;exact pn.get h.2 hj|[],_::_,_,_,h,_=>h.elim|_::_,[],_,_,h,_=>h.elim
theorem bJ.Uc {row row':List D}(h:pn row row'):bJ (.fs [row]) (.d (.sl [row'])):=λS w φ v hv=>by
 have hv:=bJ.fs [row] S w φ v hv;simp only[RV]at hv ⊢;cases hv with
 |@sl _ b o cap sz cs T fr g hS hb hl hc hsz hg hr=>
  refine .sl (sz:=sz) g hS hb hl hc (λi r hi=>?_) (λi r j x hi hj=>?_) (λi r j x hi hj=>?_);cases i with
  |zero=>cases hi;rw[<-h.len];exact hsz 0 row rfl
  |succ i=>simp at hi
  cases i with
  |zero=>cases hi;obtain⟨x',h1,h2⟩:=h.get hj;exact hg 0 row j x' rfl h1
  |succ i=>simp at hi
  cases i with
  |zero=>cases hi;obtain⟨x',h1,h2⟩:=h.get hj;exact h2 _ _ _ (hr 0 row j x' rfl h1)
  |succ i=>simp at hi
end ax

namespace ax
open Go Go.RowKit
section
variable {g:G} {pf:Nat->cI} {ad:Array Oper} {Fin:Exit->Act->World->Prop}
end
end ax

namespace ax
open Go Go.RowKit
section
variable {g:G} {pf:Nat->cI} {ad:Array Oper} {Fin:Exit->Act->World->Prop}
end
end ax

namespace ax
open Go Go.RowKit
section
variable {g:G} {pf:Nat->cI} {ad:Array Oper} {Fin:Exit->Act->World->Prop}
theorem O4 (hg:di g){dst:Option Nat}{T T':Nat}{x y:Operand}{ty:Nat}{pos:String}{after:Array Edge}{gd:Option (Nat×Bool)}{az:List Oper}{k:List It}{E:bq}{objs:List Ob}
  {q q' cq pA e e':Nat} {z z':List Value} {τ:Ty} {aa:List (List D)}
  (bt:aH ad.toList E gd=some true) (hd:aQ ⟨g.ty,g.N⟩ dst=true) (hx:ev E x=.fs aa) (hy:lO (ev E y)=.d (.sl []))
  (hT:g.ty T=some ⟨q,cq,z,.slice e⟩) (lf:g.ty T'=some ⟨q',pA,z',.slice e'⟩) (he:g.ty e=some τ)
  (hr:R g pf Fin (.dr ad az::k) (bh E dst (.fs aa)) objs) :
  R g pf Fin (.dr ad (⟨dst,.call {callee:=.builtin .append,args:=#[x,y],argTypes:=#[T,T']},ty,pos,after,gd⟩::az)::k) E objs:=by
 refine cU (aK.eU hg (.refl _) bt hd aD λφ a w hρ hs=>?_) hr;simp only[Op.operands,Call.operands]at hρ;have aP:=hρ x aD;have eC:=bJ.lO _ _ _ _ _ (hρ y aD);rw[hy]at eC;rw[hx]at aP;have aqt:=aP;simp only[RV]at eC aP;obtain⟨_,a0,hv⟩:=aP;obtain⟨cells,hN⟩:=EE.FH (P:=g.P) (sz:=τ.size) eC aD;have hτ:=hg.ty _ _ he;obtain⟨xa,xc,Nr⟩:=hN.sl;have sE:cells=[]:=kG.1 QW;subst sE;have fo:=mS (tr:=ty) (bX hg hT) (bX hg lf) hτ (a:=a0) (n:=aa.length) (cap:=aa.length) Nr (hN.run w rfl) cZ;refine⟨.value (a.eval x),a.eval x,w,φ,?_,.inl rfl,aqt,.refl hs⟩;simp only[execOp,resolve,invoke,builtin,Sem.run_bind,Sem.run_pure,Result.andThen_ok,sr,bM,fm,hv,fo]
end
end ax

namespace ax
open Go Go.RowKit
section
variable {g:G} {pf:Nat->cI} {ad:Array Oper} {Fin:Exit->Act->World->Prop}
end
end ax

namespace ax
open Go Go.RowKit
theorem bJ.agg {l m:List AV}(h:HJ l m):bJ (.agg l) (.agg m):=λS w φ v hv=>by simp only[RV]at hv ⊢;obtain⟨cs,h1,h2⟩:=hv;exact⟨cs,h1,h.rvs h2⟩
section
variable {g:G} {pf:Nat->cI} {ad:Array Oper} {Fin:Exit->Act->World->Prop}
end
end ax

namespace ax
open Go Go.RowKit
def mX:List (List D)->List (List D)->Prop|[],[]=>True|x::r,y::t=>pn x y/\mX r t|_,_=>False
theorem mX.len:∀{r t:List (List D)},mX r t->r.length=t.length|[],[],_=>rfl|_::_,_::_,h=>by simp[mX.len h.2]|[],_::_,h=>h.elim|_::_,[],h=>h.elim
theorem mX.get:∀{r t:List (List D)} {j:Nat} {y:List D},mX r t->t[j]? = some y->∃x,r[j]? = some x/\pn x y|[],[],j,y,_,hj=>by simp at hj|x::r,z::t,0,y,h,hj=>by simp only[TI,Option.some.injEq]at hj;subst hj;exact⟨x,rfl,h.1⟩|x::r,z::t,j+1,y,h,hj=>by simp only[Xb]at hj ⊢;exact mX.get h.2 hj|[],_::_,_,_,h,_=>h.elim|_::_,[],_,_,h,_=>h.elim
theorem EW.sl {aa rows':List (List D)}(h:mX aa rows'):EW (.sl aa) (.sl rows'):=λS w v hv=>by
 cases hv with
 |nil a c=>
  have:rows'=[]:=by cases rows' with|nil=>rfl|cons x r=>exact h.elim
  subst this;exact .nil a c
 |@sl _ b o cap sz cs T fr g hS hb hl hc hsz hg hr=>have a8:=h.len;rw[a8];refine .sl (sz:=sz) g hS hb (by rw[<-a8];exact hl) hc (λi r hi=>?_) (λi r j x hi hj=>?_) (λi r j x hi hj=>?_);obtain ⟨x,h1,h2⟩:=h.get hi;rw[<-h2.len];exact hsz i x h1;obtain ⟨x1,h1,h2⟩:=h.get hi;obtain⟨x',h3,h4⟩:=h2.get hj;exact hg i x1 j x' h1 h3;obtain ⟨x1,h1,h2⟩:=h.get hi;obtain⟨x',h3,h4⟩:=h2.get hj;exact h4 _ _ _ (hr i x1 j x' h1 h3)
theorem bJ.d {x y:D}(h:EW x y):bJ (.d x) (.d y):=λS w φ v hv=>by simp only[RV]at hv ⊢;exact h _ _ _ hv
theorem bJ.aa {aa rows':List (List D)}(h:mX aa rows'):bJ (.fs aa) (.d (.sl rows')):=λS w φ v hv=>bJ.d (EW.sl h) S w φ v (bJ.fs aa S w φ v hv)
end ax

namespace ax
open Go
structure Is where
 op:Int
 v:Int
 n:Int
 s:ByteArray
namespace Is
end Is
def e0:ByteArray:=⟨#[]⟩
structure Ky where
 kind:Int
 n:Int
 s:ByteArray
structure En where
 s:ByteArray
 args:Int
 at_:Int
 ar6:Int
 key:Ky
namespace En
end En
end ax
namespace ax
open Go
theorem Gx (es:List (Int×Tm)):∀a:List Int,(es.foldl fT a).length<=a.length+es.length:=by
 induction es with
 |nil=>intro a;exact eT _
 |cons x r ih=>
  intro a;have h1:=ih (fT a x)
  have h2:(fT a x).length<=a.length+1:=by
   unfold fT jC;split;split<;>simp
   omega
  simp only[wC,dx];omega
theorem O5 (t:Tm):(bP [t]).length<=t.size:=by have:=Gx (t.gX 1) [];rw[Tm.lR]at this;simpa[bP]using this
def rI (s:ByteArray):Tm:=.mk 3 s 0 []
def O6:ByteArray:=⟨#[113,117,101,114,121]⟩
def adz:ByteArray:=⟨#[104,97,121]⟩
def pfC (s:ByteArray)(q:Cs):Cs:=⟨rI s,q.body,q.vars⟩
theorem CY (s:ByteArray)(h1:(rI s).bB=true)(h2:nV (rI s)=true)(q:Cs):iX (pfC s q)=(decide (0<=q.vars)&&decide (q.vars<=1000)&&(cA q.vars q.body 20 1 true).1):=by
 have h3:q6 q.vars (rI s)=true:=by rw[xA];unfold nW;rw[h1,show bP [rI s]=[] by rfl];rfl
 show(decide (0<=q.vars)&&decide (q.vars<=1000)&&q6 q.vars (rI s)&&nV (rI s)&&(cA q.vars q.body 20 1 true).1)=_
 rw[h2,h3];simp
theorem xB:(rI O6).bB=true/\nV (rI O6)=true:=⟨by kernel_rfl,by kernel_rfl⟩
theorem Ix:(rI adz).bB=true/\nV (rI adz)=true:=⟨by kernel_rfl,by kernel_rfl⟩
theorem ai7 (q:Cs):iX (pfC O6 q)=iX (pfC adz q):=by rw[CY _ xB.1 xB.2,CY _ Ix.1 Ix.2]
def lj (q:Cs)(l:List Cs):Bool :=((fH l).2==0)&&(q.head.k==3)&&aX q.head.s ⟨#[63]⟩&&q.head.bB&&(bP [q.head]).all (λx=>decide (x<q.vars))&&iX (pfC O6 q)&&bm (eO l) q.body
structure anE (q:Cs) (l:List Cs):Prop where
 prog:(fH l).2=0
 kind:q.head.k=3
 name:q.head.s=⟨#[63]⟩
 right:q.head.bB=true
 vars:∀x∈bP [q.head],x<q.vars
 anF:0<=q.vars
 agE:q.vars<=1000
 body:(cA q.vars q.body 20 1 true).1=true
 there:bm (eO l) q.body=true
theorem ql {q:Cs}{l:List Cs}(h:lj q l=true):anE q l:=by unfold lj at h;simp only[aV,beq_iff_eq]at h;obtain⟨⟨⟨⟨⟨⟨h1,h2⟩,h3⟩,h4⟩,h5⟩,h6⟩,h7⟩:=h;rw[CY _ xB.1 xB.2]at h6;simp only[aV,decide_eq_true_eq]at h6;exact⟨h1,h2,Tm.bn.1 h3,h4,λx hx=>by simpa using fB.1 h5 x hx,h6.1.1,h6.1.2,h6.2,h7⟩
end ax

namespace ax
open Go
section
variable {σ:Type} (F:σ->Int->Tm->σ×Tm)
end
theorem oS (l:List Tm)(x:Tm):Tm.aa l++[[.v (.int .i64 x.k),.v (.string x.s),.v (.int .i64 x.n),.sl (Tm.aa x.l)]]=Tm.aa (l++[x]):=by rw[Tm.eo (l++[x]),eR,Tm.eo l];cases x;rfl
end ax

namespace ax
open Go
structure Ak where
 h:Bool
 al:List Tm
 ap:Bool
 tx:Bs
 nx:Int
 e:Int
def gC (n:Int):Tm:=.mk 2 ByteArray.empty n []
def gT (s:ByteArray):Tm:=.mk 3 s 0 []
def cf (nx:Int)(l:List Tm):Ak:=if l.all de then ⟨true,l,false,[],nx,0⟩else ⟨false,[],false,[],nx,3⟩
def eJ (nx e:Int):Ak:=⟨false,[],false,[],nx,e⟩
def mz (nx:Int)(b:Bool):Ak:=⟨b,[],false,[],nx,0⟩
def dC (nx:Int):Nat->List Tm|0=>[]|m+1=>.mk 1 ByteArray.empty nx []::dC (nx+1) m
def cG (nx:Int)(t n a:Tm):Ak :=
 if t.k=2 then cf nx [n,t,a,gC 0]
 else if t.k=3 then cf nx [n,gT t.s,a,gC t.l.length]
 else if n.k=1\/a.k=1 then eJ nx 4
 else if a.k≠2\/0<n.l.length then eJ nx 5
 else if a.n<0\/a.n > 8 then eJ nx 6
 else if a.n=0 then cf nx [t,n]
 else if n.k=2 then eJ nx 5
 else cf (nx+a.n) [t,.mk 3 n.s 0 (dC nx a.n.toNat)]
def mi (nx:Int)(n t a:Tm):Ak :=
 if n.k=1\/t.k=1 then eJ nx 4
 else if n.k≠2\/t.l.length=0 then eJ nx 5
 else if n.n<1\/n.n > t.l.length then mz nx false
 else cf nx [(t.l[(n.n-1).toNat]?).getD aJ,a]
def rS:Nat->Tm->List Tm×Tm|0,t=>([],t)| f+1,t=>if t.k=3/\t.s=Tx [46]/\t.l.length=2 then(((t.l[0]?).getD aJ)::(rS f ((t.l[1]?).getD aJ)).1,(rS f ((t.l[1]?).getD aJ)).2)else([],t)
def ib (t:Tm):List Tm×Tm:=rS t.size t
def dN (l:List Tm):Tm:=l.foldr (λx r=>.mk 3 (Tx [46]) 0 [x,r]) (gT (Tx [91,93]))
def jJ (nx:Int)(t r:Tm):Ak :=
 if t.k=2 then cf nx [r,dN [t]]
 else if t.k=3 then cf nx [r,dN (gT t.s::t.l)]
 else if(ib r).2.k=1 then eJ nx 4
 else if(ib r).2.same (gT (Tx [91,93]))=false\/(ib r).1=[]then eJ nx 5
 else match (ib r).1 with
  |[]=>eJ nx 5
  |h::m=>
   if h.k=1 then eJ nx 4
   else if 0<h.l.length then eJ nx 5
   else if m=[]then cf nx [t,h]
   else if 8<m.length then eJ nx 6
   else if h.k=2 then eJ nx 5
   else cf nx [t,.mk 3 h.s 0 m]
mutual
def Ao:Tm->Tm->Nat
 | .mk k s n l,b=>
  if(Tm.mk k s n l).same b then 0
  else if k=1/\b.k=1 then 2
  else if k≠3\/b.k≠3\/s≠b.s\/l.length≠b.l.length then 1
  else O7 l b.l
def O7:List Tm->List Tm->Nat|[],_=>0|_::_,[]=>0|x::l,y::m=>if Ao x y≠0 then Ao x y else O7 l m
end
def jv (nx:Int)(a b:Tm)(is:Int->Bool):Ak:=if Ao a b=2 then eJ nx 4 else mz nx (is (Tm.Cj a b))
def CZ (nx:Int)(a b:Tm):Ak:=if(bD b).2≠0 then eJ nx (bD b).2 else cf nx [a,gC (bD b).1]
def So (nx:Int)(s:ByteArray)(a b:Tm):Ak :=
 if(bD a).2≠0 then eJ nx (bD a).2
 else if(bD b).2≠0 then eJ nx (bD b).2
 else mz nx (ER s (bD a).1 (bD b).1).1
def AW (nx:Int)(t:Tm):Ak:=if(fJ [] (u3 t)).length<=8000 then ⟨true,[],false,fJ [] (u3 t),nx,0⟩else eJ nx 3
def eg (s:ByteArray)(l:List Tm)(nx:Int):Ak :=
 let a:=(l[0]?).getD aJ;let b:=(l[1]?).getD aJ;let c:=(l[2]?).getD aJ
 if s=Tx [102,97,105,108]then mz nx false
 else if s=Tx [110,108]then ⟨true,[],false,[10],nx,0⟩
 else if s=Tx [119,114,105,116,101]then AW nx (((dP l).1[0]?).getD aJ)
 else if s=Tx [118,97,114]then mz nx (decide (a.k=1))
 else if s=Tx [110,111,110,118,97,114]then mz nx (decide (a.k≠1))
 else if s=Tx [97,116,111,109]then mz nx (decide (a.k=3/\a.l.length=0))
 else if s=Tx [105,110,116,101,103,101,114]then mz nx (decide (a.k=2))
 else if s=Tx [61]then cf nx [a,b]
 else if s=Tx [92,61]then(if(cf nx [a,b]).h then ⟨true,[a,b],true,[],nx,0⟩else eJ nx 3)
 else if s=Tx [61,61]then mz nx (a.same b)
 else if s=Tx [92,61,61]then mz nx (!a.same b)
 else if s=Tx [64,60]then jv nx a b λn=>decide (n<0)
 else if s=Tx [64,62]then jv nx a b λn=>decide (n > 0)
 else if s=Tx [64,61,60]then jv nx a b λn=>decide (n<=0)
 else if s=Tx [64,62,61]then jv nx a b λn=>decide (n ≥ 0)
 else if s=Tx [105,115]then CZ nx a b
 else if s=Tx [102,117,110,99,116,111,114]then cG nx a b c
 else if s=Tx [97,114,103]then mi nx a b c
 else if s=Tx [61,46,46]then jJ nx a b
 else So nx s a b
end ax

namespace Go.Proofs.YtmjmngigbachdaaGreatDoor
open Go ax Go.Proofs
def alD:List Tm->D|[]=>.v (.slice none 0 0)|x::r=>.sl (Tm.aa (x::r))
def j6 (l al:List Tm)(ap:Bool)(tx:ByteArray)(nx e:Int):List Ob:=[.box [.d (.sl (Tm.aa l)),bV false,.d (alD al),bV ap,.d (.v (.string tx)),iV nx,iV e]]
theorem dU (o:List Ob)(l al:List Tm)(ap:Bool)(tx:ByteArray)(nx e:Int):(j6 l al ap tx nx e).map (aR (bZ false 1 o 5))=j6 l al ap tx nx e:=by cases al<;>rfl
def n6 (e c:Int):Int:=if e=0 then c else e
theorem tT (Y:YP)(l al:List Tm)(ap:Bool)(tx:ByteArray)(nx e c:Int):aU Tryz.prog Y 161 [.lo 0 0,iV c] (j6 l al ap tx nx e) (bV false) (j6 l al ap tx nx (n6 e c)):=by
 refine u0 Tryz.func161 λw S φ hg=>?_
 refine af (λh=>?_) λh=>?_
 have h:e=0:=by simpa using h
 subst h;rw[n6,if_pos rfl];exact aL hg 1 5 cZ rfl rfl (dU _ l al ap tx nx c);have h:¬ e=0:=by simpa using h
 rw[n6,if_neg h];exact aL hg 1 5 cZ rfl rfl (dU _ l al ap tx nx e)
theorem C0 (n:Int):br Tryz.prog 165 [iV n] (gC n).av:=by
 refine ng Tryz.func165 λw S hg=>?_
 refine bz ?_;rfl
theorem tU (s:ByteArray):br Tryz.prog 166 [.d (.v (.string s))] (gT s).av:=by
 refine ng Tryz.func166 λw S hg=>?_
 refine bz ?_;rfl
theorem O8 (Y:YP)(l al l2:List Tm)(ap:Bool)(tx:ByteArray)(nx e:Int)(hb:∀t∈l2,eB t)(dR:l2≠[])(a8:l2.length<=1000):aU Tryz.prog Y 142 [.lo 0 0,.d (.sl (Tm.aa l2))] (j6 l al ap tx nx e) (bV (l2.all de)) (if l2.all de then j6 l l2 ap tx nx e else j6 l al ap tx nx (n6 e 3)):=by
 refine aU.ej (pf:=λ_=>.jz) gK mixed Tryz.func142 rfl da da (by simp[Tryz.ntmps142]) (by split<;>simp[j6]) λw S φ hg=>?_
 have hφ:φ.length=1:=hg.kh.len;have mF:=Tm.ao l2;refine ag ?_;refine a7 (λk:Nat=>([(0,.lo 0 0),(1,.d (.sl (Tm.aa l2))),(7,.d (.sl (Tm.aa l2))),(8,iV l2.length),(9,iV k)],j6 l al ap tx nx e)) (λk=>k<=l2.length/\l2.all de=(l2.drop k).all de) (λk=>l2.length-k) 0 ⟨bU _,rfl⟩ ⟨.refl _,.refl _,.refl _,by rw[mF];exact .refl _,.refl _,trivial⟩ rfl ?_;rintro k ⟨hk,vJ⟩;refine ag ?_;refine af (λh=>?_) λh=>?_
 have aI:k<l2.length:=bo h rfl;have e1:l2[k]? = some l2[k]:=dG aI;have hm:=hb _ (dy aI);have hd:l2.drop k=l2[k]::l2.drop (k+1):=List.drop_eq_getElem_cons aI;rw[hd,pK]at vJ;generalize l2[k]=x at e1 hm vJ;refine cJ (Tm.ay e1) ?_;refine aA (fe x hm.1 (hm.2 1)) ?_;cases hr:de x with
 |true=>rw[hr,iu]at vJ;refine gg ?_;refine bf 1 (j6 l al ap tx nx e) tn rfl rfl ?_;exact bb (k+1) ⟨aI,vJ⟩ aq JW rfl
 |false=>rw[hr,rA]at vJ;rw[vJ];refine mM ?_;refine aj hg.ok hg.cm hg.wide hg.Y [0] (j6 l al ap tx nx (n6 e 3)++[aO x]) (tT Y l al ap tx nx e 3) cN rfl rfl rfl rfl rfl rfl rfl rfl (ag ?_);exact aL hg 1 5 cZ rfl rfl (dU _ l al ap tx nx (n6 e 3))
 have aI:l2.length<=k:=bw h rfl;rw[List.drop_of_length_le aI]at vJ;rw[vJ]
 have aqu:D.sl (Tm.aa l2)=alD l2:=by
  cases l2 with
  |nil=>exact absurd rfl dR
  |cons x r=>rfl
 have e2:∀o:List Ob,[Ob.box [.d (.sl (Tm.aa l)),bV false,.d (.sl (Tm.aa l2)),bV ap,.d (.v (.string tx)),iV nx,iV e]].map (aR (bZ false 1 o 5))=j6 l l2 ap tx nx e:=λo=>by rw[aqu];exact dU o l l2 ap tx nx e
 exact aL hg 1 5 cZ rfl rfl (e2 _)
theorem adB (a b:Tm):Ao a b=if a.same b then 0 else if a.k=1/\b.k=1 then 2 else if a.k≠3\/b.k≠3\/a.s≠b.s\/a.l.length≠b.l.length then 1 else O7 a.l b.l:=by cases a;rw[Ao];rfl
def ZA (n:Nat):AV:=.cP [bV (decide (n=2)),bV (decide (n≠0))]
theorem O9 (a:Tm):∀b,a.size<1000000000->br Tryz.prog 160 [a.av,b.av] (ZA (Ao a b)):=by
 induction a using Tm.ind with
 |_ a ih=>
 intro b hsz;refine ng Tryz.func160 λw S hg=>?_
 refine aA (H7 a b hsz) ?_;have hd:=adB a b;refine af (λh0=>?_) λh0=>?_
 refine bz ?_;rw[hd,if_pos h0];rfl;rw[if_neg (by simp[h0])]at hd;refine af (λh1=>?_) λh1=>?_
 have h1:a.k=1:=by simpa using h1
 refine bz ?_;by_cases h2:b.k=1;rw[hd,if_pos ⟨h1,h2⟩];simp[h1,h2,ZA,bV];rw [hd,if_neg (λh=>h2 h.2),if_pos (.inl aq)];have h3:¬ a.k=b.k:=by omega
 simp[h3,ZA,bV];have h1:¬ a.k=1:=by simpa using h1
 rw[if_neg (λh=>h1 h.1)]at hd;refine af (λh2=>?_) λh2=>?_
 have h2:b.k=1:=by simpa using h2
 refine bz ?_;rw[hd,if_pos (.inr (.inl aq))];have h3:¬ a.k=b.k:=by omega
 simp[h3,ZA,bV];refine af (λh3=>?_) λh3=>?_
 have h3:a.k≠3:=by simpa using h3
 refine bz ?_;rw[hd,if_pos (.inl h3)];rfl;have h3:a.k=3:=by simpa using h3
 refine af (λh4=>?_) λh4=>?_
 have h4:b.k≠3:=by simpa using h4
 refine bz ?_;rw[hd,if_pos (.inr (.inl h4))];rfl;have h4:b.k=3:=by simpa using h4
 refine af (λh5=>?_) λh5=>?_
 have h5:a.s≠b.s:=λhe=>by rw [he]at h5; simp [Tm.bn.2 rfl]at h5
 refine bz ?_;rw[hd,if_pos (.inr (.inr (.inl h5)))];rfl;have h5:a.s=b.s:=by apply Tm.bn.1;simpa using h5
 refine af (λh6=>?_) λh6=>?_
 have h6:a.l.length≠b.l.length:=λhe=>by simp [Tm.ao,he]at h6
 refine bz ?_;rw[hd,if_pos (.inr (.inr (.inr h6)))];rfl;have h6:a.l.length=b.l.length:=by simp[Tm.ao]at h6;omega
 rw[if_neg (by simp[h3,h4,h5,h6])]at hd;rw[hd];have ann:=Tm.bO a.l;have EF:=Tm.size_eq a;refine a7 (λk:Nat=>([(3,.lo 1 0),(51,.d (.sl (Tm.aa a.l))),(52,iV a.l.length),(53,iV k)],[aO a,aO b])) (λk=>k<=a.l.length/\O7 a.l b.l=O7 (a.l.drop k) (b.l.drop k)) (λk=>a.l.length-k) 0 ⟨bU _,rfl⟩ ⟨.refl _,.refl _,bJ.int um,.refl _,trivial⟩ rfl ?_;rintro k ⟨J6,hk⟩;refine ag ?_;refine af (λh=>?_) λh=>?_
 have aI:k<a.l.length:=by have:=of_decide_eq_true h; omega
 have mn:k<b.l.length:=by omega
 have e1:a.l[k]? = some a.l[k]:=dG aI;have e2:b.l[k]? = some b.l[k]:=dG mn;rw[List.drop_eq_getElem_cons aI,List.drop_eq_getElem_cons mn,O7]at hk;have hm:=Tm.b8 (dy aI);refine cJ (Tm.ay e1) ?_;refine cJ (Tm.ay e2) ?_;refine aA (ih _ (dy aI) b.l[k] aq) ?_;refine af (λh=>?_) λh=>?_
 have h:Ao a.l[k] b.l[k]≠0:=by simpa using h
 rw[if_pos h]at hk;refine bz ?_;rw[hk];simp[ZA,bV,h];have h:¬ Ao a.l[k] b.l[k]≠0:=by simpa using h
 rw[if_neg h]at hk;refine u5 2 fO rfl ?_;exact bb (k+1) ⟨aI,hk⟩ aq ahp rfl;refine bz ?_;have h4:¬ ((k:Int)<(a.l.length:Int)):=of_decide_eq_false h;rw[hk,cX aq,O7];rfl
theorem Gy:∀(n m:Nat) (t:Tm),t.size<=n->t.size<=m->rS n t=rS m t|0,_,t,h,_=>by have:=Gl.uP t;omega|_+1,0,t,_,h=>by have:=Gl.uP t;omega|n+1,m+1,t,h1,h2=>by simp only[rS];split;rename_i h;obtain⟨_,_,hl⟩:=h;have e1:t.l[1]? = some t.l[1]:=dG aq;have hm:=Tm.b8 (dy (show 1<t.l.length by omega));have hs:=Tm.size_eq t;rw[e1,Option.getD_some,Gy n m t.l[1] aq aq];rfl
def q7 (t:Tm):Bool:=decide (t.k=3)&&aX t.s (Tx [46])&&decide (t.l.length=2)
theorem ai8 {t:Tm}(h:q7 t=false):ib t=([],t):=by unfold ib;obtain⟨n,hn⟩:∃n,t.size=n+1:=⟨t.size-1,by have:=Gl.uP t;omega⟩;rw[hn,rS,if_neg];rintro⟨h1,h2,h3⟩;simp[q7,h1,h3,Tm.bn.2 h2]at h
theorem adC {t a b:Tm}(h:q7 t=true)(ha:t.l[0]? = some a)(hb:t.l[1]? = some b):ib t=(a::(ib b).1,(ib b).2):=by unfold ib;obtain⟨n,hn⟩:∃n,t.size=n+1:=⟨t.size-1,by have:=Gl.uP t;omega⟩;simp only[q7,aV,decide_eq_true_eq]at h;have hm:=Tm.b8 (sq hb);have hs:=Tm.size_eq t;rw[hn,rS,if_pos ⟨h.1.1,Tm.bn.1 h.1.2,h.2⟩,ha,hb,Option.getD_some,Option.getD_some,Gy n b.size b aq cZ]
def anG (t:Tm)(l:List Tm):List Ob:=[aO t,.box [iV 0,.d (.v (.string ByteArray.empty)),iV 0,.d (.v (.slice none 0 0))],.arr 4 l.length (Tm.aa l)]
def anH:Nat->cI:=λf=>bif Nat.beq f 4000000007 then .Fw else bif Nat.beq f 4000000006 then .bT 200 else .jz
theorem ZB (t:Tm)(ht:t.size<=1000000):br Tryz.prog 168 [t.av] (.cP [.d (.sl (Tm.aa (ib t).1)),(ib t).2.av]):=by
 refine br.ej (pf:=anH) gK mixed Tryz.func168 rfl da da (by simp[Tryz.ntmps168]) λw S hg=>?_
 refine eW hg.ok 6 rfl rfl ?_;refine KR 4 4 rfl rfl (ag ?_);refine a7 (λx:Tm×List Tm=>([(1,.lo 0 0),(3,.lo 1 0),(4,.ow 2 x.2.length)],anG x.1 x.2)) (λx=>ib t=(x.2++(ib x.1).1,(ib x.1).2)/\x.1.size+x.2.length<=1000000) (λx=>x.1.size) (t,[]) ⟨rfl,by simpa using ht⟩ pI rfl ?_;rintro⟨u,l⟩ ⟨hm,hs⟩;simp only at hm hs;have mF:=Tm.ao l;refine ag ?_;have hno:q7 u=false->ib t=(l,u):=λh=>by rw[hm,ai8 h,yq]
 refine af (λh1=>?_) λh1=>?_
 rotate_left;have h1:¬ u.k=3:=by simpa using h1
 refine QE ?_;rw[hno (by simp[q7,h1])];rfl;have h1:u.k=3:=by simpa using h1
 refine af (λh2=>?_) λh2=>?_
 rotate_left;have h2:aX u.s (Tx [46])=false:=by simp at h2; exact h2
 refine QE ?_;rw[hno (by simp[q7,h2])];rfl;have h2:aX u.s (Tx [46])=true:=by simp at h2;exact h2
 refine af (λh3=>?_) λh3=>?_
 rotate_left;have h3:¬ u.l.length=2:=λhe=>by simp [Tm.ao,he]at h3
 refine QE ?_;rw[hno (by simp[q7,h3])];rfl;have h3:u.l.length=2:=by simp[Tm.ao]at h3;omega
 have e1:u.l[0]? = some (u.l[0]' aq):=dG aq;have e2:u.l[1]? = some (u.l[1]' aq):=dG aq;have hm1:=Tm.b8 (dy (show 1<u.l.length by omega));have hsz:=Tm.size_eq u;have ai9:=adC (t:=u) (by simp[q7,h1,h2,h3]) e1 e2;generalize u.l[0]' aq=a at e1 ai9;generalize u.l[1]' aq=b at e2 ai9 hm1;refine dX hg.ok rfl rfl rfl rfl rfl rfl eA (Tm.ay e1) rfl (ag ?_);refine cR hg.ok (Tm.aa (l++[a])) rfl rfl rfl rfl rfl rfl rfl rfl rfl aD NK (oS l a) QX QX (ag ?_);refine dX hg.ok rfl rfl rfl rfl rfl rfl eA (Tm.ay e2) rfl (ag ?_);exact bb (b,l++[a]) ⟨by rw[hm,ai9];simp,by simp;omega⟩ gP ⟨.refl _,.refl _,by simp only[List.length_append,dx,mu];exact .refl _,trivial⟩ (by simp only[anG,List.length_append,dx,mu];rfl)
end Go.Proofs.YtmjmngigbachdaaGreatDoor

namespace Go.Proofs.YtmjmngigbachdaaGreatDoor
open Go ax Go.Proofs
variable{t:Tm}
theorem sN(x:Tm)(l:List Tm):dN (x::l)=.mk 3 (Tx [46]) 0 [x,dN l]:=rfl
theorem UY(a b:Tm):bJ (.fs [Tm.row a,Tm.row b]) (.d (.sl (Tm.aa [a,b]))):=by
 have e:Tm.aa [a,b]=[Tm.row a,Tm.row b]:=by cases a;cases b;rfl
 rw[e];exact bJ.fs _
def anJ:Ob:=.box [iV 0,.d (.v (.string ByteArray.empty)),iV 0,.d (.v (.slice none 0 0))]
theorem Gz(l:List Tm)(hl:l.length<=1000000):br Tryz.prog 167 [.d (.sl (Tm.aa l))] (dN l).av:=by
 have mF:=Tm.ao l;refine v8 Tryz.func167 λw S hg=>?_
 refine aA (tU (Tx [91,93])) ?_;refine a7 (λk:Nat=>([(0,.d (.sl (Tm.aa l))),(2,.lo 0 0),(3,.lo 1 0),(4,iV ((l.length:Int)-1-k))],[anJ,aO (dN (l.drop (l.length-k)))])) (λk=>k<=l.length) (λk=>l.length-k) 0 fO ⟨.refl _,.refl _,.refl _,?_,trivial⟩ (by rw[TE,List.drop_length];rfl) ?_;rw[mF];exact bJ.wrap aq aq aq;rintro k hk;refine ag ?_;refine af (λh=>?_) λh=>?_
 have h:(0:Int)<=(l.length:Int)-1-k:=by simpa using h
 have aI:k<l.length:=by omega
 have hi:((l.length:Int)-1-k).toNat=l.length-(k+1):=by omega
 have e1:l[l.length-(k+1)]? = some (l[l.length-(k+1)]' aq):=dG aq;have hd:l.drop (l.length-(k+1))=l[l.length-(k+1)]' aq::l.drop (l.length-k):=by rw[List.drop_eq_getElem_cons aq];congr 2;omega
 generalize l[l.length-(k+1)]' aq=x at e1 hd;refine dX hg.ok rfl rfl rfl rfl rfl rfl h (by rw[hi];exact Tm.ay e1) rfl ?_;refine wo ?_;refine uI [anJ,aO (.mk 3 (Tx [46]) 0 [x,dN (l.drop (l.length-k))])] ⟨jB.refl _,⟨.refl _,.refl _,.refl _,UY x _,trivial⟩,trivial⟩ rfl (ag ?_);refine bb (k+1) aI aq ⟨.refl _,.refl _,.refl _,bJ.wrap aq aq Tz,trivial⟩ ?_;rw[hd,sN];rfl;have h:¬ (0:Int)<=(l.length:Int)-1-k:=by simpa using h
 have:l.length-k=0:=by omega
 rw[this];refine bz ?_;rfl
theorem adD(Y:YP)(l l2:List Tm)(ap:Bool)(nx:Int)(hb:∀t∈l2,eB t)(dR:l2≠[])(a8:l2.length<=1000):aU Tryz.prog Y 142 [.lo 0 0,.d (.sl (Tm.aa l2))] (j6 l [] ap ByteArray.empty nx 0) (bV (cf nx l2).h) (j6 l (cf nx l2).al ap ByteArray.empty (cf nx l2).nx (cf nx l2).e):=by
 have h:=O8 Y l [] l2 ap ByteArray.empty nx 0 hb dR a8;unfold cf;by_cases hr:l2.all de=true;rw[if_pos hr];rw[hr]at h;exact h;have RN:l2.all de=false:=by simpa using hr
 rw[if_neg hr];rw[RN]at h;exact h
theorem kB(Y:YP)(l:List Tm)(nx c:Int):aU Tryz.prog Y 161 [.lo 0 0,iV c] (j6 l [] false ByteArray.empty nx 0) (bV false) (j6 l [] false ByteArray.empty nx c):=by have h:=tT Y l [] false ByteArray.empty nx 0 c;rwa [n6,if_pos rfl]at h
theorem zK:∀(k:Nat) (nx:Int),dC nx (k+1)=dC nx k++[.mk 1 ByteArray.empty (nx+k) []]
 |0,nx=>by simp[dC]
 |k+1,nx=>by
  have e:nx+1+(k:Int)=nx+((k+1:Nat):Int):=by omega
  rw[dC,zK k (nx+1),dC,jo,e]
theorem C1:∀(k:Nat) (nx:Int),(dC nx k).length=k|0,_=>rfl|k+1,nx=>by rw[dC,dx,C1 k]
theorem LW{nx:Int}{k:Nat}:∀t∈dC nx k,t.size=1/\t.s=ByteArray.empty/\t.l=[]:=by
 induction k generalizing nx with
 |zero=>simp[dC]
 |succ k ih=>
  intro t ht;rw[dC]at ht;rcases cE.1 ht with rfl|ht
  exact⟨by simp[Tm.size,Tm.aw],rfl,rfl⟩;exact ih t ht
abbrev zL (Y:YP) (f:Nat) (l:List Tm) (nx:Int) (k:Ak):Prop:=aU Tryz.prog Y f [.lo 0 0] (j6 l [] false ByteArray.empty nx 0) (bV k.h) (j6 l k.al k.ap (Tx k.tx) k.nx k.e)
theorem C2(n:Int):eB (gC n):=⟨by simp[gC,Tm.size,Tm.aw],λd e he=>by
 rw[gC,Tm.kE]at he;rcases cE.1 he with rfl|he
 show ByteArray.empty.size<_;decide
 simp[Tm.l,Tm.iU]at he⟩
theorem C3{s:ByteArray}(h:s.size<1000000000):eB (gT s):=⟨by simp[gT,Tm.size,Tm.aw],λd e he=>by
 rw[gT,Tm.kE]at he;rcases cE.1 he with rfl|he
 exact h;simp[Tm.l,Tm.iU]at he⟩
theorem Iy(h:eB t):t.s.size<1000000000:=h.2 0 (0,t) WX
theorem xC{t x:Tm}(h:eB t)(hx:x∈t.l):eB x:=by have h1:=Tm.b8 hx;have h2:=Tm.size_eq t;refine⟨by have:=h.1;omega,λd e he=>h.2 (d-1) e ?_⟩;rw[Tm.kE];exact Xi _ (Tm.wy hx alk)
theorem Iz{k n:Int}{s:ByteArray}{l:List Tm}(hs:s.size<1000000000)(hl:∀x∈l,eB x)(hz:Tm.aw l+1<1000000000):eB (.mk k s n l):=⟨by simp only[Tm.size];omega,λd e he=>by
 rw[Tm.kE]at he;rcases cE.1 he with rfl|he
 exact hs;obtain ⟨x,hx,he⟩:=Tm.w7 he;exact(hl x hx).2 _ e he⟩
theorem zM:∀(k:Nat) (nx:Int),Tm.aw (dC nx k)=k|0,_=>rfl|k+1,nx=>by rw[dC,Tm.aw,zM k];simp only[Tm.size,Tm.aw];omega
theorem UZ(h1:t.size=1)(h2:t.s=ByteArray.empty)(h3:t.l=[]):eB t:=⟨by omega,λd e he=>by
 rw[Tm.kE,h3]at he;rcases cE.1 he with rfl|he
 simp only;rw[h2];decide;simp[Tm.iU]at he⟩
end Go.Proofs.YtmjmngigbachdaaGreatDoor

namespace ax
open Go Go.RowKit Go.MapKept
variable{objs:List Ob}{Fin:Exit->Act->World->Prop}{l:List (ByteArray×AV)}{n:ByteArray}{after:Array Edge}{pos:String}{E:bq}{k:List It}{ty T i:Nat}{v:AV}
theorem nn:dQ l n=none↔∀p∈l,p.1≠n:=by
 induction l with
 |nil=>simp[dQ]
 |cons p l ih=>simp only[dQ];grind
theorem C4(hn:(l.map (·.1)).Nodup):dQ l n=some v↔(n,v)∈l:=by
 induction l with
 |nil=>simp[dQ]
 |cons p l ih=>simp only[bM,Bo]at hn;simp only[dQ];grind
theorem U0{l m:List (ByteArray×AV)}(hp:l.Perm m)(hn:(m.map (·.1)).Nodup)(n:ByteArray):dQ l n=dQ m n:=by
 have hl:(l.map (·.1)).Nodup:=(hp.map _).nodup_iff.2 hn;cases h:dQ m n with
 |none=>exact nn.2 λp hq=>nn.1 h p (hp.mem_iff.1 hq)
 |some v=>exact(C4 hl).2 (hp.mem_iff.2 ((C4 hn).1 h))
theorem GA{es:List (Value×AV)}(h:es.Perm (eK l)):∃l',l'.Perm l/\es=eK l':=wU h l rfl
theorem ZC{n0:Nat}{es Eg:List (Value×AV)}(ho:dq objs i=some (.uj es)):Gr n0 2 objs (dj objs i (.uj Eg)):=λj x hj=>by rw[bE]at ho;rw[bx];by_cases e:j=i;subst e;rw[ho]at hj;cases hj;refine⟨.uj Eg,?_,.inr ⟨.inl ⟨by omega,eT _⟩,.inl ⟨by omega,eT _⟩⟩⟩;rw[u7 (fu.1 ho).1];grind
theorem yR{g:G}{pf:Nat->cI}{ad:Array Oper}(hg:di g){dst:Option Nat}{x y:Operand}{ok:Bool}{gd:Option (Nat×Bool)}{az:List Oper}
  {i q cq q' pA kt et:Nat} {z z':List Value}  {zv:Value} (l:List (ByteArray×AV)) (rO:(l.map (·.1)).Nodup)
  (bt:aH ad.toList E gd=some true) (hd:aQ ⟨g.ty,g.N⟩ dst=true) (hx:ev E x=.mp i) (ho:dq objs i=some (.uj (eK l))) (hy:ev E y=.d (.v (.string n))) (hT:g.ty T=some ⟨q,cq,z,.map kt et⟩)
  (o7:g.ty kt=some ⟨q',pA,z',.str⟩) (hz:(g.P.info? et).bind (·.zero)=some zv)  (hv:jG ok (lZ zv) (dQ l n)=v)
  (hr:R g pf Fin (.dr ad az::k) (bh E dst v) objs):R g pf Fin (.dr ad (⟨dst,.lookup T x y ok,ty,pos,after,gd⟩::az)::k) E objs:=by
 subst hv;have hu:=(hg.ty _ _ o7).sh;simp only[bH]at hu;refine cU (aK.fW hg 1 bt hd aD λφ a w bW hgr hρ hs=>?_) hr;simp only[Op.operands]at hρ;have aP:=hρ x aD;rw[hx]at aP;have eC:=hρ y aD;rw[hy]at eC;simp only[RV]at aP eC;obtain⟨b,hb,aP⟩:=aP;generalize o6:a.eval y=vy at eC;cases eC;have ho:dq bW i=some (.uj (eK l)):=by rw[bE]at ho ⊢;exact Gr.same hgr ho u6 Bl
 have hk:=cO hs hb ho;simp only[bj]at hk;obtain⟨ents,jr,Eg,LX,bg,dH⟩:=hk;obtain⟨l',Ns,rfl⟩:=GA LX;obtain⟨r,hf,hfr⟩:=je (n:=n) (l:=l') (i:=0);rw[U0 Ns rO]at hfr;have hlk:jG ok (lZ zv) (dQ l n)=pV ok (lZ zv) r:=by rw[<-hfr];cases r<;>rfl
 rw[hlk];have lf:g.P.underlying T=some (.map kt et):=by have:=(hg.ty _ _ hT).sh;simpa only[bH]using this
 have hzero:(zeroValue et).run g.P w=.ok zv w:=by exact Xu
 have hzR:RV (SS g.S0 φ) w φ (lZ zv) zv:=ix (l:=[]) (E:=[]) (E₁:=[]) (a:={tmps:=#[],defers:=[]}) aD (λt=>by simp[lk,RV]) (.const zv);have c0:=kI dH hf;have Bu:IsKey .string (.string n):=by simp[IsKey]
 cases r with
 |none=>simp only at c0;refine aZ hs (vv:=if ok then .tuple #[zv,.bool false]else zv) ?_ ?_;simp[execOp,Instr.lookup,run_underlying lf,aP,run_getObj_map bg,o6,run_checkKey hu Bu,run_findKey hu c0,hzero];simp only [pV];cases ok;simpa using hzR;simp only [if_true,RV];exact Xt
 |some p=>obtain⟨j,v⟩:=p;obtain⟨vv,h1,h2,_⟩:=c0;refine aZ hs (vv:=if ok then .tuple #[vv,.bool true]else vv) ?_ ?_;simp[execOp,Instr.lookup,run_underlying lf,aP,run_getObj_map bg,o6,run_checkKey hu Bu,run_findKey hu h1];simp only [pV];cases ok;simpa using h2;simp only [if_true,RV];exact Xv
theorem aha{g:G}{pf:Nat->cI}{ad:Array Oper}(hg:di g){dst:Option Nat}{x y v:Operand}{gd:Option (Nat×Bool)}{az:List Oper}
  {i q cq q' pA kt et:Nat} {z z':List Value}  {v':AV} (l l':List (ByteArray×AV))
  (bt:aH ad.toList E gd=some true) (hd:aQ ⟨g.ty,g.N⟩ dst=true) (hx:ev E x=.mp i) (ho:dq objs i=some (.uj (eK l))) (hy:ev E y=.d (.v (.string n))) (hT:g.ty T=some ⟨q,cq,z,.map kt et⟩)
  (o7:g.ty kt=some ⟨q',pA,z',.str⟩) (hv:ev E v=v') (hf:dQ l n=none) (hl:l++[(n,v')]=l')
  (hr:R g pf Fin (.dr ad az::k) (bh E dst .any) (dj objs i (.uj (eK l')))):R g pf Fin (.dr ad (⟨dst,.mapUpdate T x y v,ty,pos,after,gd⟩::az)::k) E objs:=by
 subst hl;subst hv;have hu:=(hg.ty _ _ o7).sh;simp only[bH]at hu;refine cU (aK.eU hg (ZC ho) bt hd aD λφ a' w hρ hs=>?_) hr;simp only[Op.operands]at hρ;have aP:=hρ x aD;rw[hx]at aP;have eC:=hρ y aD;rw[hy]at eC;have hvv:=hρ v aD;simp only[RV]at aP eC;obtain⟨b',hb,aP⟩:=aP;generalize o6:a'.eval y=vy at eC;cases eC;have sA:=cO hs hb ho;simp only[bj]at sA;obtain⟨ents,jr,Eg,LX,bg,dH⟩:=sA;obtain⟨l2,Ns,rfl⟩:=GA LX;have lf:g.P.underlying T=some (.map kt et):=by have:=(hg.ty _ _ hT).sh;simpa only[bH]using this
 obtain⟨r,h1,h2⟩:=je (n:=n) (l:=l2) (i:=0);have V8:dQ l2 n=none:=nn.2 λp hq=>nn.1 hf p (Ns.mem_iff.1 hq)
 have:r=none:=by simp_all
 subst this;have c0:=kI dH h1;simp only at c0;rw[bx];have lr:=heap_set (o':=.map (ents.push {key:=.string n,val:=a'.eval v,born:=jr}) (jr+1)) bg;refine⟨.skip,undef,{w with heap:=w.heap.setIfInBounds b' (.map (ents.push {key:=.string n,val:=a'.eval v,born:=jr}) (jr+1))},φ.set i (.jK b'),?_,.inr ⟨rfl,rfl⟩,by simp[RV],?_⟩;simp[execOp,Instr.mapUpdate,run_underlying lf,aP,run_getObj_map bg,o6,run_checkKey hu (show IsKey .string (.string n) by simp[IsKey]),run_findKey hu c0,run_setObj_map _ bg];refine j8.swap hs hb (.inl rfl) aD (λc _ hc=>lr.2 c λe=>hc Hj) (λb' hb=>.inl hb) rfl rfl rfl λbF hle=>?_
 simp only[bj];refine⟨_,_,eK (l2++[(n,ev E v)]),?_,lr.1,?_,?_⟩;unfold eK;exact(Ns.append_right _).map _;have:=dH.1;simp only[eK,eR,kn,bM,fm,Kg]at this ⊢;rw[this];have:=(dH.2.mono bF hle).append (l':=[ev E v]) (vs':=[a'.eval v]) Ts;simpa[eK]using this
section
variable {g:G} {pf:Nat->cI} {ad:Array Oper}
theorem LY(hg:di g){x y v:Operand}
  {i q cq q' pA kt et:Nat} {z z':List Value}  (l:List (ByteArray×AV))
  (hx:ev E x=.mp i) (ho:dq objs i=some (.map (eK l))) (hy:ev E y=.d (.v (.string n))) (hT:g.ty T=some ⟨q,cq,z,.map kt et⟩)
  (o7:g.ty kt=some ⟨q',pA,z',.str⟩) (hf:dQ l n=none):aK g ad ⟨none,.insert T x y v,ty,pos,after,none⟩ E objs (.bT 2) .any (dj objs i (.map (eK (l++[(n,ev E v)])))):=by
 have hu:=(hg.ty _ _ o7).sh;simp only[bH]at hu;obtain⟨r,h1,h2⟩:=je (n:=n) (l:=l) (i:=0);have:r=none:=by simp_all
 subst this;refine aK.eU hg (pW ho) rfl rfl aD λφ a w hρ hs=>?_
 simp only[Op.operands]at hρ;have aP:=hρ x aD;rw[hx]at aP;have eC:=hρ y aD;rw[hy]at eC;have hvv:=hρ v aD;simp only[RV]at aP eC;obtain⟨b,hb,aP⟩:=aP;generalize o6:a.eval y=vy at eC;cases eC;have hk:=cO hs hb ho;simp only[bj]at hk;obtain⟨ents,jr,bg,dH⟩:=hk;have lf:g.P.underlying T=some (.map kt et):=by have:=(hg.ty _ _ hT).sh;simpa only[bH]using this
 have c0:=kI dH h1;simp only at c0;have lr:=heap_set (o':=.map (ents.push {key:=.string n,val:=a.eval v,born:=jr}) (jr+1)) bg;rw[bx];refine⟨.skip,undef,{w with heap:=w.heap.setIfInBounds b (.map (ents.push {key:=.string n,val:=a.eval v,born:=jr}) (jr+1))},φ.set i (.jK b),?_,.inr ⟨rfl,rfl⟩,by simp[RV],?_⟩;simp[execOp,Instr.mapUpdate,run_underlying lf,aP,run_getObj_map bg,o6,run_checkKey hu (show IsKey .string (.string n) by simp[IsKey]),run_findKey hu c0,run_setObj_map _ bg];refine j8.swap hs hb (.inl rfl) aD (λc _ hc=>lr.2 c λe=>hc Hj) (λb' hb=>.inl hb) rfl rfl rfl λbF hle=>?_
 simp only[bj];refine⟨_,_,lr.1,?_,?_⟩;have:=dH.1;simp only[eK,eR,kn,bM,fm,Kg]at this ⊢;rw[this];have:=(dH.2.mono bF hle).append (l':=[ev E v]) (vs':=[a.eval v]) Ts;simpa[eK]using this
def uA (g:G)(ad:Array Oper)(o:Oper)(E:bq)(objs:List Ob)(v:AV)(objs':List Ob):Prop:=aK g ad o E objs .jz v objs'
theorem aK.toE{o:Oper}{objs objs':List Ob}{c:cI}(h:aK g ad o E objs c v objs'):uA g ad o E objs v objs' :=⟨λh=>absurd rfl (h _),(λb h hb=>by cases h;omega),λE₁ o₁ jF a w h1 h2 h3=>h.step E₁ o₁ jF a w h1 (by simp_all) h3⟩
theorem jU{α β:Type}{f:α->β}{l:List α}(h:(l.map f).Nodup){x y:α}(hx:x∈l)(hy:y∈l)(he:f x=f y):x=y:=by
 induction l with
 |nil=>cases hx
 |cons a l ih=>grind
abbrev U1:=Nat×ByteArray×Nat
def yS (E1:bq)(l:List U1):List (ByteArray×AV):=l.map λp=>(p.2.1,lk E1 p.2.2)
structure IA (g:G) (ad:Array Oper) (jm tm:Nat) (ins:List U1) (objs:List Ob) (E0 E1:bq):Prop where
 back:∀(j:Nat) (o:Oper),ad[j]? = some o->∀e∈o.after.toList,Region.binds .any e=true->e.on<j
 dep:∀(j:Nat) (o:Oper),ad[j]? = some o->∀t∈o.looksAt ad,∀(i:Nat) (x:Oper),ad[i]? = some x->x.dst=some t->∃e∈o.after.toList,Region.binds .any e=true/\e.on=i
 start:∀t,(∀(j:Nat) (o:Oper),ad[j]? = some o->o.dst≠some t)->bJ (lk E0 t) (lk E1 t)
 loc:∀(j:Nat) (o:Oper),ad[j]? = some o->j≠jm->(∀p∈ins,p.1≠j)->∀tl,∃v,uA g ad o E1 (objs++tl) v (objs++tl)/\∀d,o.dst=some d->bJ v (lk E1 d)
 make:∃o,ad[jm]? = some o/\o.dst=some tm/\uA g ad o E1 objs (.mp objs.length) (objs++[.map []])
 map:lk E1 tm=.mp objs.length
 put:∀p∈ins,p.1≠jm/\∃(T ty:Nat) (pos:String) (after:Array Edge) (q cq q' pA kt et:Nat) (z z':List Value),ad[p.1]? = some ⟨none,.insert T (.tmp tm) (.const (.string p.2.1)) (.tmp p.2.2),ty,pos,after,none⟩/\g.ty T=some ⟨q,cq,z,.map kt et⟩/\g.ty kt=some ⟨q',pA,z',.str⟩
 keys:(ins.map (·.2.1)).Nodup
 UT:(ins.map (·.1)).Nodup
theorem LZ(hg:di g){jm tm:Nat}{ins:List U1}{E0 E1:bq}(hf:IA g ad jm tm ins objs E0 E1){Q:Exit->Act->World->Prop}(hQ:∀a w,fi g E1 (objs++[.uj (eK (yS E1 ins))]) a w->Q .normal a w) :
  ∀(ab:Nat) (aM:Array Bool) (R:List Nat) (E:bq) (objs':List Ob) (a:Act) (w:World),aM.size=ad.size->Cl ad aM->(∀i,i∈R↔i<ad.size/\aM.getD i true=false)->R.Pairwise (· < ·)->R.length<=ab ->
   (∀t,(∀j∈R,∀o,ad[j]? = some o->o.dst≠some t)->bJ (lk E t) (lk E1 t)) ->
   ((jm∈R/\objs'=objs)\/(jm ∉ R/\∃lx:List U1,objs'=objs++[.map (eK (yS E1 lx))]/\lx.Nodup/\∀p,p∈lx↔p∈ins/\p.1 ∉ R)) ->
   fi g E objs' a w->wpAnyIn g.F g.dep g.P .any ad Q ab aM a w:=by
 have yE:∀(E:bq) (objs':List Ob) (a:Act) (w:World),(∀t,bJ (lk E t) (lk E1 t))->(∃lx:List U1,objs'=objs++[.map (eK (yS E1 lx))]/\lx.Nodup/\∀p,p∈lx↔p∈ins)->fi g E objs' a w->Q .normal a w:=λE objs' a w he ho hs=>by
  obtain⟨lx,rfl,rO,hm⟩:=ho;refine hQ a w ?_;have aja:ins.Nodup:=by have:=hf.UT;exact List.Pairwise.of_map (f:=λp:U1=>p.1) (λa b h e=>h (by rw[e])) this
  have LX:lx.Perm ins:=(List.perm_ext_iff_of_nodup rO aja).2 hm;obtain⟨φ,h1,h2⟩:=hs.Ag he;refine⟨φ,⟨by rw[h1.len];simp,λi ph b hi hb=>?_,h1.jO,h1.lt,h1.up⟩,h2⟩;rcases qE i objs.length with fE|hge
  exact h1.ok i ph b hi jD;have mG:=(fu.1 hb).1;simp only[List.length_append,dx,mu]at mG;have hie:i=objs.length:=by omega
  subst hie;have hb:b=.uj (eK (yS E1 ins)):=by simp_all
  subst hb;have ho:=h1.ok objs.length ph (.map (eK (yS E1 lx))) hi ir;cases ph<;>simp only[bj]at ho ⊢
  obtain⟨ents,jr,h3,h4⟩:=ho;exact⟨ents,jr,_,(LX.map _).map _,h3,h4⟩
 intro ab;induction ab with
 |zero=>intro aM R E objs' a w uM hc hR _ C5 he ho hs;have:R=[]:=kG.1 aq;subst this;refine⟨?_,yE E objs' a w (λt=>he t aD) ?_ hs⟩;apply ahx.2;intro i hi;exact al5;simp_all
 |succ ab ih=>
  intro aM R E objs' a w uM hc hR hp C5 he ho hs;refine⟨λKm=>?_,λi hi=>?_⟩;cases R with
  |nil=>refine yE E objs' a w (λt=>he t aD) ?_ hs;simp_all
  |cons k R'=>
   exfalso;obtain⟨aI,mn⟩:=(hR k).1 aD;have sA:ad[k]? = some ad[k]:=Ey aI
   have:k∈Region.ready .any ad aM:=by
    refine mem_ready.2 ⟨aI,mn,ad[k],sA,λe Ad hb=>?_⟩;have fE:=hf.back k _ sA e Ad hb
    have vg:e.on ∉ (k::R'):=λhm=>by
     rcases cE.1 hm with hm|hm
     omega;have:=(k8.1 hp).1 _ hm;omega
    have hsz:e.on<aM.size:=by omega
    have h2:¬ (aM.getD e.on true=false):=λh2=>vg ((hR e.on).2 ⟨by omega,h2⟩)
    simp only[Array.getD,hsz,dif_pos]at h2 ⊢;simpa using h2
   simp_all
  obtain ⟨ny,Np,o,JF,ia⟩:=mem_ready.1 hi;have hiR:=(hR i).2 ⟨ny,Np⟩;obtain⟨pre,post,rfl⟩:=NO hiR;have X8:∀k∈pre++i::post,aM.getD k false=true->False:=λk hk h=>by grind
  have GB:∀t∈o.looksAt ad,bJ (lk E t) (lk E1 t):=λt ht=>he t λj hj x hx hd=>by obtain⟨e,he1,Pa,he3⟩:=hf.dep i o JF t ht j x hx hd;grind
  have IB:i ∉ pre++post:=λhm=>by
   rcases cu.1 hm with hm|hm
   grind;have:=(k8.1 (mw.1 hp).2.1).1 i hm;omega
  have eV:∀k,k∈pre++post↔k∈pre++i::post/\k≠i:=λk=>by grind
  have key:∃v ek,uA g ad o E1 objs' v ek/\(∀d,o.dst=some d->bJ v (lk E1 d))/\((jm∈pre++post/\ek=objs)\/(jm ∉ pre++post/\∃lx:List U1,ek=objs++[.map (eK (yS E1 lx))]/\lx.Nodup/\∀p,p∈lx↔p∈ins/\p.1 ∉ pre++post)):=by
   by_cases Up:i=jm;subst Up;obtain⟨om,h1,h2,h3⟩:=hf.make;rw[JF]at h1;cases h1;have wM:objs'=objs:=by simp_all
   subst wM;refine⟨_,_,h3,λd hd=>?_,.inr ⟨IB,[],by simp[yS,eK],.nil,λp=>?_⟩⟩;rw[h2]at hd;cases hd;rw[hf.map];exact .refl _;refine ⟨λh=>(by cases h),λ⟨hpi,hpn⟩=>?_⟩;exfalso;obtain⟨XG,T,ty,pos,after,_,_,_,_,_,_,_,_,IC,_⟩:=hf.put p hpi;have vm:aM.getD p.1 false=true:=by grind
   obtain⟨e,he1,Pa,he3⟩:=hf.dep p.1 _ IC tm abX i o JF h2;exact X8 i hiR (by rw[<-he3];exact hc p.1 _ vm IC e he1 Pa);by_cases Ah:∃p∈ins,p.1=i;obtain ⟨p,hpi,rfl⟩:=Ah;obtain⟨XG,T,ty,pos,after,q,cq,q',pA,kt,et,z,z',IC,hT,o7⟩:=hf.put p hpi;rw[JF]at IC;cases IC;obtain⟨om,hm1,hm2,_⟩:=hf.make;have hjm:jm ∉ pre++p.1::post:=λhj=>by obtain⟨e,he1,Pa,he3⟩:=hf.dep p.1 _ JF tm abX jm om hm1 hm2;grind
   rcases ho with ⟨h,_⟩|⟨_,lx,rfl,rO,hm⟩
   simp_all;have hpx:p ∉ lx:=λh=>((hm p).1 h).2 hiR
   have hgs:dQ (yS E1 lx) p.2.1=none:=nn.2 λx hx=>by
    obtain⟨y,hy,rfl⟩:=gm.1 hx;intro hk;have hyi:=((hm y).1 hy).1;have:y=p:=by have NT:=hf.keys;exact jU NT hyi hpi hk
    simp_all
   refine⟨.any,_,(LY hg (yS E1 lx) (i:=objs.length) (by simpa[ev]using hf.map) (by rw[bE,nA cZ];simp) rfl hT o7 hgs).toE,λd hd=>(by cases hd),.inr ⟨λh=>hjm ((eV _).1 h).1,lx++[p],?_,?_,λx=>?_⟩⟩;rw [bx,Xn _ _ cZ];simp[yS,ev];grind;rw [cu,eu,hm,eV];constructor;grind;rintro ⟨h1,h2⟩;by_cases hx:x.1=p.1;exact .inr (jU hf.UT h1 hpi hx);simp_all;have hni:∀p∈ins,p.1≠i:=λp hp e=>Ah ⟨p,hp,e⟩
   have ar7:jm∈pre++post↔jm∈pre++i::post:=⟨λh=>((eV _).1 h).1,λh=>(eV _).2 ⟨h,λe=>Up e.symm⟩⟩;rcases ho with ⟨h,rfl⟩|⟨h,lx,rfl,rO,hm⟩
   obtain ⟨v,h1,h2⟩:=hf.loc i o JF Up hni [];grind;obtain ⟨v,h1,h2⟩:=hf.loc i o JF Up hni [.map (eK (yS E1 lx))];grind
  obtain⟨v,ek,lu,hv,uN⟩:=key;have eX:=lu.step E objs' ek a w GB (.inr (.inr ⟨rfl,rfl⟩)) hs Q;refine wpOpIn_mono (K:=λa' w'=>fi g (bh E o.dst v) ek a' w') (λa' w' fk=>?_) W8;have kZ:∀(k:Nat) (d:Bool),(aM.setIfInBounds i true).getD k d=if k=i then true else aM.getD k d:=by intro k d;simp only[Hm,TH];grind
  refine ih _ (pre++post) _ ek a' w' (by simp[uM]) ?_ ?_ ?_ ?_ ?_ uN fk;intro k o' hk sA e Ad hb;rw[kZ]at hk ⊢;by_cases mo:k=i;simp_all;rw [if_neg mo]at hk;have:=hc k o' hk sA e Ad hb;simp_all;intro k;rw[kZ,eV];grind;grind;grind;intro t ht;rw[gz];grind
theorem ajc(hg:di g){id jm tm:Nat}(ins:List U1)(E1:bq)(hk:mR k=true)(hf:IA g ad jm tm ins objs E E1)(h:R g pf Fin k E1 (objs++[.uj (eK (yS E1 ins))])):R g pf Fin (.code (.region id ad true)::k) E objs:=by
 rintro⟨_,ho⟩ a w hs;simp only[KP];refine wpIn_region_any hg.mixed ?_;refine LZ hg hf (λa w hs=>?_) ad.size (Array.replicate ad.size false) (List.range ad.size) E objs a _ aD ?_ ?_ (TJ) aD ?_ ?_ hs.drew;exact RK.ej (pf:=pf) (k:=k) ho h (iD hk) a w hs;intro k o hk;simp[Array.getD]at hk;simp_all;intro t ht;exact hf.start t λj o hj=>ht j (Ka.2 (Ab.1 hj).1) o hj
 obtain ⟨o,h1,_⟩:=hf.make;grind
end
end ax

namespace ax
open Go Go.RowKit
theorem HS.ZD {S0:Nat->Prop}{φ φ':List bI}{objs objs':List Ob}{w:World}(h:HS S0 φ objs w)(f:AV->AV)(a8:φ'.length=objs'.length)(σ:Nat->Nat)(hσ:∀i j,i<φ'.length->j<φ'.length->σ i=σ j->i=j)(fj:∀(i:Nat) (p:bI) (b:Nat),φ'[i]? = some p->p.bl b->∃q,φ[σ i]? = some q/\q.bl b)
  (Ya:∀(i:Nat) (pO:Ob),objs'[i]? = some pO->pO=.dead\/(∃ob,objs[i]? = some ob/\φ'[i]? = φ[i]? /\ pO=aR f ob)\/∃ph,φ'[i]? = some ph/\bj (SS S0 φ') w φ' ph pO) (hf:∀x v,RV (SS S0 φ) w φ x v->RV (SS S0 φ') w φ' (f x) v):HS S0 φ' objs' w:=by
 have hJ:∀b,eH φ' b->eH φ b:=by rintro b ⟨i,p,h1,h2⟩;obtain⟨q,h3,h4⟩:=fj i p b h1 h2;exact⟨σ i,q,h3,h4⟩
 have bF:dL (SS S0 φ) w (SS S0 φ') w:=λb hb _=>⟨⟨hb.1,λhc=>hb.2 (hJ b hc)⟩,rfl⟩
 refine⟨a8,λi ph pO h1 h2=>?_,λi j p q b h1 h2 h3 h4=>?_,λb hb=>h.lt b (hJ b hb),h.up⟩;rcases Ya i pO h2 with rfl| ⟨ob,h3,h4,rfl⟩| ⟨ph',h3,h4⟩
 simp only[bj];rw [h1]at h4;have hk:=h.ok i ph ob h4.symm h3;cases ph<;>cases ob<;>simp only[bj,aR]at hk ⊢
 obtain ⟨cs,T,h5,h6⟩:=hk;exact⟨cs,T,h5,h6.map' f hf⟩;obtain ⟨ents,jr,h5,h6,h7⟩:=hk;exact alP;exact hk;obtain ⟨cs,h5,h6⟩:=hk;exact⟨cs,h5,h6.map' f hf⟩;obtain ⟨ents,jr,Eg,h0,h5,h6,h7⟩:=hk;exact alM;obtain ⟨h0,No,h5,h6⟩:=hk;exact ahE;exact hk;exact al8;obtain ⟨h0,No,h1,h2⟩:=hk;exact alJ;rw[h1]at h3;cases h3;exact h4;obtain ⟨p',k1,k1'⟩:=fj i p b h1 h3;obtain⟨q',k2,k2'⟩:=fj j q b h2 h4;exact hσ i j (fu.1 h1).1 (fu.1 h2).1 (h.jO _ _ p' q' b k1 k2 k1' k2')
section
variable {g:G} {pf:Nat->cI} {ad:Array Oper} {Fin:Exit->Act->World->Prop}
def mvA (n i:Nat):AV->AV| .ow j t=>bif Nat.beq j i then .ow n t else dD n (.ow j t)|x=>dD n x
theorem adF {k:List It}{E:bq}{objs:List Ob}(n i:Nat){sz s:Nat}{aa:List (List D)}(objs':List Ob)(hn:g.φ0.length<=n)(hni:n<=i)(ho:dq objs i=some (.arr sz s aa))(ht:gM k=true)(Ya:(objs.take n).map (aR (dD n))++[.arr sz s aa]=objs')
  (hr:R g pf Fin k (qP (mvA n i) E) objs') (jP:g.rZ=[]:=by rfl):R g pf Fin k E objs:=by
 subst Ya;refine mT ht (λa w hs=>?_) hr;obtain⟨φ,h1,h2,h3,h4,h5,h6⟩:=hs;rw[bE]at ho;have mG:=(fu.1 ho).1;have fj:φ[i]? = some (φ[i]' ab3):=dG _;generalize φ[i]' ab3=ph at fj;have hk:=h1.ok i ph _ fj ho;have X8:(φ.take n).length=n:=by rw[zi,h1.len];omega
 have hp:∀j,j<n->(φ.take n++[ph])[j]? = φ[j]? := λj hj=>by rw[mv aq];exact rP hj
 have hpn:(φ.take n++[ph])[n]? = some ph:=by rw[nA aq,X8,Nat.sub_self];rfl
 have Pb:∀(j:Nat) (p:bI),(φ.take n++[ph])[j]? = some p->(j<n/\φ[j]? = some p)\/(j=n/\p=ph):=λj p hj=>by
  rcases qE j n with h|h
  exact .inl ⟨h,by rw[<-hp j h];exact hj⟩;have BP:=(fu.1 hj).1;rw[List.length_append,X8,Bp]at BP;have:j=n:=by omega
  subst this;rw[hpn]at hj;cases hj;exact .inr ⟨rfl,rfl⟩
 have hJ:∀b,eH (φ.take n++[ph]) b->eH φ b:=by
  rintro b ⟨j,p,g1,g2⟩;rcases Pb j p g1 with ⟨_,h⟩|⟨_,rfl⟩
  exact⟨j,p,h,g2⟩;exact⟨i,p,fj,g2⟩
 have bF:dL (SS g.S0 φ) w (SS g.S0 (φ.take n++[ph])) w:=λb hb _=>⟨⟨hb.1,λhc=>hb.2 (hJ b hc)⟩,rfl⟩
 have Nq:bj (SS g.S0 (φ.take n++[ph])) w (φ.take n++[ph]) ph (.arr sz s aa):=by
  cases ph<;>simp only[bj]at hk ⊢
  obtain⟨h0,No,h5,h6⟩:=hk;exact ahE
 have htr:∀x v,RV (SS g.S0 φ) w φ x v->RV (SS g.S0 (φ.take n++[ph])) w (φ.take n++[ph]) (dD n x) v:=wS bF hp;refine⟨φ.take n++[ph],h1.ZD (dD n) (by simp[h1.len]) (λj=>if j<n then j else i) (λa b ha hb he=>?_) (λj p b hj hb=>?_) (λj pO hj=>?_) htr,λb hb=>h2 b (hJ b hb),λu=>?_,h4,JA.Kn jP h5 hJ,h6.Kn (λj l I B h=>⟨B,?_⟩) (λj p hj=>?_)⟩;rw [List.length_append,X8,Bp]at ha hb;by_cases h:a<n<;>by_cases h':b<n<;>simp only[h,h',if_true,if_false]at he<;>omega
 rcases Pb j p hj with ⟨h,h'⟩| ⟨h,rfl⟩
 exact⟨p,by simp only[if_pos h];exact h',hb⟩;exact⟨p,by simp only[h,ab6,if_false];exact fj,hb⟩
 ·have hol:((objs.take n).map (aR (dD n))).length=n:=by rw [fQ,zi]; omega
  rcases qE j n with h|h
  rw [mv aq,fP,rP h]at hj;cases hoj:objs[j]? with
  |none=>rw[hoj]at hj;cases hj
  |some ob=>rw[hoj]at hj;exact .inr (.inl ⟨ob,rfl,hp j h,by simpa using hj.symm⟩)
  have BP:=(fu.1 hj).1;rw[List.length_append,hol,Bp]at BP;have:j=n:=by omega
  subst this;rw[nA aq,hol,Nat.sub_self]at hj;simp only[TI,Option.some.injEq]at hj;subst hj;exact .inr (.inr ⟨ph,hpn,Nq⟩)
 ·rcases tE (f:=mvA n i) E u with h| h
  rw [h];have hv:=h3 u;generalize lk E u=x at hv;cases x with
  |ow j t=>
   simp only[mvA];cases hb:Nat.beq j i with
   |false=>exact htr _ _ hv
   |true=>have:=cB hb;subst this;simp only[cond_true,RV]at hv ⊢;obtain⟨q1,ph',q2,q3⟩:=hv;rw[fj]at q2;cases q2;exact⟨q1,ph,hpn,q3⟩
  |_=>exact htr _ _ hv
  rw[h];simp[RV]
 rcases Pb j _ h with ⟨hjn,hj⟩| ⟨_,hj⟩
 exact hj;subst hj;simp only[bj]at hk;obtain ⟨p',h7,h8⟩:=h6.le j p hj;exact⟨p',by rw[hp j (Kc (fu.1 hj).1 hn)];exact h7,h8⟩
end
end ax

namespace ax
open Go Go.RowKit
variable{objs:List Ob}{Z:List AV}
structure ID where
 j:Nat
 d:Nat
 s:Nat
 x:Nat
 c:List AV
section
variable {g:G} {pf:Nat->cI} {ad:Array Oper}
structure L0 (g:G) (ad:Array Oper) (Z:List AV) (al:List ID) (objs:List Ob) (E0 E1:bq):Prop where
 back:∀(j:Nat) (o:Oper),ad[j]? = some o->∀e∈o.after.toList,Region.binds .any e=true->e.on<j
 dep:∀(j:Nat) (o:Oper),ad[j]? = some o->∀t∈o.looksAt ad,∀(i:Nat) (x:Oper),ad[i]? = some x->x.dst=some t->∃e∈o.after.toList,Region.binds .any e=true/\e.on=i
 start:∀t,(∀(j:Nat) (o:Oper),ad[j]? = some o->o.dst≠some t)->bJ (lk E0 t) (lk E1 t)
 loc:∀(j:Nat) (o:Oper),ad[j]? = some o->(∀e∈al,e.j≠j/\e.s≠j)->(∀e∈al,e.d ∉ o.looksAt ad)/\∀tl,∃v,uA g ad o E1 (objs++tl) v (objs++tl)/\∀d,o.dst=some d->bJ v (lk E1 d)
 alloc:∀e∈al,∃o,ad[e.j]? = some o/\o.dst=some e.d/\o.looksAt ad=[]/\∀objs',uA g ad o E1 objs' (.lo objs'.length 0) (objs'++[.box Z])
 store:∀e∈al,∃(T ty:Nat) (pos:String) (after:Array Edge) (τ:Ty),ad[e.s]? = some ⟨none,.store T (.tmp e.d) (.tmp e.x),ty,pos,after,none⟩/\g.ty T=some τ/\gn (lk E1 e.x)=some e.c/\e.c.length=τ.size/\Z.length=τ.size/\(∀e'∈al,e'.d≠e.x/\e'.j≠e.s)
 slot:∀(i:Nat) (e:ID),al[i]? = some e->lk E1 e.d=.lo (objs.length+i) 0
 uniq:∀(j:Nat) (o:Oper) (e:ID),e∈al->ad[j]? = some o->o.dst=some e.d->j=e.j
 UT:(al.map (·.j)).Nodup
 sts:(al.map (·.s)).Nodup
 ds:(al.map (·.d)).Nodup
 pure:∀t,(∀e∈al,e.d≠t)->dD objs.length (lk E1 t)=lk E1 t
 aqy:objs.map (aR (dD objs.length))=objs
 pc:∀e∈al,e.c.map (dD objs.length)=e.c
 len:g.φ0.length<=objs.length
 rZ:g.rZ=[]
theorem L3:∀(Z c:List AV),c.length=Z.length->gL Z 0 c=c:=λZ c h=>by
 have key:∀(c Z:List AV) (off:Nat),off+c.length=Z.length->gL Z off c=Z.take off++c:=λc=>by
  induction c with
  |nil=>intro Z off h;simp only[mu,Fp]at h;rw[gL,yq,Fm aq]
  |cons x c ih=>intro Z off h;simp only[dx]at h;rw[gL,bx,ih (Z.set off x) (off+1) W4,List.take_set];rw[Jt,dG (by omega:off<Z.length)];simp only[Option.toList_some];rw[Xn _ _ (by rw[zi];omega)];simp[zi,Hl (by omega:off<=Z.length)]
 simp_all
theorem ZE{al π:List ID}{E0 E1 E:bq}(hf:L0 g ad Z al objs E0 E1)(hπ:∀e,e∈π↔e∈al)(h1:∀t,(∀e∈al,e.d≠t)->bJ (lk E t) (lk E1 t))(h2:∀(p:Nat) (e:ID),π[p]? = some e->bJ (lk E e.d) (.lo (objs.length+p) 0)){a:Act}{w:World}(hs:fi g E (objs++π.map λe=>.box e.c) a w):fi g E1 (objs++al.map λe=>.box e.c) a w:=by
 obtain⟨f,hfp⟩:=Classical.axiomOfChoice (r:=λ(i p:Nat)=>i<al.length->π[p]? = al[i]?) (λi=>by by_cases hi:i<al.length;obtain ⟨p,hp⟩:=wD.1 ((hπ al[i]).2 (dy hi));exact⟨p,λ_=>by rw[hp,dG hi]⟩;exact⟨0,λh=>absurd h hi⟩);have Ek:∀i,i<al.length->f i<π.length:=λi hi=>by have:=hfp i hi;rw[dG hi]at this;exact(fu.1 this).1
 have aqz:∀i j,i<al.length->j<al.length->f i=f j->i=j:=λi j hi hj he=>by have e1:=hfp i hi;have e2:=hfp j hj;rw[he,e2]at e1;have hn:al.Nodup:=List.Pairwise.of_map (f:=λe:ID=>e.j) (λa b h e=>h (by rw[e])) hf.UT;rw[dG hi,dG hj,Option.some.injEq]at e1;exact((Q6 hn).1 e1).symm
 obtain⟨φ,h3,h4,h5,h6,h7,h8⟩:=hs;generalize qI:objs.length=n at *;have avf:φ.length=n+π.length:=by rw[h3.len];simp[qI]
 obtain⟨ψ,hψ⟩:∃ψ:List bI,ψ=φ.take n++(List.range al.length).map λi=>(φ[n+f i]?).getD .no:=⟨_,rfl⟩
 have htl:(φ.take n).length=n:=by rw[zi];omega
 have ar9:ψ.length=n+al.length:=by rw[hψ];simp[htl]
 have yF:∀i,i<n->ψ[i]? = φ[i]? := λi hi=>by rw[hψ,mv aq,rP hi]
 have hp2:∀i,i<al.length->ψ[n+i]? = φ[n+f i]? := λi hi=>by have hl:=Ek i hi;rw[hψ,nA aq,htl,zm,fP,Xg hi];simp[dG (show n+f i<φ.length by omega)]
 have Pb:∀(i:Nat) (p:bI),ψ[i]? = some p->(i<n/\φ[i]? = some p)\/(∃k,k<al.length/\i=n+k/\φ[n+f k]? = some p):=λi p hi=>by
  rcases qE i n with h|h
  exact .inl ⟨h,by rw[<-yF i h];exact hi⟩;have mG:=(fu.1 hi).1;obtain⟨k,rfl⟩:∃k,i=n+k:=⟨i-n,by omega⟩;exact .inr ⟨k,by omega,rfl,by rw[<-hp2 k aq];exact hi⟩
 have hJ:∀b,eH ψ b->eH φ b:=by
  rintro b ⟨i,p,g1,g2⟩;rcases Pb i p g1 with ⟨_,h⟩|⟨k,_,_,h⟩
  exact⟨i,p,h,g2⟩;exact⟨n+f k,p,h,g2⟩
 have bF:dL (SS g.S0 φ) w (SS g.S0 ψ) w:=λb hb _=>⟨⟨hb.1,λhc=>hb.2 (hJ b hc)⟩,rfl⟩
 have htr:∀x v,RV (SS g.S0 φ) w φ x v->RV (SS g.S0 ψ) w ψ (dD n x) v:=wS bF yF;refine⟨ψ,h3.ZD (dD n) (by rw[ar9];simp[qI]) (λi=>if i<n then i else n+f (i-n)) (λi j hi hj he=>?_) (λi p b hi hb=>?_) (λi pO hi=>?_) htr,λb hb=>h4 b (hJ b hb),λt=>?_,h6,JA.Kn hf.rZ h7 hJ,h8.Kn (λi l I B h=>?_) (λi p hi=>?_)⟩;rw [ar9]at hi hj;by_cases h:i<n<;>by_cases h':j<n<;>simp only[h,h',if_true,if_false]at he
 exact he;omega;omega;have:=aqz (i-n) (j-n) aq aq aq;omega;rcases Pb i p hi with ⟨h,h'⟩| ⟨k,hk,rfl,h⟩
 exact⟨p,by simp only[if_pos h];exact h',hb⟩;exact⟨p,by rw[if_neg aq,zm];exact h,hb⟩;rcases qE i n with h| h
 rw [mv aq]at hi;refine .inr (.inl ⟨pO,by rw[mv aq];exact hi,yF i h,?_⟩);have:=hf.aqy;rw[qI]at this;have e:=congrArg (λl=>l[i]?) this;simp only[fP,hi,ss,Option.some.injEq]at e;exact e.symm;have mG:=(fu.1 hi).1;simp only[List.length_append,fQ,qI]at mG;obtain⟨k,rfl⟩:∃k,i=n+k:=⟨i-n,by omega⟩;have hk:k<al.length:=by omega
 rw[nA aq,qI,zm,fP,dG hk]at hi;simp only[ss,Option.some.injEq]at hi;subst hi;have hl:=Ek k hk;have fj:φ[n+f k]? = some φ[n+f k]:=dG aq;have wM:(objs++π.map λe=>Ob.box e.c)[n+f k]? = some (.box al[k].c):=by rw[nA aq,qI,zm,fP,hfp k hk,dG hk];rfl
 have dA:=h3.ok _ _ _ fj wM;refine .inr (.inr ⟨φ[n+f k],by rw[hp2 k hk];exact fj,?_⟩);generalize φ[n+f k]=ph at dA;cases ph<;>simp only[bj]at dA ⊢
 obtain⟨cs,T,g1,g2⟩:=dA;refine⟨cs,T,g1,?_⟩;have:=g2.map' (dD n) htr;rwa [<-qI,hf.pc _ (dy hk)]at this;by_cases ht:∃e∈al,e.d=t;obtain ⟨e,he,rfl⟩:=ht;obtain⟨i,hi⟩:=wD.1 he;have mG:=(fu.1 hi).1;rw[hf.slot i e hi,qI];have hv:=h2 (f i) e (by rw[hfp i mG,hi]) _ _ _ _ (h5 e.d);simp only[RV]at hv ⊢;obtain⟨b,g1,g2⟩:=hv;exact⟨b,by rw[hp2 i mG];exact g1,g2⟩;have dR:∀e∈al,e.d≠t:=λe he h=>ht ⟨e,he,h⟩
 have hv:=htr _ _ (h1 t dR _ _ _ _ (h5 t));rwa [<-qI,hf.pure t dR]at hv;rcases Pb i _ h with ⟨Ah,hi⟩| ⟨k,hk,rfl,hi⟩
 exact⟨B,hi⟩;exfalso;have wM:(objs++π.map λe=>Ob.box e.c)[n+f k]? = some (.box al[k].c):=by rw[nA aq,qI,zm,fP,hfp k hk,dG hk];rfl
 have dA:=h3.ok _ _ _ hi wM;simp only[bj]at dA;obtain ⟨p',g1,g2⟩:=h8.le i p hi;have Ah:i<n:=Kc (fu.1 hi).1 (qI ▸ hf.len);exact⟨p',by rw[yF i Ah];exact g1,g2⟩
theorem Pc(hg:di g){al:List ID}{E0 E1:bq}(hf:L0 g ad Z al objs E0 E1){Q:Exit->Act->World->Prop}(hQ:∀a w,fi g E1 (objs++al.map λe=>.box e.c) a w->Q .normal a w) :
  ∀(ab:Nat) (aM:Array Bool) (R:List Nat) (E:bq) (π:List ID) (a:Act) (w:World),aM.size=ad.size->Cl ad aM->(∀i,i∈R↔i<ad.size/\aM.getD i true=false)->R.Pairwise (· < ·)->R.length<=ab ->
   (∀t,(∀e∈al,e.d≠t)->(∀j∈R,∀o,ad[j]? = some o->o.dst≠some t)->bJ (lk E t) (lk E1 t)) ->
   (∀(p:Nat) (e:ID),π[p]? = some e->bJ (lk E e.d) (.lo (objs.length+p) 0))->π.Nodup->(∀e,e∈π↔e∈al/\e.j ∉ R) ->
   fi g E (objs++π.map λe=>.box (if e.s∈R then Z else e.c)) a w->wpAnyIn g.F g.dep g.P .any ad Q ab aM a w:=by
 have yE:∀(E:bq) (π:List ID) (a:Act) (w:World),(∀t,(∀e∈al,e.d≠t)->bJ (lk E t) (lk E1 t))->(∀(p:Nat) (e:ID),π[p]? = some e->bJ (lk E e.d) (.lo (objs.length+p) 0))->(∀e,e∈π↔e∈al/\e.j ∉ ([]:List Nat))->fi g E (objs++π.map λe=>.box (if e.s∈([]:List Nat)then Z else e.c)) a w->Q .normal a w:=λE π a w h1 h2 h3 hs=>by simp only[pL,if_false,not_false_eq_true,and_true]at h3 hs;exact hQ a w (ZE hf h3 h1 h2 hs)
 intro ab;induction ab with
 |zero=>intro aM R E π a w uM hc hR _ C5 he1 Pa rO hπ hs;have:R=[]:=kG.1 aq;subst this;refine⟨?_,yE E π a w (λt ht=>he1 t ht aD) Pa hπ hs⟩;apply ahx.2;intro i hi;exact al5
 |succ ab ih=>
  intro aM R E π a w uM hc hR hp C5 he1 Pa rO hπ hs;refine⟨λKm=>?_,λi hi=>?_⟩;cases R with
  |nil=>exact yE E π a w (λt ht=>he1 t ht aD) Pa hπ hs
  |cons k R'=>
   exfalso;obtain⟨aI,mn⟩:=(hR k).1 aD;have sA:ad[k]? = some ad[k]:=Ey aI
   have:k∈Region.ready .any ad aM:=by
    refine mem_ready.2 ⟨aI,mn,ad[k],sA,λe Ad hb=>?_⟩;have fE:=hf.back k _ sA e Ad hb
    have vg:e.on ∉ (k::R'):=λhm=>by
     rcases cE.1 hm with hm|hm
     omega;have:=(k8.1 hp).1 _ hm;omega
    have hsz:e.on<aM.size:=by omega
    have h2:¬ (aM.getD e.on true=false):=λh2=>vg ((hR e.on).2 ⟨by omega,h2⟩)
    simp only[Array.getD,hsz,dif_pos]at h2 ⊢;simpa using h2
   rw[Km]at this;cases this
  obtain ⟨ny,Np,o,JF,ia⟩:=mem_ready.1 hi;have hiR:=(hR i).2 ⟨ny,Np⟩;obtain⟨pre,post,rfl⟩:=NO hiR
  have X8:∀k∈pre++i::post,aM.getD k false=true->False:=λk hk h=>by
   obtain⟨aI,mn⟩:=(hR k).1 hk;have hsz:k<aM.size:=by omega
   simp only[Array.getD,hsz,dif_pos]at h mn;rw[h]at mn;cases mn
  have GB:∀t∈o.looksAt ad,(∀e∈al,e.d≠t)->bJ (lk E t) (lk E1 t):=λt ht dR=>he1 t dR λj hj x hx hd=>by obtain⟨e,h1,h2,h3⟩:=hf.dep i o JF t ht j x hx hd;exact X8 j hj (by rw[<-h3];exact ia e h1 h2)
  have IB:i ∉ pre++post:=λhm=>by
   rcases cu.1 hm with hm|hm
   have:=(mw.1 hp).2.2 i hm i aD;omega;have:=(k8.1 (mw.1 hp).2.1).1 i hm;omega
  have eV:∀k,k∈pre++post↔k∈pre++i::post/\k≠i:=λk=>by
   constructor;intro h;refine⟨?_,λe=>IB (e ▸ h)⟩;simp only[cu,cE]at h ⊢;exact h.imp id .inr;rintro ⟨h,dR⟩;simp only[cu,cE]at h ⊢;rcases h with h|h|h
   exact .inl h;exact absurd h dR;exact .inr h
  have kZ:∀(k:Nat) (d:Bool),(aM.setIfInBounds i true).getD k d=if k=i then true else aM.getD k d:=by intro k d;simp only[Hm,TH];by_cases mo:k=i;subst mo;simp[uM,ny];rw[if_neg (λe=>mo e.symm),if_neg mo]
  have key:∃(v:AV) (π2:List ID) (E2:bq),uA g ad o E2 (objs++π.map λe=>.box (if e.s∈pre++i::post then Z else e.c)) v (objs++π2.map λe=>.box (if e.s∈pre++post then Z else e.c))/\(∀t∈o.looksAt ad,bJ (lk E t) (lk E2 t))/\(∀d,o.dst=some d->(∀e∈al,e.d≠d)->bJ v (lk E1 d))/\(∀(p:Nat) (e:ID),π2[p]? = some e->bJ (lk (bh E o.dst v) e.d) (.lo (objs.length+p) 0))/\π2.Nodup/\(∀e,e∈π2↔e∈al/\e.j ∉ pre++post):=by
   by_cases hia:∃e∈al,e.j=i;obtain ⟨e,L4,rfl⟩:=hia;obtain⟨o',h1,h2,h3,h4⟩:=hf.alloc e L4;rw[JF]at h1;cases h1;have qH:e ∉ π:=λh=>((hπ e).1 h).2 hiR
   have hsR:e.s∈pre++e.j::post:=by
    obtain⟨_,_,_,after,_,hso,_⟩:=hf.store e L4;refine(hR e.s).2 ⟨(Ab.1 hso).1,?_⟩;cases hl:aM.getD e.s true with
    |false=>rfl
    |true=>
     exfalso;have hsz:e.s<aM.size:=by have:=(Ab.1 hso).1;omega
     obtain⟨ed,g1,g2,g3⟩:=hf.dep e.s _ hso e.d abX e.j o JF h2;refine X8 e.j hiR ?_;rw[<-g3];refine hc e.s _ ?_ hso ed g1 g2;simp only[Array.getD,hsz,dif_pos]at hl ⊢;exact hl
   have ZF:∀l:List ID,(∀x∈l,x∈al)->(l.map λx=>Ob.box (if x.s∈pre++post then Z else x.c))=l.map λx=>Ob.box (if x.s∈pre++e.j::post then Z else x.c):=λl hl=>by
    refine Kb λx hx=>?_
    obtain⟨_,_,_,_,_,_,_,_,_,_,hjs⟩:=hf.store x (hl x hx);have dR:x.s≠e.j:=λh=>(hjs e L4).2 h.symm
    by_cases hm:x.s∈pre++e.j::post;rw[if_pos hm,if_pos ((eV _).2 ⟨hm,dR⟩)];rw[if_neg hm,if_neg λh=>hm ((eV _).1 h).1]
   refine⟨.lo (objs.length+π.length) 0,π++[e],E1,?_,by rw[h3];simp,λd hd dR=>(by rw[h2]at hd;cases hd;exact absurd rfl (dR e L4)),λp x hx=>?_,Bq.2 ⟨rO,by simp,λx hx y hy hxy=>by rw[eu.1 hy]at hxy;exact qH (hxy ▸ hx)⟩,λx=>?_⟩;have:=h4 (objs++π.map λx=>.box (if x.s∈pre++e.j::post then Z else x.c))
   rw[ZF _ (λx hx=>by
    rcases cu.1 hx with hx|hx
    exact((hπ x).1 hx).1;rw[eu.1 hx];exact L4)]
   rw[eR,bM,fm,if_pos hsR,<-List.append_assoc];rw[List.length_append,fQ]at this;exact this;rcases qE p π.length with fE| hge
   rw [mv fE]at hx;have hxm:=(hπ x).1 (sq hx);have hxd:x.d≠e.d:=λh=>by have:x=e:=jU hf.ds hxm.1 L4 h;exact qH (this ▸ sq hx)
   rw[h2,gz,if_neg λh=>hxd (Option.some.inj h).symm];exact Pa p x hx;have vm:=(fu.1 hx).1;simp only[List.length_append,dx,mu]at vm;have:p=π.length:=by omega
   subst this;rw[nA cZ,Nat.sub_self]at hx;simp only[TI,Option.some.injEq]at hx;subst hx;rw[h2,gz,if_pos rfl];exact .refl _;rw [cu,eu,hπ,eV];constructor;rintro (⟨h1,h2⟩| rfl);exact⟨h1,λh=>h2 h.1⟩;exact⟨L4,λh=>h.2 rfl⟩;rintro ⟨h1,h2⟩;by_cases hx:x.j=e.j;exact .inr (jU hf.UT h1 L4 hx);exact .inl ⟨h1,λh=>h2 ⟨h,hx⟩⟩;have aoW:∀e,e∈π↔e∈al/\e.j ∉ pre++post:=λe=>by rw[hπ,eV];constructor;rintro⟨h1,h2⟩;exact⟨h1,λh=>h2 h.1⟩;rintro⟨h1,h2⟩;exact⟨h1,λh=>h2 ⟨h,λhx=>hia ⟨e,h1,hx⟩⟩⟩
   have he3:∀v (p:Nat) (e:ID),π[p]? = some e->bJ (lk (bh E o.dst v) e.d) (.lo (objs.length+p) 0):=λv p e Wd=>by have L4:=((hπ e).1 (sq Wd)).1;rw[gz,if_neg λh=>hia ⟨e,L4,(hf.uniq i o e L4 JF h).symm⟩];exact Pa p e Wd
   by_cases his:∃e∈al,e.s=i;obtain ⟨e,L4,rfl⟩:=his;obtain⟨T,ty,pos,after,τ,hso,hT,dK,hcn,hzn,dR⟩:=hf.store e L4;rw[JF]at hso;cases hso;obtain⟨oj,hj1,hj2,_,_⟩:=hf.alloc e L4;have hej:e.j ∉ pre++e.s::post:=λh=>by obtain⟨ed,g1,g2,g3⟩:=hf.dep e.s _ JF e.d abX e.j oj hj1 hj2;exact X8 e.j h (by rw[<-g3];exact ia ed g1 g2)
   obtain⟨p,Wd⟩:=wD.1 ((hπ e).2 ⟨L4,hej⟩);have vm:=(fu.1 Wd).1;have anL:(π.map λx=>Ob.box (if x.s∈pre++e.s::post then Z else x.c))[p]? = some (.box Z):=by rw[fP,Wd];simp
   have hxd:e.x≠e.d:=λh=>(dR e L4).1 h.symm
   have cY:dk g.ty (ev (put E1 e.d (.lo (objs.length+p) 0))) (objs++π.map λx=>Ob.box (if x.s∈pre++e.s::post then Z else x.c)) (.store T (.tmp e.d) (.tmp e.x))=some (.any,objs++π.map λx=>Ob.box (if x.s∈pre++post then Z else x.c)):=by
    refine HW hT (i:=objs.length+p) (off:=0) (l:=Z) (new:=e.c) (by simp[ev,yw]) (by rw[bE,nA aq,zm];exact anL) (by simp only[ev,yw];rw[if_neg λh=>hxd h.symm];exact dK) hcn aq ?_;rw[L3 _ _ aq,bx,Xn _ _ aq,zm];congr 1;apply TL;intro q;rw[List.getElem?_set];by_cases hq:p=q;subst hq;rw[if_pos rfl,if_pos (by simpa using vm),fP,Wd,ss,if_neg IB];rw [if_neg hq,fP,fP];cases hx:π[q]? with
    |none=>rfl
    |some x=>
     have hxm:=((hπ x).1 (sq hx)).1;have Nr:x.s≠e.s:=λh=>by have:x=e:=jU hf.sts hxm L4 h;subst this;have h1:=(fu.1 hx);have h2:=(fu.1 Wd);exact hq ((Q6 rO).1 (h2.2.trans h1.2.symm))
     simp only[ss,Option.some.injEq,Ob.box.injEq];by_cases hm:x.s∈pre++e.s::post;rw[if_pos hm,if_pos ((eV _).2 ⟨hm,Nr⟩)];rw[if_neg hm,if_neg λh=>hm ((eV _).1 h).1]
   refine⟨.any,π,put E1 e.d (.lo (objs.length+p) 0),(aK.KJ (pf:=λ_=>.jz) hg rfl (cT rfl) (λt h=>by cases h) cY).toE,λt ht=>?_,λd hd=>(by cases hd),λq x hx=>he3 _ q x hx,rO,aoW⟩;rw[yw];by_cases htd:t=e.d;rw[if_pos htd.symm,htd];exact Pa p e Wd;rw [if_neg λh=>htd h.symm]
   have htx:t=e.x:=by
    simp[Oper.looksAt,Op.operands]at ht;rcases ht with h|h
    exact absurd h htd;exact h
   exact GB t ht λe' Ad h=>(dR e' Ad).1 (h.trans htx)
   obtain ⟨hno,lu⟩:=hf.loc i o JF λe he=>⟨λh=>hia ⟨e,he,h⟩,λh=>his ⟨e,he,h⟩⟩
   obtain⟨v,h1,h2⟩:=lu (π.map λe=>.box (if e.s∈pre++i::post then Z else e.c))
   have ZF:(π.map λe=>Ob.box (if e.s∈pre++post then Z else e.c))=π.map λe=>Ob.box (if e.s∈pre++i::post then Z else e.c):=by
    refine Kb λx hx=>?_
    have dR:x.s≠i:=λh=>his ⟨x,((hπ x).1 hx).1,h⟩
    by_cases hm:x.s∈pre++i::post;rw[if_pos hm,if_pos ((eV _).2 ⟨hm,dR⟩)];rw[if_neg hm,if_neg λh=>hm ((eV _).1 h).1]
   refine⟨v,π,E1,by rw[ZF];exact h1,λt ht=>GB t ht λe he h=>hno e he (h ▸ ht),λd hd _=>h2 d hd,λp e Wd=>he3 v p e Wd,rO,aoW⟩
  obtain⟨v,π2,E2,lu,ky,hv,he4,aja,aoW⟩:=key;have eX:=lu.step E _ _ a w ky (.inr (.inr ⟨rfl,rfl⟩)) hs Q;refine wpOpIn_mono (K:=λa' w'=>fi g (bh E o.dst v) _ a' w') (λa' w' fk=>?_) (by unfold wpOpIn;rw[JF];exact eX);refine ih _ (pre++post) _ π2 a' w' (by simp[uM]) ?_ ?_ ?_ ?_ ?_ he4 aja aoW fk;intro k o' hk sA e Ad hb;rw[kZ]at hk ⊢;by_cases mo:k=i;subst mo;rw[JF]at sA;cases sA;have:=ia e Ad hb;split;rfl;exact this;rw [if_neg mo]at hk;have:=hc k o' hk sA e Ad hb;split;rfl;exact this;intro k;rw[kZ,eV];have hk:=hR k;by_cases mo:k=i;subst mo;simp;simp only [mo,if_false];rw[<-hk];simp[mo];obtain ⟨p1,p2,p3⟩:=mw.1 hp;exact mw.2 ⟨p1,(k8.1 p2).2,λx hx y hy=>p3 x hx y iS⟩;simp at C5 ⊢;omega;intro t dR ht;rw[gz];split;rename_i hd;exact hv t hd dR;rename_i hd;refine he1 t dR λj hj x hx=>?_
  by_cases uw:j=i;subst uw;rw[JF]at hx;cases hx;exact hd;exact ht j ((eV _).2 ⟨hj,uw⟩) x hx
theorem anM{Fin:Exit->Act->World->Prop}(hg:di g){id:Nat}(al:List ID){k:List It}{E:bq}(E1:bq)(hk:mR k=true)(hf:L0 g ad Z al objs E E1)(h:R g pf Fin k E1 (objs++al.map λe=>.box e.c)):R g pf Fin (.code (.region id ad true)::k) E objs:=by
 rintro⟨_,ho⟩ a w hs;simp only[KP];refine wpIn_region_any hg.mixed ?_;refine Pc hg hf (λa w hs=>?_) ad.size (Array.replicate ad.size false) (List.range ad.size) E [] a _ aD ?_ ?_ (TJ) aD ?_ aD .nil (λe=>⟨λh=>(by cases h),λ⟨h1,h2⟩=>?_⟩) (by simpa using hs.drew);exact RK.ej (pf:=pf) (k:=k) ho h (iD hk) a w hs;intro k o hk;simp[Array.getD]at hk;simp_all;intro t _ ht;exact hf.start t λj o hj=>ht j (Ka.2 (Ab.1 hj).1) o hj
 obtain ⟨o,h3,_⟩:=hf.alloc e h1;simp_all
end
end ax

namespace ax
open Go Go.RowKit
variable{objs:List Ob}{after:Array Edge}{dst:Option Nat}{E:bq}{pos:String}{Z:List AV}{ty T:Nat}{τ:Ty}
section
variable {g:G} {ad:Array Oper}
def Pd (v:AV) (E:bq):Option Nat->Prop|none=>True|some d=>bJ v (lk E d)
theorem Pd.spec{v:AV}{o:Option Nat}(h:Pd v E o):∀d,o=some d->bJ v (lk E d):=λd hd=>by subst hd;exact h
def pfN:Nat->cI:=λ_=>.jz
theorem au(hg:di g){o:Oper}{v:AV}(ED:held (jQ pfN) o.op=false)(bt:aH ad.toList E o.guard=some true)(hd:aQ ⟨g.ty,g.N⟩ o.dst=true)(h:dk g.ty (ev E) objs o.op=some (v,objs))(hv:Pd v E o.dst):∃v,uA g ad o E objs v objs/\∀d,o.dst=some d->bJ v (lk E d) :=⟨v,(aK.KJ (pf:=pfN) hg ED (cT bt) (dI hd) h).toE,hv.spec⟩
theorem qm(hg:di g){o:Oper}(bt:aH ad.toList E o.guard=some false)(hd:aQ ⟨g.ty,g.N⟩ o.dst=true)(hv:Pd (.cP []) E o.dst):∃v,uA g ad o E objs v objs/\∀d,o.dst=some d->bJ v (lk E d) :=⟨_,aK.skip hg (cT bt) (dI hd),hv.spec⟩
theorem iK(hg:di g){x i:Operand}{gd:Option (Nat×Bool)}
  {aa:List (List D)} {n:Int} {row:List D} {sz cq e:Nat} {z:List Value} 
  (bt:aH ad.toList E gd=some true) (hd:aQ ⟨g.ty,g.N⟩ dst=true) (hx:lO (ev E x)=.d (.sl aa)) (hi:ev E i=.d (.v (.int .i64 n))) (hT:g.ty T=some ⟨sz,cq,z,.slice e⟩) (he:g.ty e=some τ)
  (h0:0<=n) (gY:aa[n.toNat]? = some row) (hsz:row.length=τ.size) (hv:Pd (.d (.bL row)) E dst):∃v,uA g ad ⟨dst,.indexAddr T x i,ty,pos,after,gd⟩ E objs v objs/\∀d,dst=some d->bJ v (lk E d) :=
 ⟨_,(FE hg bt hd hx hi hT he h0 gY hsz).toE,hv.spec⟩
theorem oE(hg:di g){f:Nat}{dW:List AV}{r:AV}(hc:br g.P f dW r){x:Operand}{args:Array Operand}{ts:Array Nat}{gd:Option (Nat×Bool)}
    {fs cs:List AV}
  (bt:aH ad.toList E gd=some true) (hd:aQ ⟨g.ty,g.N⟩ dst=true) (hx:ev E x=.b9 f fs cs) (has:(fs++args.toList.map (ev E)++cs).map lO=dW) (hpa:lh dW=true) (hpr:mJ r=true) (hv:Pd r E dst):∃v,uA g ad ⟨dst,.call {callee:=.value x,args:=args,argTypes:=ts},ty,pos,after,gd⟩ E objs v objs/\∀d,dst=some d->bJ v (lk E d) :=
 ⟨_,(KK hg (cT bt) (dI hd) rfl hx has hpa hc hpr).toE,hv.spec⟩
theorem U2(hg:di g)(hT:g.ty T=some τ)(hz:τ.zero.map (λx=>AV.d (.v x))=Z)(hd:aQ ⟨g.ty,g.N⟩ dst=true)(objs':List Ob):uA g ad ⟨dst,.alloc T,ty,pos,after,none⟩ E objs' (.lo objs'.length 0) (objs'++[.box Z]):=by
 have h:dk g.ty (ev E) objs' (.alloc T)=some (.lo objs'.length 0,objs'++[.box Z]):=by subst hz;simp[dk,cS,fc,iL,hT,bp]
 exact(aK.KJ (pf:=pfN) hg rfl (cT rfl) (dI hd) h).toE
def sP (g:G) (ad:Array Oper) (E1:bq) (objs:List Ob) (sk:Nat->Bool):Nat->List Oper->Prop|_,[]=>True|n,o::r=>(sk n=false->∀tl,∃v,uA g ad o E1 (objs++tl) v (objs++tl)/\∀d,o.dst=some d->bJ v (lk E1 d))/\sP g ad E1 objs sk (Nat.succ n) r
theorem sP.get{E1:bq}{objs:List Ob}{sk:Nat->Bool}:∀{l:List Oper} {n:Nat},sP g ad E1 objs sk n l->∀(j:Nat) (o:Oper),l[j]? = some o->sk (n+j)=false->∀tl,∃v,uA g ad o E1 (objs++tl) v (objs++tl)/\∀d,o.dst=some d->bJ v (lk E1 d)|[],_,_,j,o,h,_=>by simp at h|x::l,n,h,0,o,ho,hs=>by simp only[TI,Option.some.injEq]at ho;subst ho;exact h.1 hs|x::l,n,h,j+1,o,ho,hs=>by simp only[Xb]at ho;exact sP.get h.2 j o ho (by rw[Nat.succ_add];exact hs)
def ZG (ad:Array Oper):Bool:=ad.toList.zipIdx.all λp=>p.1.after.toList.all λe=>!Region.binds .any e||Nat.blt e.on p.2
def ajf (ad:Array Oper):Bool:=ad.toList.zipIdx.all λp=>p.1.after.toList.all (λ_=>true)&&(p.1.looksAt ad).all λt=>ad.toList.zipIdx.all λq=>!(q.1.dst==some t)||p.1.after.toList.any λe=>Region.binds .any e&&Nat.beq e.on q.2
theorem n7{α:Type}{l:List α}{j:Nat}{x:α}(h:l[j]? = some x):(x,j)∈l.zipIdx:=by rw[Xe];simpa using h
theorem C6(h:ZG ad=true):∀(j:Nat) (o:Oper),ad[j]? = some o->∀e∈o.after.toList,Region.binds .any e=true->e.on<j:=λj o ho e he hb=>by have h1:=fB.1 h (o,j) (n7 TD);have h2:=fB.1 h1 e he;rw[hb]at h2;simpa[Nat.blt_eq]using h2
theorem GC(h:ajf ad=true):∀(j:Nat) (o:Oper),ad[j]? = some o->∀t∈o.looksAt ad,∀(i:Nat) (x:Oper),ad[i]? = some x->x.dst=some t->∃e∈o.after.toList,Region.binds .any e=true/\e.on=i:=λj o ho t ht i x hx hd=>by have h1:=fB.1 h (o,j) (n7 TD);simp only[aV]at h1;have h2:=fB.1 h1.2 t ht;have h3:=fB.1 h2 (x,i) (n7 (by simpa using hx));simp only[hd,beq_self_eq_true,u9,uq]at h3;obtain⟨e,he,h4⟩:=Kd.1 h3;simp only[aV]at h4;exact⟨e,he,h4.1,by simpa using h4.2⟩
def ajg (ad:Array Oper)(ds:List Nat):Bool:=ds.all λd=>ad.toList.any λo=>o.dst==some d
theorem ZH:∀(N E0:bq) (t:Nat),t ∉ N.map (·.1)->lk (N++E0) t=lk E0 t|[],_,_,_=>rfl|p::N,E0,t,h=>by simp only[bM,cE,not_or]at h;obtain⟨k,v⟩:=p;simp only[jo,lk,tA (λe=>h.1 e.symm),cond_false];exact ZH N E0 t h.2
theorem GD{N E0:bq}(h:ajg ad (N.map (·.1))=true):∀t,(∀(j:Nat) (o:Oper),ad[j]? = some o->o.dst≠some t)->bJ (lk E0 t) (lk (N++E0) t):=λt ht=>by rw[ZH N E0 t λhm=>?_];exact .refl _;have h1:=fB.1 h t hm;obtain⟨o,ho,h2⟩:=Kd.1 h1;obtain⟨j,hj⟩:=wD.1 ho;exact ht j o (by simpa using hj) (by simpa using h2)
def alB (ad:Array Oper)(T:Nat)(e:Nat×Nat×Nat×Nat):Bool :=
 (match ad[e.1]? with|some ⟨some d,.alloc U,_,_,_,none⟩=>Nat.beq d e.2.1&&Nat.beq U T|_=>false) &&
 (match ad[e.2.2.1]? with|some ⟨none,.store U (.tmp a) (.tmp b),_,_,_,none⟩=>Nat.beq U T&&Nat.beq a e.2.1&&Nat.beq b e.2.2.2|_=>false)
def po (n:Nat)(l:List Nat):Bool:=l.any λm=>Nat.beq m n
theorem iz{n:Nat}{l:List Nat}:po n l=true↔n∈l:=by unfold po;rw[Kd];constructor;rintro⟨m,h,he⟩;rw[<-Nat.eq_of_beq_eq_true he];exact h;intro h;exact⟨n,h,Nat.beq_refl n⟩
def Pe:List Nat->Bool|[]=>true|x::l=>!po x l&&Pe l
theorem np:∀{l:List Nat},Pe l=true->l.Nodup|[],_=>.nil|x::l,h=>by simp only[Pe,aV,wE]at h;exact Bo.2 ⟨λhm=>by rw[iz.2 hm]at h;exact absurd h.1 aD,np h.2⟩
def anN (ad:Array Oper)(T:Nat)(al:List (Nat×Nat×Nat×Nat)):Bool :=
 al.all (alB ad T)&&Pe (al.map (·.1))&&Pe (al.map (·.2.2.1))&&Pe (al.map (·.2.1)) &&
 (al.all λe=>!po e.2.2.2 (al.map (·.2.1))&&!po e.2.2.1 (al.map (·.1))) &&
 (ad.toList.zipIdx.all λp=>(match p.1.dst with|some d=>al.all λe=>!Nat.beq d e.2.1||Nat.beq p.2 e.1|none=>true)&&(po p.2 (al.map (·.1))||po p.2 (al.map (·.2.2.1))||al.all λe=>!po e.2.1 (p.1.looksAt ad)))
def anO (al:List (Nat×Nat×Nat×Nat))(j:Nat):Bool:=po j (al.map (·.1))||po j (al.map (·.2.2.1))
def vP (e:ID):Nat×Nat×Nat×Nat:=(e.j,e.d,e.s,e.x)
theorem ZI(hg:di g){al:List ID}{N E0:bq}(T:Nat)(hT:g.ty T=some τ)(hZ:τ.zero.map (λx=>AV.d (.v x))=Z)(hb:ZG ad=true)(hd:ajf ad=true)(hn:ajg ad (N.map (·.1))=true)(hc:anN ad T (al.map vP)=true)
  (hN:(al.all λe=>Nat.blt e.d g.N)=true) (hzs:Z.length=τ.size) (ez:sP g ad (N++E0) objs (anO (al.map vP)) 0 ad.toList) (rC:al.map (λe=>gn (lk (N++E0) e.x))=al.map λe=>some e.c) (uM:al.map (λe=>e.c.length)=al.map λ_=>τ.size)
  (Jz:al.map (λe=>lk (N++E0) e.d)=(List.range al.length).map λi=>.lo (objs.length+i) 0)
  (hpu:(N++E0).map (λp=>(p.1,if po p.1 (al.map (·.d))then .any else dD objs.length p.2))=(N++E0).map λp=>(p.1,if po p.1 (al.map (·.d))then .any else p.2))
  (IC:objs.map (aR (dD objs.length))=objs) (hpc:al.map (λe=>e.c.map (dD objs.length))=al.map (·.c)) (hl:g.φ0.length<=objs.length) (jP:g.rZ=[]:=by rfl):L0 g ad Z al objs E0 (N++E0):=by
 have at_:∀{α β:Type} {f h:α->β} {l:List α},l.map f=l.map h->∀x∈l,f x=h x:=λ{α β f h l} he x hx=>by obtain⟨i,hi⟩:=wD.1 hx;have:=congrArg (λl=>l[i]?) he;simpa[fP,hi]using this
 simp only[anN,aV]at hc;obtain⟨⟨⟨⟨⟨h1,h2⟩,h3⟩,h4⟩,h5⟩,h6⟩:=hc;have L5:∀(f:Nat×Nat×Nat×Nat->Nat),(al.map vP).map f=al.map λe=>f (vP e):=λf=>by rw[kn];rfl
 have Ah:∀e∈al,vP e∈al.map vP:=λe he=>gm.2 ⟨e,he,rfl⟩
 have agG:=λe he=>fB.1 h1 _ (Ah e he)
 refine⟨C6 hb,GC hd,GD hn,λj o ho dR=>⟨λe he hlk=>?_,ez.get j o TD ?_⟩,λe he=>?_,λe he=>?_,λi e hi=>?_,λj o e he ho aqD=>?_,?_,?_,?_,λt ht=>?_,IC,at_ hpc,hl,jP⟩;have h7:=fB.1 h6 (o,j) (n7 TD);simp only[aV,oy]at h7;rcases h7.2 with(h|h)|h
 rw [iz,L5]at h;obtain⟨e',Ad,hj⟩:=gm.1 h;exact(dR e' Ad).1 hj;rw [iz,L5]at h;obtain⟨e',Ad,hj⟩:=gm.1 h;exact(dR e' Ad).2 hj;have:=fB.1 h _ (Ah e he);rw[show(vP e).2.1=e.d from rfl,iz.2 hlk]at this;simp at this
 ·rw [zj];unfold anO;rw[Ez];constructor;cases h:po j ((al.map vP).map (·.1))with
  |false=>rfl
  |true=>rw[iz,L5]at h;obtain⟨e',Ad,hj⟩:=gm.1 h;exact absurd hj (dR e' Ad).1
  cases h:po j ((al.map vP).map (·.2.2.1))with
  |false=>rfl
  |true=>rw[iz,L5]at h;obtain⟨e',Ad,hj⟩:=gm.1 h;exact absurd hj (dR e' Ad).2
 have h7:=agG e he;unfold alB at h7;simp only[aV]at h7;obtain⟨h7,_⟩:=h7;split at h7;rename_i d U ty pos after ho;simp only[aV,vP]at h7 ho;have e1:=Nat.eq_of_beq_eq_true h7.1;have e2:=Nat.eq_of_beq_eq_true h7.2;subst e1;subst e2;have hdn:=fB.1 hN e he;exact⟨_,ho,rfl,rfl,λobjs'=>U2 hg hT hZ (by simp only[aQ];rw[J8];rw[Nat.blt_eq]at hdn;exact hdn) objs'⟩;cases h7;have h7:=agG e he;unfold alB at h7;simp only[aV]at h7;obtain⟨_,h7⟩:=h7;split at h7;rename_i U a b ty pos after ho;simp only[aV,vP]at h7 ho;have e1:=Nat.eq_of_beq_eq_true h7.1.1;have e2:=Nat.eq_of_beq_eq_true h7.1.2;have e3:=Nat.eq_of_beq_eq_true h7.2;subst e1;subst e2;subst e3;refine⟨U,ty,pos,after,τ,ho,hT,at_ rC e he,at_ uM e he,hzs,λe' Ad=>?_⟩;have h8:=fB.1 h5 _ (Ah e he);simp only[aV,wE,vP]at h8;constructor;intro hx;have h9:=h8.1;rw[L5,show po e.x (al.map λe=>(vP e).2.1)=true from iz.2 (gm.2 ⟨e',Ad,hx⟩)]at h9;cases h9;intro hx;have:=h8.2;rw[L5,show po e.s (al.map λe=>(vP e).1)=true from iz.2 (gm.2 ⟨e',Ad,hx⟩)]at this;cases this;cases h7;have:=congrArg (λl=>l[i]?) Jz;have mG:=(fu.1 hi).1;simp only[fP,hi,ss,Xg mG,Option.some.injEq]at this;exact this;have h7:=fB.1 h6 (o,j) (n7 TD);simp only[aV,aqD]at h7;have h8:=fB.1 h7.1 _ (Ah e he);simp only[vP,Nat.beq_refl,u9,uq]at h8;exact Nat.eq_of_beq_eq_true h8;have:=np h2;rwa [L5]at this;have:=np h3;rwa [L5]at this;have:=np h4;rwa [L5]at this
 have key:∀l:bq,(∀p∈l,(p.1,if po p.1 (al.map (·.d))then AV.any else dD objs.length p.2)=(p.1,if po p.1 (al.map (·.d))then AV.any else p.2))->dD objs.length (lk l t)=lk l t:=λl=>by
  induction l with
  |nil=>intro _;rfl
  |cons p l ih=>
   intro hl;obtain⟨k,v⟩:=p;simp only[lk];cases hk:Nat.beq k t with
   |false=>exact ih λp hp=>hl p Bn
   |true=>have:=Nat.eq_of_beq_eq_true hk;subst this;have h9:=hl (k,v) aD;simp only[Prod.mk.injEq,true_and]at h9;rw[if_neg,if_neg]at h9;exact h9;intro h;obtain⟨e,he,hd⟩:=gm.1 (iz.1 h);exact ht e he hd;intro h;obtain⟨e,he,hd⟩:=gm.1 (iz.1 h);exact ht e he hd
 exact key _ (at_ hpu)
theorem L6(hg:di g)(hd:aQ ⟨g.ty,g.N⟩ dst=true):uA g ad ⟨dst,.makeMap T none,ty,pos,after,none⟩ E objs (.mp objs.length) (objs++[.map []]):=by refine(aK.eU (b:=0) hg (.add _ _) rfl hd aD λφ a w hρ hs=>?_).toE;refine⟨.value (.map (some w.heap.size)),.map (some w.heap.size),w.alloc (.map #[] 0),φ++[.jK w.heap.size],?_,.inl rfl,?_,?_⟩;simp[execOp,Instr.makeMap,run_newObj];simp only[RV];exact⟨w.heap.size,by rw[<-hs.len];simp,rfl⟩;refine j8.new hs (λb hb=>by simp only [bI.bl]at hb; exact hb.symm) ?_;simp only[bj];exact⟨#[],0,heap_alloc_new _ _,by simp[nC],by simp[aW]⟩
def anP (ad:Array Oper)(T tm:Nat)(e:U1):Bool :=
 match ad[e.1]? with
 |some ⟨none,.insert U (.tmp a) (.const (.string s)) (.tmp b),_,_,_,none⟩=>Nat.beq U T&&Nat.beq a tm&&Nat.beq b e.2.2&&aX s e.2.1
 |_=>false
def anQ (ad:Array Oper)(jm tm:Nat):Bool :=
 match ad[jm]? with
 |some ⟨some d,.makeMap _ none,_,_,_,none⟩=>Nat.beq d tm
 |_=>false
def anR (jm:Nat)(ins:List U1)(j:Nat):Bool:=Nat.beq j jm||po j (ins.map (·.1))
theorem Sp(hg:di g){jm tm:Nat}{ins:List U1}{N E0:bq}(T:Nat){q cq q' pA kt et:Nat}{z z':List Value}(hT:g.ty T=some ⟨q,cq,z,.map kt et⟩)(o7:g.ty kt=some ⟨q',pA,z',.str⟩)(hb:ZG ad=true)(hd:ajf ad=true)(hn:ajg ad (N.map (·.1))=true)(hc:ins.all (anP ad T tm)=true)(hm:anQ ad jm tm=true)(htm:Nat.blt tm g.N=true)
  (hj:po jm (ins.map (·.1))=false) (hn1:Pe (ins.map (·.1))=true) (V8:(ins.map (·.2.1)).Nodup) (ZF:lk (N++E0) tm=.mp objs.length) (ez:sP g ad (N++E0) objs (anR jm ins) 0 ad.toList):IA g ad jm tm ins objs E0 (N++E0):=by
 refine⟨C6 hb,GC hd,GD hn,λj o ho hjm dR=>ez.get j o TD ?_,?_,ZF,λp hp=>⟨λe=>?_,?_⟩,V8,np hn1⟩;rw [zj];unfold anR;rw[Ez];constructor;exact tA hjm;cases h:po j (ins.map (·.1))with
 |false=>rfl
 |true=>obtain⟨p,hp,he⟩:=gm.1 (iz.1 h);exact absurd he (dR p hp)
 unfold anQ at hm;split at hm;rename_i d U ty pos after ho;have:=Nat.eq_of_beq_eq_true hm;subst this;exact⟨_,ho,rfl,L6 hg (by simp only[aQ];rw[J8];rw[Nat.blt_eq]at htm;exact htm)⟩;cases hm;rw [iz.2 (gm.2 ⟨p,hp,e⟩)]at hj;cases hj;have h7:=fB.1 hc p hp;unfold anP at h7;split at h7;rename_i U a s b ty pos after ho;simp only[aV]at h7;have e1:=Nat.eq_of_beq_eq_true h7.1.1.1;have e2:=Nat.eq_of_beq_eq_true h7.1.1.2;have e3:=Nat.eq_of_beq_eq_true h7.1.2;have e4:=Tm.bn.1 h7.2;subst e1;subst e2;subst e3;subst e4;exact⟨_,_,_,_,_,_,_,_,_,_,_,_,ho,hT,o7⟩;cases h7
theorem ZJ{pf:Nat->cI}{Fin:Exit->Act->World->Prop}(hg:di g){id:Nat}(al:List ID)(N:bq){k:List It}(hk:mR k=true)(hf:L0 g ad Z al objs E (N++E))(h:R g pf Fin k (N++E) (objs++al.map λe=>.box e.c)):R g pf Fin (.code (.region id ad true)::k) E objs:=anM hg al (N++E) hk hf h
theorem Sq{pf:Nat->cI}{Fin:Exit->Act->World->Prop}(hg:di g){id jm tm:Nat}(ins:List U1)(N:bq){k:List It}(hk:mR k=true)(hf:IA g ad jm tm ins objs E (N++E))(h:R g pf Fin k (N++E) (objs++[.uj (eK (yS (N++E) ins))])):R g pf Fin (.code (.region id ad true)::k) E objs:=ajc hg ins (N++E) hk hf h
end
end ax

namespace Go.Proofs.YtmjmngigbachdaaGreatDoor
open Go ax Go.Proofs
def ao5:Nat->cI:=λf=>bif Nat.beq f 4900100001 then .bT 100 else bif Nat.beq f 165 then .still else bif Nat.beq f 166 then .still else .jz
def tmC (t:Tm):List AV:=[.d (.v (.int .i64 t.k)),.d (.v (.string t.s)),.d (.v (.int .i64 t.n)),.d (.sl (Tm.aa t.l))]
def anS:List AV:=[.d (.v (.int .i64 0)),.d (.v (.string ByteArray.empty)),.d (.v (.int .i64 0)),.d (.v (.slice none 0 0))]
theorem j1 (nx:Int)(l:List Tm):(cf nx l).ap=false:=by unfold cf;split<;>rfl
theorem j3 (nx:Int)(l:List Tm):(cf nx l).tx=[]:=by unfold cf;split<;>rfl
theorem gU (o:List Ob)(l:List Tm)(k:Ak)(h1:k.ap=false)(h2:k.tx=[]):(j6 l k.al false ByteArray.empty k.nx k.e).map (aR (bZ false 1 o 5))=j6 l k.al k.ap (Tx k.tx) k.nx k.e:=by rw[h1,h2];exact dU o _ _ _ _ _ _
def fnO (t n a:Tm)(nx:Int):List Ob:=j6 [t,n,a] [] false ByteArray.empty nx 0++[aO t,aO n,aO a]
theorem gV (Y:YP)(l l2:List Tm)(ap:Bool)(nx:Int)(hb:∀t∈l2,eB t)(dR:l2≠[])(a8:l2.length<=1000):aU Tryz.prog Y 142 [.lo 0 0,.d (.sl (l2.map Tm.row))] (j6 l [] ap ByteArray.empty nx 0) (bV (cf nx l2).h) (j6 l (cf nx l2).al ap ByteArray.empty (cf nx l2).nx (cf nx l2).e):=by rw[<-Tm.eo];exact adD Y l l2 ap nx hb dR a8
theorem Pf (Y:YP)(t n a:Tm)(ht:eB t)(hn:eB n)(ha:eB a)(nx:Int)(jn:0<=nx/\nx<=999992):zL Y 151 [t,n,a] nx (cG nx t n a):=by
 refine mH7 Tryz.func151 λw S φ hg=>?_
 have hφ:φ.length=1:=hg.kh.len;refine ag ?_;refine ZJ hg.ok (Z:=anS) [⟨18,3,21,12,tmC t⟩,⟨19,4,22,18,tmC n⟩,⟨20,5,23,24,tmC a⟩] [(7,.lo 0 0),(8,.lo 0 0),(9,.lo 0 0),(10,.d (.sl (Tm.aa [t,n,a]))),(11,.d (.bL (Tm.row t))),(12,t.av),(13,.lo 0 0),(14,.lo 0 0),(15,.lo 0 0),(16,.d (.sl (Tm.aa [t,n,a]))),(17,.d (.bL (Tm.row n))),(18,n.av),(19,.lo 0 0),(20,.lo 0 0),(21,.lo 0 0),(22,.d (.sl (Tm.aa [t,n,a]))),(23,.d (.bL (Tm.row a))),(24,a.av),(3,.lo 1 0),(4,.lo 2 0),(5,.lo 3 0)] rfl ?_ ?_;refine ZI hg.ok 27 rfl rfl da da da da da rfl ?_ rfl rfl rfl rfl rfl rfl (by show φ.length<=1; omega);refine⟨λ_ tl=>au hg.ok rfl rfl rfl rfl dZ,?_⟩;refine⟨λ_ tl=>au hg.ok rfl rfl rfl rfl dZ,?_⟩;refine⟨λ_ tl=>au hg.ok rfl rfl rfl rfl dZ,?_⟩;refine⟨λ_ tl=>au hg.ok rfl rfl rfl rfl dZ,?_⟩;refine⟨λ_ tl=>iK hg.ok rfl rfl rfl rfl rfl rfl eA (Tm.ay (l:=[t,n,a]) (i:=0) rfl) rfl dZ,?_⟩;refine⟨λ_ tl=>au hg.ok rfl rfl rfl rfl dZ,?_⟩;refine⟨λ_ tl=>au hg.ok rfl rfl rfl rfl dZ,?_⟩;refine⟨λ_ tl=>au hg.ok rfl rfl rfl rfl dZ,?_⟩;refine⟨λ_ tl=>au hg.ok rfl rfl rfl rfl dZ,?_⟩;refine⟨λ_ tl=>au hg.ok rfl rfl rfl rfl dZ,?_⟩;refine⟨λ_ tl=>iK hg.ok rfl rfl rfl rfl rfl rfl eA (Tm.ay (l:=[t,n,a]) (i:=1) rfl) rfl dZ,?_⟩;refine⟨λ_ tl=>au hg.ok rfl rfl rfl rfl dZ,?_⟩;refine⟨λ_ tl=>au hg.ok rfl rfl rfl rfl dZ,?_⟩;refine⟨λ_ tl=>au hg.ok rfl rfl rfl rfl dZ,?_⟩;refine⟨λ_ tl=>au hg.ok rfl rfl rfl rfl dZ,?_⟩;refine⟨λ_ tl=>au hg.ok rfl rfl rfl rfl dZ,?_⟩;refine⟨λ_ tl=>iK hg.ok rfl rfl rfl rfl rfl rfl eA (Tm.ay (l:=[t,n,a]) (i:=2) rfl) rfl dZ,?_⟩;exact alE;refine ag ?_;have e4:∀(P:Tm->Prop) (x y z u:Tm),P x->P y->P z->P u->∀v∈[x,y,z,u],P v:=λP x y z u hx hy hz hu v hv=>by simp only[cE,pL,or_false]at hv;rcases hv with rfl|rfl|rfl|rfl<;>assumption
 have e2:∀(P:Tm->Prop) (x y:Tm),P x->P y->∀v∈[x,y],P v:=λP x y hx hy v hv=>by simp only[cE,pL,or_false]at hv;rcases hv with rfl|rfl<;>assumption
 refine af (λh1=>?_) λh1=>?_
 have h1:t.k=2:=by simpa using h1
 rw[show cG nx t n a=cf nx [n,t,a,gC 0] by unfold cG;rw[if_pos h1]];refine aA (C0 0) ?_;refine aj hg.ok hg.cm hg.wide hg.Y [0] (j6 [t,n,a] (cf nx [n,t,a,gC 0]).al false ByteArray.empty (cf nx [n,t,a,gC 0]).nx (cf nx [n,t,a,gC 0]).e++[aO t,aO n,aO a]) (gV Y [t,n,a] [n,t,a,gC 0] false nx (by exact e4 eB _ _ _ _ hn ht ha (C2 0)) aD aD) cN rfl rfl rfl rfl rfl rfl rfl rfl (ag ?_);exact aL hg 1 5 cZ rfl rfl (gU _ [t,n,a] (cf nx [n,t,a,gC 0]) (j1 _ _) (j3 _ _));have h1:¬ t.k=2:=by simpa using h1
 refine af (λh2=>?_) λh2=>?_
 have h2:t.k=3:=by simpa using h2
 rw[show cG nx t n a=cf nx [n,gT t.s,a,gC t.l.length] by unfold cG;rw[if_neg h1,if_pos h2]];refine aA (tU t.s) ?_;refine aA (C0 (Tm.aa t.l).length) ?_;rw[Tm.ao];refine aj hg.ok hg.cm hg.wide hg.Y [0] (j6 [t,n,a] (cf nx [n,gT t.s,a,gC t.l.length]).al false ByteArray.empty (cf nx [n,gT t.s,a,gC t.l.length]).nx (cf nx [n,gT t.s,a,gC t.l.length]).e++[aO t,aO n,aO a]) (gV Y [t,n,a] [n,gT t.s,a,gC t.l.length] false nx (by exact e4 eB _ _ _ _ hn (C3 (Iy ht)) ha (C2 _)) aD aD) cN rfl rfl rfl rfl rfl rfl rfl rfl (ag ?_);exact aL hg 1 5 cZ rfl rfl (gU _ [t,n,a] (cf nx [n,gT t.s,a,gC t.l.length]) (j1 _ _) (j3 _ _));have h2:¬ t.k=3:=by simpa using h2
 refine af (λh3=>?_) λh3=>?_
 have h3:n.k=1:=by simpa using h3
 rw[show cG nx t n a=eJ nx 4 by unfold cG;rw[if_neg h1,if_neg h2,if_pos (.inl h3)]];refine ala ?_;exact afp;have h3:¬ n.k=1:=by simpa using h3
 refine af (λh4=>?_) λh4=>?_
 have h4:a.k=1:=by simpa using h4
 rw[show cG nx t n a=eJ nx 4 by unfold cG;rw[if_neg h1,if_neg h2,if_pos (.inr h4)]];refine ala ?_;exact afp;have h4:¬ a.k=1:=by simpa using h4
 refine af (λh5=>?_) λh5=>?_
 have h5:a.k≠2:=by simpa using h5
 rw[show cG nx t n a=eJ nx 5 by unfold cG;rw[if_neg h1,if_neg h2,if_neg (λh=>h.elim h3 h4),if_pos (.inl h5)]];refine ag8 ?_;exact WA;have h5:¬ a.k≠2:=by simpa using h5
 refine af (λh6=>?_) λh6=>?_
 have h6:0<n.l.length:=by simpa [Tm.ao]using h6
 rw[show cG nx t n a=eJ nx 5 by unfold cG;rw[if_neg h1,if_neg h2,if_neg (λh=>h.elim h3 h4),if_pos (.inr h6)]];refine ag8 ?_;exact WA;have h6:¬ 0<n.l.length:=by simpa[Tm.ao]using h6
 refine af (λh7=>?_) λh7=>?_
 have h7:a.n<0:=by simpa using h7
 rw[show cG nx t n a=eJ nx 6 by unfold cG;rw[if_neg h1,if_neg h2,if_neg (λh=>h.elim h3 h4),if_neg (λh=>h.elim h5 h6),if_pos (.inl h7)]];refine alb ?_;exact afq;have h7:¬ a.n<0:=of_decide_eq_false h7;refine af (λh8=>?_) λh8=>?_
 have h8:a.n > 8:=by simpa using h8
 rw[show cG nx t n a=eJ nx 6 by unfold cG;rw[if_neg h1,if_neg h2,if_neg (λh=>h.elim h3 h4),if_neg (λh=>h.elim h5 h6),if_pos (.inr h8)]];refine alb ?_;exact afq;have h8:¬ a.n > 8:=of_decide_eq_false h8;refine af (λh9=>?_) λh9=>?_
 have h9:a.n=0:=by simpa using h9
 rw[show cG nx t n a=cf nx [t,n] by unfold cG;rw[if_neg h1,if_neg h2,if_neg (λh=>h.elim h3 h4),if_neg (λh=>h.elim h5 h6),if_neg (λh=>h.elim h7 h8),if_pos h9]];refine aj hg.ok hg.cm hg.wide hg.Y [0] (j6 [t,n,a] (cf nx [t,n]).al false ByteArray.empty (cf nx [t,n]).nx (cf nx [t,n]).e++[aO t,aO n,aO a]) (gV Y [t,n,a] [t,n] false nx (by exact e2 eB _ _ ht hn) aD aD) cN rfl rfl rfl rfl rfl rfl rfl rfl (ag ?_);exact aL hg 1 5 cZ rfl rfl (gU _ [t,n,a] (cf nx [t,n]) (j1 _ _) (j3 _ _));have h9:¬ a.n=0:=by simpa using h9
 refine af (λmH=>?_) λmH=>?_
 have mH:n.k=2:=by simpa using mH
 rw[show cG nx t n a=eJ nx 5 by unfold cG;rw[if_neg h1,if_neg h2,if_neg (λh=>h.elim h3 h4),if_neg (λh=>h.elim h5 h6),if_neg (λh=>h.elim h7 h8),if_neg h9,if_pos mH]];refine ag8 ?_;exact WA;have mH:¬ n.k=2:=by simpa using mH
 rw[show cG nx t n a=cf (nx+a.n) [t,.mk 3 n.s 0 (dC nx a.n.toNat)] by unfold cG;rw[if_neg h1,if_neg h2,if_neg (λh=>h.elim h3 h4),if_neg (λh=>h.elim h5 h6),if_neg (λh=>h.elim h7 h8),if_neg h9,if_neg mH]];refine mx 4 3 4 rfl rfl rfl (ag ?_);obtain⟨m,hm⟩:∃m:Nat,a.n=m:=⟨a.n.toNat,by omega⟩;have hm8:m<=8:=by omega
 have htn:a.n.toNat=m:=by omega
 rw[htn];have Oa:=C1;refine a7 (λk:Nat=>([(0,.lo 0 0),(3,.lo 1 0),(6,.lo 4 0),(105,iV a.n),(106,iV k)],fnO t n a (nx+k)++[.box [.d (.v (.int .i64 3)),.d (.v (.string n.s)),iV 0,.ow 5 k],.arr 4 k (Tm.aa (dC nx k))])) (λk=>k<=m) (λk=>m-k) 0 fO abT (by simp only[Int.natCast_zero,Int.add_zero];rfl) ?_;rintro k hk;have mF:(Tm.aa (dC nx k)).length=k:=by rw[Tm.ao,Oa]
 refine ag ?_;refine iG (λh=>?_) λh=>?_
 refine ag ?_;have aI:k<m:=by have:=of_decide_eq_true h;omega
 refine hH 116 rfl (bJ.Uc (row':=Tm.row (.mk 1 ByteArray.empty (nx+k) [])) ⟨.refl _,.refl _,.refl _,.nil,trivial⟩) ?_;refine cR hg.ok (Tm.aa (dC nx (k+1))) rfl rfl rfl rfl rfl rfl rfl rfl rfl (by simp[Tm.row]) QZ ?_ QX QX ?_;rw[zK,<-oS];rfl;refine ag ?_;refine bb (k+1) aI aq JW ?_;have hw:IntKind.i64.wrap (nx+(k:Int)+1)=nx+((k+1:Nat):Int):=by rw[pX aq aq];push_cast;omega
 show _=fnO t n a (nx+((k+1:Nat):Int))++_
 rw[<-hw];rfl;have aI:m<=k:=by have:=of_decide_eq_false h; omega
 have hkm:k=m:=by omega
 subst hkm;have hxb:eB (.mk 3 n.s 0 (dC nx k)):=Iz (Iy hn) (λx hx=>by obtain⟨h1,h2,h3⟩:=LW x hx;exact UZ h1 h2 h3) (by rw[zM];omega)
 have dK:aU Tryz.prog Y 142 [.lo 0 0,.d (.sl ([t,.mk 3 n.s 0 (dC nx k)].map Tm.row))] (j6 [t,n,a] [] false ByteArray.empty (nx+k) 0) (bV (cf (nx+a.n) [t,.mk 3 n.s 0 (dC nx k)]).h) (j6 [t,n,a] (cf (nx+a.n) [t,.mk 3 n.s 0 (dC nx k)]).al false ByteArray.empty (cf (nx+a.n) [t,.mk 3 n.s 0 (dC nx k)]).nx (cf (nx+a.n) [t,.mk 3 n.s 0 (dC nx k)]).e):=by
  have e:nx+a.n=nx+(k:Int):=by rw[hm]
  rw[e];exact gV Y [t,n,a] [t,.mk 3 n.s 0 (dC nx k)] false (nx+k) (e2 eB _ _ ht hxb) aD aD
 refine wo ?_;refine pZ hg.cm 5 [(0,.lo 0 0),(3,.lo 1 0),(6,.lo 4 0)] (fnO t n a (nx+k)++[aO (.mk 3 n.s 0 (dC nx k)),.dead]) rfl rfl pI ⟨jB.refl _,jB.refl _,jB.refl _,jB.refl _,⟨.refl _,.refl _,.refl _,bJ.frz 5 _ _,trivial⟩,by simp[jB],trivial⟩ (ag ?_);refine aj hg.ok hg.cm hg.wide hg.Y [0] (j6 [t,n,a] (cf (nx+a.n) [t,.mk 3 n.s 0 (dC nx k)]).al false ByteArray.empty (cf (nx+a.n) [t,.mk 3 n.s 0 (dC nx k)]).nx (cf (nx+a.n) [t,.mk 3 n.s 0 (dC nx k)]).e++[aO t,aO n,aO a,aO (.mk 3 n.s 0 (dC nx k)),.dead]) (dK) cN rfl rfl rfl rfl rfl rfl rfl rfl (ag ?_);exact aL hg 1 5 cZ rfl rfl (gU _ [t,n,a] (cf (nx+a.n) [t,.mk 3 n.s 0 (dC nx k)]) (j1 _ _) (j3 _ _))
theorem aji (Y:YP)(n t a:Tm)(hn:eB n)(ht:eB t)(ha:eB a)(nx:Int)(htl:t.l.length<=1000):zL Y 152 [n,t,a] nx (mi nx n t a):=by
 refine mH7 Tryz.func152 λw S φ hg=>?_
 have hφ:φ.length=1:=hg.kh.len;refine ag ?_;refine ZJ hg.ok (Z:=anS) [⟨18,3,21,11,tmC n⟩,⟨19,4,22,17,tmC t⟩,⟨20,5,23,23,tmC a⟩] [(6,.lo 0 0),(7,.lo 0 0),(8,.lo 0 0),(9,.d (.sl (Tm.aa [n,t,a]))),(10,.d (.bL (Tm.row n))),(11,n.av),(12,.lo 0 0),(13,.lo 0 0),(14,.lo 0 0),(15,.d (.sl (Tm.aa [n,t,a]))),(16,.d (.bL (Tm.row t))),(17,t.av),(18,.lo 0 0),(19,.lo 0 0),(20,.lo 0 0),(21,.d (.sl (Tm.aa [n,t,a]))),(22,.d (.bL (Tm.row a))),(23,a.av),(3,.lo 1 0),(4,.lo 2 0),(5,.lo 3 0)] rfl ?_ ?_;refine ZI hg.ok 27 rfl rfl da da da da da rfl ?_ rfl rfl rfl rfl rfl rfl (by show φ.length<=1; omega);refine⟨λ_ tl=>au hg.ok rfl rfl rfl rfl dZ,?_⟩;refine⟨λ_ tl=>au hg.ok rfl rfl rfl rfl dZ,?_⟩;refine⟨λ_ tl=>au hg.ok rfl rfl rfl rfl dZ,?_⟩;refine⟨λ_ tl=>au hg.ok rfl rfl rfl rfl dZ,?_⟩;refine⟨λ_ tl=>iK hg.ok rfl rfl rfl rfl rfl rfl eA (Tm.ay (l:=[n,t,a]) (i:=0) rfl) rfl dZ,?_⟩;refine⟨λ_ tl=>au hg.ok rfl rfl rfl rfl dZ,?_⟩;refine⟨λ_ tl=>au hg.ok rfl rfl rfl rfl dZ,?_⟩;refine⟨λ_ tl=>au hg.ok rfl rfl rfl rfl dZ,?_⟩;refine⟨λ_ tl=>au hg.ok rfl rfl rfl rfl dZ,?_⟩;refine⟨λ_ tl=>au hg.ok rfl rfl rfl rfl dZ,?_⟩;refine⟨λ_ tl=>iK hg.ok rfl rfl rfl rfl rfl rfl eA (Tm.ay (l:=[n,t,a]) (i:=1) rfl) rfl dZ,?_⟩;refine⟨λ_ tl=>au hg.ok rfl rfl rfl rfl dZ,?_⟩;refine⟨λ_ tl=>au hg.ok rfl rfl rfl rfl dZ,?_⟩;refine⟨λ_ tl=>au hg.ok rfl rfl rfl rfl dZ,?_⟩;refine⟨λ_ tl=>au hg.ok rfl rfl rfl rfl dZ,?_⟩;refine⟨λ_ tl=>au hg.ok rfl rfl rfl rfl dZ,?_⟩;refine⟨λ_ tl=>iK hg.ok rfl rfl rfl rfl rfl rfl eA (Tm.ay (l:=[n,t,a]) (i:=2) rfl) rfl dZ,?_⟩;exact alE;refine ag ?_;refine af (λh1=>?_) λh1=>?_
 have h1:n.k=1:=by simpa using h1
 rw[show mi nx n t a=eJ nx 4 by unfold mi;rw[if_pos (.inl h1)]];refine alc ?_;exact afr;have h1:¬ n.k=1:=by simpa using h1
 refine af (λh2=>?_) λh2=>?_
 have h2:t.k=1:=by simpa using h2
 rw[show mi nx n t a=eJ nx 4 by unfold mi;rw[if_pos (.inr h2)]];refine alc ?_;exact afr;have h2:¬ t.k=1:=by simpa using h2
 refine af (λh3=>?_) λh3=>?_
 have h3:n.k≠2:=by simpa using h3
 rw[show mi nx n t a=eJ nx 5 by unfold mi;rw[if_neg (λh=>h.elim h1 h2),if_pos (.inl h3)]];refine ald ?_;exact afs;have h3:¬ n.k≠2:=by simpa using h3
 refine af (λh4=>?_) λh4=>?_
 have h4:t.l.length=0:=by simp [Tm.ao]at h4; simp [h4]
 rw[show mi nx n t a=eJ nx 5 by unfold mi;rw[if_neg (λh=>h.elim h1 h2),if_pos (.inr h4)]];refine ald ?_;exact afs;have h4:¬ t.l.length=0:=λhe=>by simp[Tm.ao,he]at h4
 refine af (λh5=>?_) λh5=>?_
 rotate_left;have h5:n.n<1:=by have:=of_decide_eq_false h5; omega
 rw[show mi nx n t a=mz nx false by unfold mi;rw[if_neg (λh=>h.elim h1 h2),if_neg (λh=>h.elim h3 h4),if_pos (.inl h5)]];exact aft;have h5:¬ n.n<1:=by have:=of_decide_eq_true h5;omega
 refine af (λh6=>?_) λh6=>?_
 rotate_left;have h6:n.n > t.l.length:=by have:=of_decide_eq_false h6; rw [Tm.ao]at this; omega
 rw[show mi nx n t a=mz nx false by unfold mi;rw[if_neg (λh=>h.elim h1 h2),if_neg (λh=>h.elim h3 h4),if_pos (.inr h6)]];exact aft;have h6:¬ n.n > t.l.length:=by have:=of_decide_eq_true h6;rw[Tm.ao]at this;omega
 have hw:IntKind.i64.wrap (n.n-1)=n.n-1:=pX aq aq;have e1:t.l[(n.n-1).toNat]? = some (t.l[(n.n-1).toNat]' aq):=dG aq;have hxm:=dy (show(n.n-1).toNat<t.l.length by omega);rw[show mi nx n t a=cf nx [(t.l[(n.n-1).toNat]?).getD aJ,a] by unfold mi;rw[if_neg (λh=>h.elim h1 h2),if_neg (λh=>h.elim h3 h4),if_neg (λh=>h.elim h5 h6)]];rw[e1,Option.getD_some];generalize t.l[(n.n-1).toNat]' aq=x at e1 hxm;refine dX hg.ok rfl rfl rfl rfl rfl rfl (by rw[hw];omega) (by rw[hw];exact Tm.ay e1) rfl (ag ?_)
 have AO:∀v∈[x,a],eB v:=λv hv=>by
  simp only[cE,pL,or_false]at hv;rcases hv with rfl|rfl
  exact xC ht hxm;exact ha
 refine aj hg.ok hg.cm hg.wide hg.Y [0] (j6 [n,t,a] (cf nx [x,a]).al false ByteArray.empty (cf nx [x,a]).nx (cf nx [x,a]).e++[aO n,aO t,aO a]) (gV Y [n,t,a] [x,a] false nx AO aD aD) cN rfl rfl rfl rfl rfl rfl rfl rfl (ag ?_);exact aL hg 1 5 cZ rfl rfl (gU _ [n,t,a] (cf nx [x,a]) (j1 _ _) (j3 _ _))
end Go.Proofs.YtmjmngigbachdaaGreatDoor

namespace ax
open Go Go.RowKit
section
variable {g:G} {pf:Nat->cI} {ad:Array Oper} {Fin:Exit->Act->World->Prop}
theorem U3 (hg:di g){dst:Option Nat}{T T':Nat}{x y:Operand}{ty:Nat}{pos:String}{after:Array Edge}{gd:Option (Nat×Bool)}{az:List Oper}{k:List It}{E:bq}{objs:List Ob}
  {q q' cq pA e e':Nat} {z z':List Value} {τ:Ty} {aa cz:List (List D)}
  (bt:aH ad.toList E gd=some true) (hd:aQ ⟨g.ty,g.N⟩ dst=true) (hx:ev E x=.fs aa\/(ev E x=.d (.v (.slice none 0 0))/\aa=[])) (hy:lO (ev E y)=.d (.sl cz)) (dR:aa=[]\/cz≠[])
  (hT:g.ty T=some ⟨q,cq,z,.slice e⟩) (lf:g.ty T'=some ⟨q',pA,z',.slice e'⟩) (he:g.ty e=some τ) (hlr:∀r∈aa,r.length=τ.size) (a8:∀r∈cz,r.length=τ.size)
  (qO:(aa.length+cz.length)*τ.bytes<=140737488355328) (uk:aa.length+cz.length<=140737488355328)
  (hr:R g pf Fin (.dr ad az::k) (bh E dst (.d (.sl (aa++cz)))) objs) :
  R g pf Fin (.dr ad (⟨dst,.call {callee:=.builtin .append,args:=#[x,y],argTypes:=#[T,T']},ty,pos,after,gd⟩::az)::k) E objs:=by
 refine cU (aK.eU hg (.refl _) bt hd aD λφ a w hρ hs=>?_) hr;simp only[Op.operands,Call.operands]at hρ;have aP:=hρ x aD;have eC:=bJ.lO _ _ _ _ _ (hρ y aD);rw[hy]at eC;simp only[RV]at eC
 have V9:Rd (SS g.S0 φ) w (.sl aa) (a.eval x)/\∃a0,a.eval x=.slice a0 aa.length aa.length:=by
  rcases hx with hx|⟨hx,rfl⟩
  rw[hx]at aP;simpa only[RV]using aP;rw [hx]at aP; simp only [RV]at aP;generalize a.eval x=u at aP;cases aP;exact⟨.nil _ _,_,rfl⟩
 obtain⟨V9,a0,hv⟩:=V9;obtain⟨sD,hF⟩:=EE.FH (P:=g.P) V9 hlr;obtain⟨cells,hN⟩:=EE.FH (P:=g.P) eC a8;have hτ:=hg.ty _ _ he;obtain⟨xa,xc,Nr⟩:=hN.sl;have ez:∀r∈aa++cz,r.length=τ.size:=λr hr=>(cu.1 hr).elim (hlr r) (a8 r)
 have KO:aa.length+cz.length<=maxLen:=by simp only[maxLen];omega
 have hw:∀v',RV (SS g.S0 (φ++[bI.o8 τ.size 0 (.slice v' (aa.length+cz.length) 0) none])) w φ .any (.slice v' 0 0):=λ_=>by simp[RV]
 by_cases hm:cz.length=0;have KQ:cz=[]:=kG.1 hm;subst KQ;have eE:aa=[]:=dR.resolve_right (λh=>h rfl);subst eE;have sE:cells=[]:=kG.1 QW;subst sE;have fo:=mS (tr:=ty) (bX hg hT) (bX hg lf) hτ (a:=a0) (n:=0) (cap:=0) Nr (hN.run w rfl) cZ;refine⟨.value (.slice a0 0 0),.slice a0 0 0,w,φ,?_,.inl rfl,?_,.refl hs⟩;simp only [mu]at hv;simp only[execOp,resolve,invoke,builtin,Sem.run_bind,Sem.run_pure,Result.andThen_ok,sr,bM,fm,hv,fo];simp only [RV];exact .nil _ _;rw [hv]at hF;obtain⟨zs,o9,wc,Hs,Kl,fo⟩:=qN (tr:=ty) (bX hg hT) (bX hg lf) hτ Nr hF.run hN.run aq qO KO;have bF:dL (SS g.S0 φ) w (SS g.S0 φ) (w.drew.alloc (.cells (sD++cells++zs).toArray e)):=.of λb hb HG=>⟨hb,jR HG⟩
 have cY:HS g.S0 φ objs (w.drew.alloc (.cells (sD++cells++zs).toArray e)):=hs.later (by show w.heap.size<=(w.heap.push _).size;simp) (λb hb=>jR hb);refine⟨.value (.slice (some ⟨w.heap.size,0,none⟩) (aa.length+cz.length) o9),.slice (some ⟨w.heap.size,0,none⟩) (aa.length+cz.length) o9,w.drew.alloc (.cells (sD++cells++zs).toArray e),φ,?_,.inl rfl,?_,⟨cY,bF,.refl _,by show w.heap.size<=(w.heap.push _).size;simp,rfl,rfl,rfl,λb hb _=>jR hb,λ_ h=>.inl h,λ_ _ _ B h=>⟨B,h⟩⟩⟩;simp only[execOp,resolve,invoke,builtin,Sem.run_bind,Sem.run_pure,Result.andThen_ok,sr,bM,fm,hv,fo];simp only [RV];have qH:SS g.S0 φ w.heap.size:=⟨hs.up _ cZ,λhc=>absurd (hs.lt _ hc) (ab6 _)⟩;have ZK:∀(i:Nat) (r:List D),(aa++cz)[i]? = some r->r.length=τ.size:=λi r hi=>ez r (sq hi)
 rw[<-List.length_append];refine Rd.sl (sz:=τ.size) (λi j=>((sD++cells)[i*τ.size+j]?).getD undef) qH pb (by rw[List.length_append];exact wc) Hs ZK (λi r j x hi hj=>?_) (λi r j x hi hj=>?_);obtain ⟨y',h3,_⟩:=wR hF hN bF i r j x hi hj (ZK i r hi);have:=FI (zs:=zs) h3;simp only[zj,h3,Option.getD_some];simpa using this;obtain ⟨y',h3,h4⟩:=wR hF hN bF i r j x hi hj (ZK i r hi);simp only[h3,Option.getD_some];exact h4
end
end ax

namespace Go.Proofs.YtmjmngigbachdaaGreatDoor
open Go ax Go.Proofs
theorem L7 (l:List Tm):(dN l).size=Tm.aw l+l.length+1:=by
 induction l with
 |nil=>rfl
 |cons x l ih=>rw[sN];simp only[Tm.size,Tm.aw,ih,dx];omega
theorem sR:∀(l:List Tm),(∀x∈l,eB x)->Tm.aw l<=100000000->eB (dN l)
 |[],_,_=>C3 eA
 |x::l,h,hz=>by
  have hl:=Tm.bO l;simp only[Tm.aw]at hz;have h1:=sR l (λy hy=>h y iS) aq;rw[sN];refine Iz eA (λy hy=>?_) ?_;simp only [cE,pL,or_false]at hy;rcases hy with rfl|rfl
  exact h _ aD;exact h1;simp only[Tm.aw,L7];omega
theorem Pg {α:Type}{l:List α}(h:l.length=2):∃a b,l=[a,b]:=by
 match l,h with
 |[a,b],_=>exact⟨a,b,rfl⟩
theorem GF:∀(n:Nat) (t:Tm),eB t->(∀x∈(rS n t).1,eB x)/\eB (rS n t).2/\Tm.aw (rS n t).1+(rS n t).2.size<=t.size
 |0,t,h=>⟨by simp[rS],h,by simp[rS,Tm.aw]⟩
 |n+1,t,h=>by
  simp only[rS];split;rename_i hc;obtain⟨_,_,hl⟩:=hc;have e0:t.l[0]? = some t.l[0]:=dG aq;have e1:t.l[1]? = some t.l[1]:=dG aq;have m0:=dy (show 0<t.l.length by omega);have m1:=dy (show 1<t.l.length by omega);have hs:=Tm.size_eq t
  have hz:t.l[0].size+t.l[1].size=Tm.aw t.l:=by
   obtain⟨a,b,Iv⟩:=Pg hl;have ea:t.l[0]=a:=by simp[Iv]
   have eb:t.l[1]=b:=by simp[Iv]
   rw[ea,eb,Iv];simp[Tm.aw]
  rw[e0,e1,Option.getD_some,Option.getD_some];obtain⟨h1,h2,h3⟩:=GF n t.l[1] (xC h m1);refine⟨λx hx=>?_,h2,by simp only[Tm.aw];omega⟩;rcases cE.1 hx with rfl|hx
  exact xC h m0;exact h1 x hx;exact⟨by simp,h,by simp[Tm.aw]⟩
theorem Ph {t:Tm}(h:eB t):(∀x∈(ib t).1,eB x)/\eB (ib t).2/\Tm.aw (ib t).1+(ib t).2.size<=t.size:=GF _ t h
def aqF:Nat->cI:=λf=>bif Nat.beq f 4000000007 then .Fw else bif Nat.beq f 4000000006 then .bT 200 else bif Nat.beq f 165 then .still else bif Nat.beq f 166 then .still else bif Nat.beq f 167 then .still else bif Nat.beq f 168 then .still else bif Nat.beq f 164 then .still else .jz
theorem adH (Y:YP)(t r:Tm)(ht:eB t)(hr:eB r)(nx:Int)(hts:t.size<=1000000)(hrs:r.size<=1000000):zL Y 153 [t,r] nx (jJ nx t r):=by
 have e2:∀(P:Tm->Prop) (x y:Tm),P x->P y->∀v∈[x,y],P v:=λP x y hx hy v hv=>by simp only[cE,pL,or_false]at hv;rcases hv with rfl|rfl<;>assumption
 refine aU.ej (pf:=aqF) gK mixed Tryz.func153 rfl da da (by simp[Tryz.ntmps153]) (by simp[j6]) λw S φ hg=>?_
 have hφ:φ.length=1:=hg.kh.len;refine ag ?_;refine dX hg.ok rfl rfl rfl rfl rfl rfl eA (Tm.ay (l:=[t,r]) (i:=0) rfl) rfl (ag ?_);refine af (λh1=>?_) λh1=>?_
 have h1:t.k=2:=by simpa using h1
 rw[show jJ nx t r=cf nx [r,dN [t]] by unfold jJ;rw[if_pos h1]];refine Wy ?_;have CT:br Tryz.prog 167 [.d (.sl ([t].map Tm.row))] (dN [t]).av:=by rw[<-Tm.eo];exact Gz [t] aD
 refine aA (CT) ?_;have hlb:eB (dN [t]):=sR [t] (by simpa using ht) J1;refine aj hg.ok hg.cm hg.wide hg.Y [0] (j6 [t,r] (cf nx [r,dN [t]]).al false ByteArray.empty (cf nx [r,dN [t]]).nx (cf nx [r,dN [t]]).e++[aO t]) (gV Y [t,r] [r,dN [t]] false nx (e2 eB _ _ hr hlb) aD aD) cN rfl rfl rfl rfl rfl rfl rfl rfl (ag ?_);exact aL hg 1 5 cZ rfl rfl (gU _ [t,r] (cf nx [r,dN [t]]) (j1 _ _) (j3 _ _));have h1:¬ t.k=2:=by simpa using h1
 refine af (λh2=>?_) λh2=>?_
 have h2:t.k=3:=by simpa using h2
 rw[show jJ nx t r=cf nx [r,dN (gT t.s::t.l)] by unfold jJ;rw[if_neg h1,if_pos h2]];have Kl:=Tm.size_eq t;have V2:=Tm.bO t.l
 have hlb:eB (dN (gT t.s::t.l)):=sR _ (λx hx=>by
  rcases cE.1 hx with rfl|hx
  exact C3 (Iy ht);exact xC ht hx) (by simp only[Tm.aw,gT,Tm.size];omega)
 refine Wy ?_;refine aA (tU t.s) ?_
 have CT:br Tryz.prog 167 [.d (.sl ([Tm.row (gT t.s)]++Tm.aa t.l))] (dN (gT t.s::t.l)).av:=by
  have e:[Tm.row (gT t.s)]++Tm.aa t.l=Tm.aa (gT t.s::t.l):=by rw[Tm.eo,Tm.eo];rfl
  rw[e];exact Gz _ Eu
 by_cases RF:t.l=[];rw [RF];rw[RF]at CT;refine O4 hg.ok rfl rfl rfl rfl rfl rfl rfl (ag ?_);refine aA (CT) ?_;refine aj hg.ok hg.cm hg.wide hg.Y [0] (j6 [t,r] (cf nx [r,dN [gT t.s]]).al false ByteArray.empty (cf nx [r,dN [gT t.s]]).nx (cf nx [r,dN [gT t.s]]).e++[.box [.d (.v (.int .i64 t.k)),.d (.v (.string t.s)),.d (.v (.int .i64 t.n)),.d (.sl (Tm.aa []))]]) (gV Y [t,r] [r,dN [gT t.s]] false nx (e2 eB _ _ hr (RF ▸ hlb)) aD aD) cN rfl rfl rfl rfl rfl rfl rfl rfl (ag ?_);exact aL hg 1 5 cZ rfl rfl (gU _ [t,r] (cf nx [r,dN [gT t.s]]) (j1 _ _) (j3 _ _));have hrn:Tm.aa t.l≠[]:=λh=>RF (kG.1 (by rw [<-Tm.ao,h]; rfl))
 have hr4:∀x∈Tm.aa t.l,x.length=4:=λx hx=>by rw[Tm.eo]at hx;obtain⟨y,_,rfl⟩:=gm.1 hx;rfl
 refine U3 hg.ok rfl rfl (.inl rfl) rfl (.inr hrn) rfl rfl rfl aD hr4 abY abY (ag ?_);refine aA (CT) ?_;refine aj hg.ok hg.cm hg.wide hg.Y [0] (j6 [t,r] (cf nx [r,dN (gT t.s::t.l)]).al false ByteArray.empty (cf nx [r,dN (gT t.s::t.l)]).nx (cf nx [r,dN (gT t.s::t.l)]).e++[aO t]) (gV Y [t,r] [r,dN (gT t.s::t.l)] false nx (e2 eB _ _ hr hlb) aD aD) cN rfl rfl rfl rfl rfl rfl rfl rfl (ag ?_);exact aL hg 1 5 cZ rfl rfl (gU _ [t,r] (cf nx [r,dN (gT t.s::t.l)]) (j1 _ _) (j3 _ _));have h2:¬ t.k=3:=by simpa using h2
 refine Wy ?_;refine aA (ZB r hrs) ?_;obtain⟨hmb,heb,hmz⟩:=Ph hr;have hu:jJ nx t r=if(ib r).2.k=1 then eJ nx 4 else if(ib r).2.same (gT (Tx [91,93]))=false\/(ib r).1=[]then eJ nx 5 else match (ib r).1 with
   |[]=>eJ nx 5
   |h::m=>if h.k=1 then eJ nx 4 else if 0<h.l.length then eJ nx 5 else if m=[]then cf nx [t,h]else if 8<m.length then eJ nx 6 else if h.k=2 then eJ nx 5 else cf nx [t,.mk 3 h.s 0 m]:=by
  unfold jJ;rw[if_neg h1,if_neg h2]<;>rfl
 generalize ib r=M at hmb heb hmz hu;obtain⟨m,e⟩:=M;simp only at hmb heb hmz hu;refine af (λh3=>?_) λh3=>?_
 have h3:e.k=1:=by simpa using h3
 rw[show jJ nx t r=eJ nx 4 by rw[hu];rw[if_pos h3]];refine aeC ?_;exact afv;have h3:¬ e.k=1:=by simpa using h3
 rw[if_neg h3]at hu;refine aA (tU (Tx [91,93])) ?_;refine aA (H7 e (gT (Tx [91,93])) heb.1) ?_;refine af (λh4=>?_) λh4=>?_
 have h4:e.same (gT (Tx [91,93]))=false:=by simpa using h4
 rw[show jJ nx t r=eJ nx 5 by rw[hu];rw[if_pos (.inl h4)]];refine abH ?_;exact Qs;have h4:e.same (gT (Tx [91,93]))=true:=by simpa using h4
 refine af (λh5=>?_) λh5=>?_
 have h5:m=[]:=kG.1 (by simp [Tm.ao]at h5; simp [h5]);rw[show jJ nx t r=eJ nx 5 by rw[hu];rw[if_pos (.inr h5)]];refine abH ?_;exact Qs;cases m with
 |nil=>simp[Tm.aa]at h5
 |cons h m=>
 rw[if_neg (by simp[h4])]at hu;simp only at hu;have hh:=hmb h aD;have hml:=Tm.bO m;simp only[Tm.aw]at hmz;have hrw:Tm.aa (h::m)=Tm.row h::Tm.aa m:=by rw[Tm.eo,Tm.eo];rfl
 refine Ws ?_;refine af (λh6=>?_) λh6=>?_
 have h6:h.k=1:=by simpa using h6
 rw[show jJ nx t r=eJ nx 4 by rw[hu];rw[if_pos h6]];refine aeC ?_;exact afv;have h6:¬ h.k=1:=by simpa using h6
 rw[if_neg h6]at hu;refine Ws ?_;refine af (λh7=>?_) λh7=>?_
 have h7:0<h.l.length:=by simpa [Tm.ao]using h7
 rw[show jJ nx t r=eJ nx 5 by rw[hu];rw[if_pos h7]];refine abH ?_;exact Qs;have h7:¬ 0<h.l.length:=by simpa[Tm.ao]using h7
 rw[if_neg h7]at hu;refine af (λh8=>?_) λh8=>?_
 have h8:m=[]:=by
  simp[Tm.ao]at h8;cases m with
  |nil=>rfl
  |cons x m=>simp at h8;omega
 rw[if_pos h8]at hu;rw[hu];refine Ws ?_;refine aj hg.ok hg.cm hg.wide hg.Y [0] (j6 [t,r] (cf nx [t,h]).al false ByteArray.empty (cf nx [t,h]).nx (cf nx [t,h]).e++[aO t,aO e]) (gV Y [t,r] [t,h] false nx (e2 eB _ _ ht hh) aD aD) cN rfl rfl rfl rfl rfl rfl rfl rfl (ag ?_);exact aL hg 1 5 cZ rfl rfl (gU _ [t,r] (cf nx [t,h]) (j1 _ _) (j3 _ _));have h8:¬ m=[]:=λhe=>by subst he;simp[Tm.ao]at h8
 rw[if_neg h8]at hu;have hw:IntKind.i64.wrap (((Tm.aa (h::m)).length:Int)-1)=(m.length:Int):=by rw[Tm.ao,pX ahw ahw];simp only[dx];omega
 rw[hw];refine af (λh9=>?_) λh9=>?_
 have h9:8<m.length:=by have:=of_decide_eq_true h9; omega
 rw[show jJ nx t r=eJ nx 6 by rw[hu];rw[if_pos h9]];refine aj hg.ok hg.cm hg.wide hg.Y [0] (j6 [t,r] [] false ByteArray.empty nx 6++[aO t,aO e]) (kB Y [t,r] nx 6) cN rfl rfl rfl rfl rfl rfl rfl rfl (ag ?_);exact aL hg 1 5 cZ rfl rfl (dU _ [t,r] [] false ByteArray.empty nx 6);have h9:¬ 8<m.length:=by have:=of_decide_eq_false h9;omega
 rw[if_neg h9]at hu;refine Ws ?_;refine af (λmH=>?_) λmH=>?_
 have mH:h.k=2:=by simpa using mH
 rw[show jJ nx t r=eJ nx 5 by rw[hu];rw[if_pos mH]];refine abH ?_;exact Qs;have mH:¬ h.k=2:=by simpa using mH
 rw[if_neg mH]at hu;rw[hu];have hxb:eB (.mk 3 h.s 0 m):=Iz (Iy hh) (λx hx=>hmb x oZ) aq;refine Ws ?_;have h4r:∀x∈Tm.aa (h::m),x.length=4:=λx hx=>by rw[Tm.eo]at hx;obtain⟨y,_,rfl⟩:=gm.1 hx;rfl
 refine B8 hg.ok (Tm.aa m) rfl rfl rfl rfl rfl rfl rfl h4r eA (by rw[hrw];simp;omega) (kH _) (by rw[hrw];simp) (ag ?_);refine aj hg.ok hg.cm hg.wide hg.Y [0] (j6 [t,r] (cf nx [t,.mk 3 h.s 0 m]).al false ByteArray.empty (cf nx [t,.mk 3 h.s 0 m]).nx (cf nx [t,.mk 3 h.s 0 m]).e++[aO t,aO e]) (gV Y [t,r] [t,.mk 3 h.s 0 m] false nx (e2 eB _ _ ht hxb) aD aD) cN rfl rfl rfl rfl rfl rfl rfl rfl (ag ?_);exact aL hg 1 5 cZ rfl rfl (gU _ [t,r] (cf nx [t,.mk 3 h.s 0 m]) (j1 _ _) (j3 _ _))
end Go.Proofs.YtmjmngigbachdaaGreatDoor

namespace ax
open Go
section
variable {B:an} {M:Nat}
end
end ax

namespace ax
open Go
variable{σ:Int->Tm}{t:Tm}
namespace Tm
def eh (B:an):Nat->Tm->Tm|0,t=>t|f+1,t=>if t.k=1 then(match ba B t.n with|some x=>eh B f x|none=>t)else t
def aG (B:an)(t:Tm):Tm:=eh B (B.length+1) t
mutual
def rT (g:Int->List Int->Bool×List Int):Tm->List Int->Bool×List Int|mk k _ n l,M=>if k=1 then g n M else q8 g l M
def q8 (g:Int->List Int->Bool×List Int):List Tm->List Int->Bool×List Int|[],M=>(false,M)|x::r,M=>if(rT g x M).1 then(true,(rT g x M).2)else q8 g r (rT g x M).2
end
def vQ (B:an) (v:Int):Nat->Int->List Int->Bool×List Int
 |0,n,M=>(decide (n=v),M)
 |u+1,n,M=>if n=v then(true,M)else match ba B n with
  |none=>(false,M)
  |some x=>if M.contains n then(false,M)else rT (vQ B v u) x (M++[n])
def iv (B:an)(v:Int)(t:Tm):Bool:=(rT (vQ B v (B.length+1)) t []).1
def kF (x y:Tm):Bool:=decide (x.k≠y.k)||decide (x.n≠y.n)||!aX x.s y.s||decide (x.l.length≠y.l.length)
def oC (σ:Int->Tm)(B:an):Prop:=∀b∈B,σ b.1=cj σ b.2
theorem qn(h:t.k=1):cj σ t=σ t.n:=by cases t;simp only[k,n]at h ⊢;simp only[cj];rw[if_pos h]
theorem jV(h:t.k≠1):cj σ t=mk t.k t.s t.n (dv σ t.l):=by cases t;simp only[k,n,s,l]at h ⊢;simp only[cj];rw[if_neg h]
theorem size_pos(t:Tm):1<=size t:=by rw[size_eq];omega
theorem gD{σ:Int->Tm}{B:an}(h:oC σ B):∀(f:Nat) (t:Tm),cj σ (eh B f t)=cj σ t
 |0,t=>rfl
 |f+1,t=>by
  simp only[eh];by_cases hk:t.k=1;rw [if_pos hk];cases hf:ba B t.n with
  |none=>rfl
  |some x=>simp only;rw[gD h f x,qn hk,h _ (du hf)]
  simp_all
def ajk (σ:Int->Tm)(v:Int)(g:Int->List Int->Bool×List Int):Prop:=∀n M,(g n M).1=true->size (σ v)<=size (σ n)
mutual
theorem C7{σ:Int->Tm}{v:Int}{g:Int->List Int->Bool×List Int}(hg:ajk σ v g):∀(t:Tm) (M:List Int),(rT g t M).1=true->size (σ v)<=size (cj σ t)/\(t.k≠1->size (σ v)<size (cj σ t))|mk k s n l,M,h=>by simp only[rT]at h;by_cases hk:k=1;rw [if_pos hk]at h;have:=hg n M h;simp only[cj,if_pos hk,Tm.k];omega;rw [if_neg hk]at h;have:=GG hg l M h;simp only[cj,if_neg hk,size];omega
theorem GG{σ:Int->Tm}{v:Int}{g:Int->List Int->Bool×List Int}(hg:ajk σ v g):∀(l:List Tm) (M:List Int),(q8 g l M).1=true->size (σ v)<=aw (dv σ l)|[],M,h=>by simp[q8]at h|x::r,M,h=>by simp only[q8]at h;simp only[dv,aw];by_cases hx:(rT g x M).1=true;have:=(C7 hg x M hx).1;omega;rw [if_neg hx]at h;have:=GG hg r _ h;omega
end
theorem ZL{σ:Int->Tm}{B:an}(h:oC σ B)(v:Int):∀u,ajk σ v (vQ B v u)
 |0,n,M,hl=>by simp only[vQ,decide_eq_true_eq]at hl;simp_all
 |u+1,n,M,hl=>by
  simp only[vQ]at hl;by_cases hn:n=v;simp_all;rw [if_neg hn]at hl;cases hf:ba B n with
  |none=>simp_all
  |some x=>rw[hf]at hl;simp only at hl;split at hl;cases hl;have:=(C7 (ZL h v u) x _ hl).1;rw[h _ (du hf)];exact this
theorem ZM{B:an}(h:oC σ B){v:Int}(he:σ v=cj σ t)(hv:¬ (t.k=1/\(t.n=v\/ba B t.n≠none))):iv B v t=false:=by
 cases hw:iv B v t with
 |false=>rfl
 |true=>
  exfalso;unfold iv at hw;by_cases hk:t.k=1;cases t with
  |mk k s n l=>simp only[Tm.k,Tm.n]at hk hv;simp only[rT,if_pos hk,vQ]at hw;simp_all
  have:=(C7 (ZL h v _) t [] hw).2 hk;simp_all
end Tm
end ax
namespace ax
open Go
variable{B:an}{v:Int}
namespace Tm
structure j9 (B:an):Prop where
 nodup:(B.map (·.1)).Nodup
 chain:∀(i:Nat) (b:Int×Tm),B[i]? = some b->b.2.k=1->∀(j:Nat) (c:Int×Tm),B[j]? = some c->c.1=b.2.n->i<j
theorem j9.nil:j9 []:=⟨by simp,by simp⟩
theorem n8:ba B v=none↔∀b∈B,b.1≠v:=by unfold ba;simp_all
theorem C8{x:Tm}(h:ba B v=some x):∃j:Nat,B[j]? = some (v,x):=by obtain⟨j,hj⟩:=wD.1 (du h);grind
theorem j9.snoc(h:j9 B){t:Tm}(hv:ba B v=none)(ht:t.k=1->ba B t.n=none/\t.n≠v):j9 (B++[(v,t)]):=by
 have rY:=n8.1 hv;constructor;rw [eR,Bq];refine⟨h.nodup,by simp,?_⟩;grind;intro i b hb hk j c hc hcn;rcases qE i B.length with hi|hi
 rw [mv hi]at hb;rcases qE j B.length with hj|hj
 rw [mv hj]at hc;exact h.chain i b hb hk j c hc hcn;omega;rw [nA hi]at hb
 have hi0:i-B.length=0:=by
  rcases ab5 (i-B.length)with h|h
  exact h;rw[Xl Eu]at hb;cases hb
 rw[hi0]at hb;simp at hb;subst hb;obtain⟨h1,h2⟩:=ht hk;exfalso;rcases qE j B.length with hj|hj
 rw [mv hj]at hc;exact n8.1 h1 c (sq hc) hcn;grind
theorem L8{B:an}(h:j9 B):∀(f:Nat) (t:Tm),(∀(j:Nat) (c:Int×Tm),B[j]? = some c->t.k=1->c.1=t.n->B.length-j<=f)->(eh B f t).k=1->ba B (eh B f t).n=none
 |0,t,hj,hk=>by
  simp only[eh]at hk ⊢;cases hf:ba B t.n with
  |none=>rfl
  |some x=>obtain⟨j,hx⟩:=C8 hf;grind
 |f+1,t,hj,hk=>by
  simp only[eh]at hk ⊢;by_cases ht:t.k=1;rw [if_pos ht]at hk ⊢;cases hf:ba B t.n with
  |none=>exact hf
  |some x=>rw[hf]at hk;simp only at hk ⊢;obtain⟨j,hx⟩:=C8 hf;have h1:=hj j _ hx ht rfl;refine L8 h f x (λj' c hc hxk hcn=>?_) hk;have:=h.chain j _ hx hxk j' c hc hcn;omega
  simp_all
theorem yT(h:j9 B){t:Tm}(hk:(aG B t).k=1):ba B (aG B t).n=none:=L8 h _ t (λj c hc _ _=>by omega) hk
def C9 (B:an):Prop:=∀b∈B,b.2.bA=true/\0<=b.1/\b.1<1000000
theorem yU{B:an}(h:C9 B):∀(f:Nat) (t:Tm),t.bA=true->(eh B f t).bA=true|0,t,ht=>ht|f+1,t,ht=>by simp only[eh];split;split;rename_i x hx;exact yU h f x (h _ (du hx)).1;exact ht;exact ht
def uB (σ:Int->Tm)(T:List (Tm×Tm)):Nat:=(T.map λp=>size (cj σ p.1)).sum
theorem ZN(σ:Int->Tm)(A B:List (Tm×Tm)):uB σ (A++B)=uB σ A+uB σ B:=by simp[uB]
theorem Da(σ:Int->Tm):∀(l m:List Tm),l.length=m.length->uB σ (l.zip m)=aw (dv σ l)|[],[],_=>rfl|[],_::_,h=>by simp at h|_::_,[],h=>by simp at h|a::l,b::m,h=>by have:=Da σ l m ln;simp only[uB,List.zip_cons_cons,bM,List.sum_cons,dv,aw]at this ⊢;omega
theorem Sr{σ:Int->Tm}:∀(l m:List Tm),dv σ l=dv σ m->∀p∈l.zip m,cj σ p.1=cj σ p.2
 |[],m,_,p,hp=>by simp at hp
 |_::_,[],_,p,hp=>by simp at hp
 |a::l,b::m,h,p,hp=>by
  simp only[dv,List.cons.injEq]at h;rcases cE.1 TB with e|e
  simp_all;exact Sr l m h.2 p e
end Tm
end ax
namespace ax
open Go
variable{M:List Int}
namespace Tm
def L9 (g:Int->List Int->Bool×List Int):Prop:=∀n M,∃R,(g n M).2=M++R
mutual
theorem AX{g:Int->List Int->Bool×List Int}(hg:L9 g):∀(t:Tm) (M:List Int),∃R,(rT g t M).2=M++R|mk k s n l,M=>by simp only[rT];split;exact hg n M;exact Ma hg l M
theorem Ma{g:Int->List Int->Bool×List Int}(hg:L9 g):∀(l:List Tm) (M:List Int),∃R,(q8 g l M).2=M++R|[],M=>⟨[],by simp[q8]⟩|x::r,M=>by obtain⟨R,h⟩:=AX hg x M;simp only[q8];split;simp_all;obtain ⟨R2,h2⟩:=Ma hg r (rT g x M).2;simp_all
end
theorem AY(B:an)(v:Int):∀u,L9 (vQ B v u)|0,n,M=>⟨[],by simp[vQ]⟩|u+1,n,M=>by simp only[vQ];split;simp_all;split;simp_all;split;simp_all;rename_i x _ _;obtain⟨R,h⟩:=AX (AY B v u) x (M++[n]);simp_all
theorem count_le(B:an)(M R:List Int):(B.countP λb=>!(M++R).contains b.1)<=B.countP λb=>!M.contains b.1:=by apply Xo;simp_all
theorem Db{B:an}{n:Int}{x:Tm}(hx:ba B n=some x)(hM:M.contains n=false):(B.countP λb=>!(M++[n]).contains b.1)<B.countP λb=>!M.contains b.1:=by obtain⟨j,hj⟩:=Ra.1 (du hx);obtain⟨r,rfl⟩:=hj;have h1:=count_le j M [n];have h2:=count_le r M [n];grind
theorem AZ{g:Int->List Int->Bool×List Int}{t:Tm}(h:t.k=1):rT g t M=g t.n M:=by cases t;simp only[k,n]at h ⊢;simp only[rT];rw[if_pos h]
theorem adI{g:Int->List Int->Bool×List Int}{t:Tm}(h:t.k≠1):rT g t M=q8 g t.l M:=by cases t;simp only[k,l]at h ⊢;simp only[rT];rw[if_neg h]
end Tm
end ax
namespace ax
theorem Tm.mA:∀l:List Tm,l.length<=Tm.aw l|[]=>by simp|x::l=>by have:=Tm.mA l;have:=Tm.size_pos x;simp only[dx,Tm.aw];omega
end ax
namespace ax
open Go
namespace Tm
def ajl (N:Nat)(T:List (Tm×Tm)):Prop:=∀p∈T,p.1.size<=N/\p.2.size<=N
def U4 (N:Nat)(B:an):Prop:=∀b∈B,b.2.size<=N
theorem Dc {N:Nat}{B:an}(h:U4 N B):∀(f:Nat) (t:Tm),t.size<=N->(eh B f t).size<=N|0,t,ht=>ht|f+1,t,ht=>by simp only[eh];split;split;rename_i x hx;exact Dc h f x (h _ (du hx));exact ht;exact ht
theorem U4.snoc {N:Nat}{B:an}(h:U4 N B){v:Int}{t:Tm}(ht:t.size<=N):U4 N (B++[(v,t)]):=λb hb=>by
 rcases cu.1 hb with hb|hb
 exact h b hb;simp_all
end Tm
end ax
namespace ax
open Go
namespace Tm
def lX (x y:Tm)(cK:List (Int×Int)):List (Int×Int):=if decide (x.k=1)&&decide (y.k=1)then cK++[(x.n,y.n)]else cK
def kS (x y:Tm)(cK:List (Int×Int)):Bool:=(decide (x.k=1)&&decide (y.k=1))&&cK.contains (x.n,y.n)
section
variable {σ:Int->Tm} {B':an} {n:Nat} {R:List (Tm×Tm)} {x y:Tm} {B:an} {cK:List (Int×Int)}
end
end Tm
end ax

namespace ax
open Go
namespace Tm
def Cl (B:an)(v:Int)(M M':List Int):Prop:=∀n∈M',n∈M\/∃x,ba B n=some x/\∀u∈cF x,u≠v/\(ba B u≠none->u∈M')
theorem Cl.trans {B:an}{v:Int}{M M1 M2:List Int}(h1:Cl B v M M1)(h2:Cl B v M1 M2)(hs:∀n∈M1,n∈M2):Cl B v M M2:=λn hn=>by
 rcases h2 n hn with h|h
 rcases h1 n h with h| ⟨x,hx,hu⟩
 exact .inl h;exact .inr ⟨x,hx,λu hu1=>⟨(hu u hu1).1,λhb=>hs u ((hu u hu1).2 hb)⟩⟩;exact .inr h
def Pj (B:an)(M:List Int):Nat:=B.countP λb=>!M.contains b.1
def ajm (B:an)(v:Int)(u:Nat)(g:Int->List Int->Bool×List Int):Prop:=∀n M,Pj B M<u->(g n M).1=false->(∀m∈M,m∈(g n M).2)/\Cl B v M (g n M).2/\n≠v/\(ba B n≠none->n∈(g n M).2)
mutual
theorem Pk {B:an}{v:Int}{u:Nat}{g:Int->List Int->Bool×List Int}(he:L9 g)(hg:ajm B v u g):∀(t:Tm) (M:List Int),Pj B M<u->(rT g t M).1=false->(∀m∈M,m∈(rT g t M).2)/\Cl B v M (rT g t M).2/\∀n∈cF t,n≠v/\(ba B n≠none->n∈(rT g t M).2)|mk k s n l,M,hM,h=>by simp only[rT,cF]at h ⊢;split at h;rename_i hk;rw[if_pos hk,if_pos hk];obtain⟨h1,h2,h3,h4⟩:=hg n M hM h;exact⟨h1,h2,λm hm=>by simp only[eu]at hm;subst hm;exact⟨h3,h4⟩⟩;rename_i hk;rw[if_neg hk,if_neg hk];exact Ss he hg l M hM h
theorem Ss {B:an}{v:Int}{u:Nat}{g:Int->List Int->Bool×List Int}(he:L9 g)(hg:ajm B v u g):∀(l:List Tm) (M:List Int),Pj B M<u->(q8 g l M).1=false->(∀m∈M,m∈(q8 g l M).2)/\Cl B v M (q8 g l M).2/\∀n∈ep l,n≠v/\(ba B n≠none->n∈(q8 g l M).2)
 |[],M,hM,h=>by simp only[q8,ep];exact⟨λm hm=>hm,λn hn=>.inl hn,by simp⟩
 |x::r,M,hM,h=>by
  simp only[q8,ep]at h ⊢;cases hx:(rT g x M).1 with
  |true=>rw[hx]at h;simp at h
  |false=>
   rw[hx]at h;simp only[lq,if_false]at h ⊢;obtain⟨h1,h2,h3⟩:=Pk he hg x M hM hx;obtain⟨R,hR⟩:=AX he x M;have hM1:Pj B (rT g x M).2<u:=by have:=count_le B M R;rw[hR];unfold Pj at hM ⊢;omega
   obtain⟨g1,g2,g3⟩:=Ss he hg r _ hM1 h;refine⟨λm hm=>g1 m (h1 m hm),h2.trans g2 g1,λn hn=>?_⟩;rcases cu.1 hn with hn|hn
   exact⟨(h3 n hn).1,λhb=>g1 n ((h3 n hn).2 hb)⟩;exact g3 n hn
end
theorem ZO (B:an)(v:Int):∀u,ajm B v u (vQ B v u)
 |0,n,M,hM,_=>by omega
 |u+1,n,M,hM,h=>by
  simp only[vQ]at h ⊢;by_cases hn:n=v;rw[if_pos hn]at h;cases h;rw[if_neg hn]at h ⊢;cases hf:ba B n with
  |none=>exact⟨λm hm=>hm,λm hm=>.inl hm,hn,λh=>absurd rfl h⟩
  |some x=>
   rw[hf]at h;simp only at h ⊢;split at h;rename_i hc;rw[if_pos hc];exact⟨λm hm=>hm,λm hm=>.inl hm,hn,λ_=>by simpa using hc⟩;rename_i hc;rw[if_neg hc];have FA:M.contains n=false:=by simpa using hc
   have hl:=Db hf FA;obtain⟨h1,h2,h3⟩:=Pk (AY B v u) (ZO B v u) x (M++[n]) (by unfold Pj at hM ⊢;omega) h;have hnm:=h1 n aD;refine⟨λm hm=>h1 m (by simp[hm]),λm hm=>?_,hn,λ_=>hnm⟩;rcases h2 m hm with h|h
   rcases cu.1 h with h| h
   exact .inl h;simp only [eu]at h; subst h;exact .inr ⟨x,hf,h3⟩;exact .inr h
theorem Pl {B:an}{v:Int}{t:Tm}(h:iv B v t=false):∀M,v ∉ cF (bu B M t):=by
 unfold iv at h;obtain⟨_,h2,h3⟩:=Pk (AY B v _) (ZO B v (B.length+1)) t [] (by unfold Pj;exact zn Kf) h;generalize (rT (vQ B v (B.length+1)) t []).2=M' at h2 h3
 have main:∀(m:Nat) (x:Tm),(∀n∈cF x,n≠v/\(ba B n≠none->n∈M'))->∀z∈cF (bu B m x),z≠v:=by
  intro m;induction m with
  |zero=>intro x hx z hz;exact(hx z hz).1
  |succ m ih=>
   intro x hx z hz;simp only[bu]at hz;obtain⟨u,hu,hz⟩:=xt x z hz;cases hf:ba B u with
   |none=>rw[hf]at hz;simp[cF,vT]at hz;rw[hz];exact(hx u hu).1
   |some y=>
    rw[hf]at hz;have hm:=(hx u hu).2 (by rw[hf];simp);rcases h2 u hm with h|⟨y',hy,hc⟩
    cases h;rw [hf]at hy; cases hy;exact ih y hc z hz
 exact λM hv=>main M t h3 v hv rfl
end Tm
end ax

namespace ax
open Go
variable{B:an}{ρ:Int->Nat}{σ:Int->Tm}
namespace Tm
theorem vR(h:(B.map (·.1)).Nodup){b:Int×Tm}(hb:b∈B):ba B b.1=some b.2:=by
 induction B with
 |nil=>cases hb
 |cons c B ih=>
  rw[qY];simp only[bM,Bo]at h;rcases cE.1 hb with rfl|hb
  rw[if_pos rfl];rw [if_neg (λe=>h.1 (by rw [e]; exact gm.2 ⟨b,hb,rfl⟩))];exact ih h.2 hb
def IE (B:an)(ρ:Int->Nat)(r:Nat):Nat:=B.countP λb=>decide (ρ b.1<r)
theorem IG(B:an)(ρ:Int->Nat){r r':Nat}(h:r<=r'):IE B ρ r<=IE B ρ r':=by apply Xo;intro b _ hb;simp only[decide_eq_true_eq]at hb ⊢;omega
theorem adJ{b:Int×Tm}(hb:b∈B):IE B ρ (ρ b.1)<IE B ρ (ρ b.1+1):=by
 obtain⟨l,r,rfl⟩:=Ra.1 hb;have h1:=IG l ρ (show ρ b.1<=ρ b.1+1 by omega);have h2:=IG r ρ (show ρ b.1<=ρ b.1+1 by omega);unfold IE at *;simp only[List.countP_append,Q8];have e1:decide (ρ b.1<ρ b.1)=false:=by simp
 have e2:decide (ρ b.1<ρ b.1+1)=true:=by simp
 rw[e1,e2];simp only[if_true,lq,if_false];omega
theorem ZP(hf:∀b∈B,b.2.bA=true)(hρ:∀b∈B,∀u∈cF b.2,ba B u≠none->ρ u<ρ b.1):∀(r i:Nat) (b:Int×Tm),B[i]? = some b->ρ b.1=r->xq (gq B) (IE B ρ (r+1)) i:=by
 intro r;induction r using Nat.strongRecOn with
 |ind r ih=>
  intro i b hb hr;have hm:=sq hb;have h1:=adJ (ρ:=ρ) hm;rw[hr]at h1;obtain⟨m,hm'⟩:∃m,IE B ρ (r+1)=m+1:=⟨IE B ρ (r+1)-1,by omega⟩;rw[hm'];refine .mk λk hk=>?_
  simp only[gq,hb,yo]at hk;obtain⟨v,hv,hk⟩:=hk;rw[kj (Ci (hf _ hm))]at hv;simp only[ep,yq]at hv;rcases fN B v with ⟨h1,h2⟩|⟨j,t,h2,h3,h4⟩
  rw[if_pos h1]at hk;cases hk;rw [if_neg aq]at hk;simp only[Option.some.injEq]at hk;have fE:=hρ b hm v hv J5;have hkj:k=j:=by omega
  subst hkj;have:=ih (ρ v) aq k (v,t) h3 rfl;refine this.mono ?_;have:=IG B ρ (show ρ v+1<=r by omega);omega
theorem Mb(hf:∀b∈B,b.2.bA=true)(hρ:∀b∈B,∀u∈cF b.2,ba B u≠none->ρ u<ρ b.1):Sub B B.length :=⟨hf,λi hi=>(ZP hf hρ _ i B[i] (dG hi) rfl).mono (by unfold IE;exact Kf)⟩
mutual
theorem Mc{σ:Int->Tm}:∀(t:Tm) (u:Int),u∈cF t->size (σ u)<=size (cj σ t)/\(t.k≠1->size (σ u)<size (cj σ t))|mk k s n l,u,h=>by simp only[cF]at h;by_cases hk:k=1;rw [if_pos hk,eu]at h;subst h;simp only[cj,if_pos hk,Tm.k];exact⟨eT _,λh=>absurd hk h⟩;rw [if_neg hk]at h;have:=GH (σ:=σ) l u h;simp only[cj,if_neg hk,size];exact⟨by omega,λ_=>by omega⟩
theorem GH{σ:Int->Tm}:∀(l:List Tm) (u:Int),u∈ep l->size (σ u)<=aw (dv σ l)
 |[],u,h=>by simp[ep]at h
 |t::l,u,h=>by
  simp only[ep,cu]at h;simp only[dv,aw];rcases h with h|h
  have:=(Mc (σ:=σ) t u h).1;omega;have:=GH (σ:=σ) l u h;omega
end
theorem Pm{t:Tm}(hk:t.k=1){u:Int}(h:u∈cF t):u=t.n:=by cases t;simp only[k]at hk;simp only[cF,if_pos hk,eu]at h;exact h
theorem Md(hs:oC σ B)(hc:j9 B):∃ρ:Int->Nat,∀b∈B,∀u∈cF b.2,ba B u≠none->ρ u<ρ b.1:=by
 refine⟨λv=>size (σ v)*(B.length+1)+(B.length-(eN B v).toNat),λb hb u hu hub=>?_⟩;show size (σ u)*(B.length+1)+(B.length-(eN B u).toNat)<size (σ b.1)*(B.length+1)+(B.length-(eN B b.1).toNat)
 have HG:=hs b hb;have h1:=Mc (σ:=σ) b.2 u hu;by_cases hk:b.2.k=1;have he:=Pm hk hu;rw[qn hk,<-he]at HG;rw[HG];rcases fN B u with ⟨g1,g2⟩|⟨j,t,g1,g2,g3⟩
 exact absurd g2 hub;rcases fN B b.1 with ⟨e1,e2⟩|⟨i,t',e1,e2,e3⟩
 rw[vR hc.nodup hb]at e2;cases e2;rw[vR hc.nodup hb]at e3;simp only[Option.some.injEq]at e3;subst e3;have:=hc.chain i _ e2 hk j _ g2 he;have:=(fu.1 g2).1;rw[g1,e1];simp only[zk];omega;have h2:=h1.2 hk;rw[<-HG]at h2;have:(size (σ u)+1)*(B.length+1)<=size (σ b.1)*(B.length+1):=Fo _ h2;rw[Nat.add_mul]at this;omega
theorem IH(hs:oC σ B)(hc:j9 B)(hf:C9 B):Sub B B.length :=(Md hs hc).elim λ_ h=>Mb (λb hb=>(hf b hb).1) h
def Dd (B:an)(v:Int):Tm:=match ba B v with|some x=>bu B B.length x|none=>vT v
theorem De(h:Sub B B.length){t:Tm}(hf:t.bA=true):cj (Dd B) t=bu B B.length t:=(h.fix hf).symm
theorem Me(h:Sub B B.length)(hc:j9 B):oC (Dd B) B:=λb hb=>by rw[De h (h.fair b hb)];unfold Dd;rw[vR hc.nodup hb]
theorem Pn{v:Int}(h:ba B v=none):Dd B v=vT v:=by unfold Dd;rw[h]
theorem ZQ(hs:oC σ B)(hc:j9 B)(hf:C9 B){v:Int}{w:Tm}(hv:ba B v=none)(hw:w.bA=true)(hn:iv B v w=false):∃σ',oC σ' (B++[(v,w)]):=by
 have hS:=IH hs hc hf;have anT:=Pl hn B.length;have hfw:=hS.agr hw;refine⟨λz=>cj (λu=>if u=v then cj (Dd B) w else vT u) (Dd B z),λb hb=>?_⟩;simp only;rw[<-Gb];rcases cu.1 hb with hb|hb
 rw[Me hS hc b hb];simp only [eu]at hb; subst hb;simp only;rw[Pn hv,qn (show(vT v).k=1 from rfl)];simp only[vT,Tm.n,if_true];rw[De hS hw];refine(YN _ hfw λu hu=>?_).symm;rw[if_neg (λe=>anT (by rw[<-e];exact hu))];rfl
end Tm
end ax

namespace ax
open Go
variable{sw:Bool}{S:List Int}
namespace Tm
def iA (sw:Bool)(x y:Tm):Tm×Tm:=if(sw||decide (x.k≠1))&&decide (y.k=1)then(y,x)else(x,y)
def GI (x y:Tm):Prop:=x.k=1/\y.k=1/\x.n=y.n
def EX (sw:Bool)(l m:List Tm):List (Tm×Tm):=if sw then l.zip m else(l.zip m).reverse
theorem sS{l m:List Tm}{p:Tm×Tm}:p∈EX sw l m↔p∈l.zip m:=by cases sw<;>simp[EX]
theorem qo{x y u w:Tm}(h:iA sw x y=(u,w)):(u=x/\w=y)\/(u=y/\w=x/\y.k=1):=by unfold iA at h;grind
theorem GJ{x y u w:Tm}(h:iA sw x y=(u,w))(hu:u.k≠1):x.k≠1/\y.k≠1:=by unfold iA at h;grind
inductive mY (sw:Bool):Nat->List (Tm×Tm)->an->List (Int×Int)->an->Bool->Prop
 |done {n:Nat} {B:an} {cK:List (Int×Int)}:mY sw n [] B cK B true
 |skip {n:Nat} {x y:Tm} {R:List (Tm×Tm)} {B B':an} {cK:List (Int×Int)} {ok:Bool} (hs:kS x y cK=true) (h:mY sw n R B cK B' ok):mY sw (n+1) ((x,y)::R) B cK B' ok
 |same {n:Nat} {x y:Tm} {R:List (Tm×Tm)} {B B':an} {cK:List (Int×Int)} {ok:Bool} (hs:kS x y cK=false) (hv:GI (aG B x) (aG B y)) (h:mY sw n R B (lX x y cK) B' ok):mY sw (n+1) ((x,y)::R) B cK B' ok
 |cF {n:Nat} {x y u w:Tm} {R:List (Tm×Tm)} {B:an} {cK:List (Int×Int)} (hs:kS x y cK=false) (hv:¬ GI (aG B x) (aG B y)) (hp:iA sw (aG B x) (aG B y)=(u,w)) (hk:u.k=1) (hw:iv B u.n w=true):mY sw (n+1) ((x,y)::R) B cK B false
 |bind {n:Nat} {x y u w:Tm} {R:List (Tm×Tm)} {B B':an} {cK:List (Int×Int)} {ok:Bool} (hs:kS x y cK=false) (hv:¬ GI (aG B x) (aG B y)) (hp:iA sw (aG B x) (aG B y)=(u,w)) (hk:u.k=1) (hw:iv B u.n w=false) (h:mY sw n R (B++[(u.n,w)]) (lX x y cK) B' ok):mY sw (n+1) ((x,y)::R) B cK B' ok
 |kT {n:Nat} {x y:Tm} {R:List (Tm×Tm)} {B:an} {cK:List (Int×Int)} (hs:kS x y cK=false) (hx:(aG B x).k≠1) (hy:(aG B y).k≠1) (hc:kF (aG B x) (aG B y)=true):mY sw (n+1) ((x,y)::R) B cK B false
 |args {n:Nat} {x y:Tm} {R:List (Tm×Tm)} {B B':an} {cK:List (Int×Int)} {ok:Bool} (hs:kS x y cK=false) (hx:(aG B x).k≠1) (hy:(aG B y).k≠1) (hc:kF (aG B x) (aG B y)=false) (h:mY sw n (EX sw (aG B x).l (aG B y).l++R) B (lX x y cK) B' ok):mY sw (n+1) ((x,y)::R) B cK B' ok
structure UG (S:List Int) (N:Nat) (T:List (Tm×Tm)) (B:an):Prop where
 chain:j9 B
 mI:C9 B
 oT:∀p∈T,p.1.bA=true/\p.2.bA=true
 st:ajl N T
 sb:U4 N B
 V1:∃σ,oC σ B
 vb:∀b∈B,b.1∈S/\∀u∈cF b.2,u∈S
 vt:∀p∈T,(∀u∈cF p.1,u∈S)/\∀u∈cF p.2,u∈S
theorem Df{S:List Int}{B:an}(h:∀b∈B,b.1∈S/\∀u∈cF b.2,u∈S):∀(f:Nat) (t:Tm),(∀u∈cF t,u∈S)->∀u∈cF (eh B f t),u∈S|0,t,ht=>ht|f+1,t,ht=>by simp only[eh];split;split;rename_i x hx;exact Df h f x (h _ (du hx)).2;exact ht;exact ht
structure UW (S:List Int) (N:Nat) (B:an) (x:Tm):Prop where
 fair:x.bA=true
 size:x.size<=N
 cF:∀u∈cF x,u∈S
 nd:x.k=1->ba B x.n=none
section
variable {S:List Int} {N:Nat} {x y:Tm} {R:List (Tm×Tm)} {B:an}
theorem UG.tail{p:Tm×Tm}(h:UG S N (p::R) B):UG S N R B :=⟨h.chain,h.mI,λq hq=>h.oT q Fk,λq hq=>h.st q Fk,h.sb,h.V1,h.vb,λq hq=>h.vt q Fk⟩
theorem UG.Mf(h:UG S N ((x,y)::R) B):UW S N B (aG B x) :=⟨yU h.mI _ x (h.oT (x,y) aD).1,Dc h.sb _ x (h.st (x,y) aD).1,Df h.vb _ x (h.vt (x,y) aD).1,yT h.chain⟩
theorem UG.Mg(h:UG S N ((x,y)::R) B):UW S N B (aG B y) :=⟨yU h.mI _ y (h.oT (x,y) aD).2,Dc h.sb _ y (h.st (x,y) aD).2,Df h.vb _ y (h.vt (x,y) aD).2,yT h.chain⟩
theorem UG.pick{u w:Tm}(h:UG S N ((x,y)::R) B)(hv:¬ GI (aG B x) (aG B y))(hp:iA sw (aG B x) (aG B y)=(u,w))(hk:u.k=1):UW S N B u/\UW S N B w/\(w.k=1->w.n≠u.n):=by
 rcases qo hp with ⟨rfl,rfl⟩|⟨rfl,rfl,_⟩
 exact⟨h.Mf,h.Mg,λhw e=>hv ⟨hk,hw,e.symm⟩⟩;exact⟨h.Mg,h.Mf,λhw e=>hv ⟨hw,hk,e⟩⟩
theorem UG.bind{u w:Tm}(h:UG S N ((x,y)::R) B)(hv:¬ GI (aG B x) (aG B y))(hp:iA sw (aG B x) (aG B y)=(u,w))(hk:u.k=1)(hw:iv B u.n w=false):UG S N R (B++[(u.n,w)]):=by
 obtain⟨hu,Rg,dR⟩:=h.pick hv hp hk;obtain⟨σ,hs⟩:=h.V1;have ht:=h.tail;refine⟨h.chain.snoc (hu.nd hk) λh1=>⟨Rg.nd h1,dR h1⟩,λb hb=>?_,ht.oT,ht.st,h.sb.snoc Rg.size,ZQ hs h.chain h.mI (hu.nd hk) Rg.fair hw,λb hb=>?_,ht.vt⟩;rcases cu.1 hb with hb| hb
 exact h.mI b hb;simp only [eu]at hb; subst hb;exact⟨Rg.fair,lz u hu.fair u.n (AP hk)⟩;rcases cu.1 hb with hb| hb
 exact h.vb b hb;simp only [eu]at hb; subst hb;exact⟨hu.cF _ (AP hk),Rg.cF⟩
theorem St{t x:Tm}(hk:t.k≠1)(hx:x∈t.l){u:Int}(hu:u∈cF x):u∈cF t:=by
 cases t;simp only[k,l]at hk hx;simp only[cF,if_neg hk];clear hk;rename_i l;induction l with
 |nil=>cases hx
 |cons a l ih=>simp only[ep,cu];grind
theorem UG.args(h:UG S N ((x,y)::R) B)(hx:(aG B x).k≠1)(hy:(aG B y).k≠1):UG S N (EX sw (aG B x).l (aG B y).l++R) B:=by
 have ht:=h.tail;have h1:=h.Mf;have h2:=h.Mg;generalize aG B x=x' at *;generalize aG B y=y' at *;have hz:∀p∈EX sw x'.l y'.l,p.1∈x'.l/\p.2∈y'.l:=λp hp=>Kj (sS.1 hp)
 refine⟨h.chain,h.mI,λq hq=>?_,λq hq=>?_,h.sb,h.V1,h.vb,λq hq=>?_⟩;rcases cu.1 hq with hq| hq
 exact⟨Sub.Cq h1.fair (hz q hq).1,Sub.Cq h2.fair (hz q hq).2⟩;exact ht.oT q hq;rcases cu.1 hq with hq| hq
 have g1:=b8 (hz q hq).1;have g2:=b8 (hz q hq).2;have g3:=size_eq x';have g4:=size_eq y';have g5:=h1.size;have g6:=h2.size;omega;exact ht.st q hq;rcases cu.1 hq with hq| hq
 exact⟨λu hu=>h1.cF u (St hx (hz q hq).1 hu),λu hu=>h2.cF u (St hy (hz q hq).2 hu)⟩;exact ht.vt q hq
end
def ZR (S:List Int)(B:an):Nat:=S.countP λv=>(ba B v).isNone
theorem n9(B:an)(v z:Int)(w:Tm):ba (B++[(v,w)]) z=match ba B z with|some x=>some x|none=>if v=z then some w else none:=by
 induction B with
 |nil=>simp[qY,ba]
 |cons b B ih=>simp only[jo,qY];grind
theorem adK{B:an}{v:Int}(hv:v∈S)(hb:ba B v=none)(w:Tm):ZR S (B++[(v,w)])<ZR S B:=by
 obtain⟨l,r,rfl⟩:=Ra.1 hv;have mono:∀l:List Int,(l.countP λz=>(ba (B++[(v,w)]) z).isNone)<=l.countP λz=>(ba B z).isNone:=λl=>by apply Xo;intro z _ hz;rw[n9]at hz;grind
 have h1:=mono l;have h2:=mono r;unfold ZR;simp only[List.countP_append,Q8];rw[hb,n9,hb];simp;omega
theorem ZS(σ:Int->Tm)(T:List (Tm×Tm)):uB σ T.reverse=uB σ T:=by simp[uB]
theorem ZT(σ:Int->Tm)(sw:Bool)(l m:List Tm)(h:l.length=m.length):uB σ (EX sw l m)=aw (dv σ l):=by cases sw;rw[EX,if_neg aD,ZS,Da σ l m h];rw[EX,if_pos rfl,Da σ l m h]
theorem GK(σ:Int->Tm)(p:Tm×Tm)(T:List (Tm×Tm)):uB σ (p::T)=size (cj σ p.1)+uB σ T:=by simp[uB]
theorem Mh{x y:Tm}(h:kF x y=false):x.k=y.k/\x.s=y.s/\x.n=y.n/\x.l.length=y.l.length:=by unfold kF at h;simp only[Ez,decide_eq_false_iff_not,Decidable.not_not,J9]at h;obtain⟨⟨⟨h1,h2⟩,h3⟩,h4⟩:=h;exact⟨h1,Tm.bn.1 h3,h2,h4⟩
theorem U5(sw:Bool){N:Nat}:∀(c:Nat) (s:Nat) (σ:Int->Tm) (T:List (Tm×Tm)) (B:an) (cK:List (Int×Int)),UG S N T B->ZR S B<=c->oC σ B->uB σ T<=s->∃n B' ok,mY sw n T B cK B' ok:=by
 intro c;induction c using Nat.strongRecOn with
 |ind c ihc=>
  intro s;induction s with
  |zero=>
   intro σ T B cK hU hc hs adL;cases T with
   |nil=>exact⟨0,B,true,.done⟩
   |cons p T=>rw[GK]at adL;have:=size_pos (cj σ p.1);omega
  |succ s ih=>
   intro σ T B cK hU hc hs adL;cases T with
   |nil=>exact⟨0,B,true,.done⟩
   |cons p T=>
    obtain⟨x,y⟩:=p;rw[GK]at adL;have aiy:=size_pos (cj σ x);simp only at adL;cases hsk:kS x y cK with
    |true=>obtain⟨n,B',ok,h⟩:=ih σ T B cK hU.tail hc hs (by omega);exact⟨n+1,B',ok,.skip hsk h⟩
    |false=>
     by_cases hv:GI (aG B x) (aG B y);obtain ⟨n,B',ok,h⟩:=ih σ T B (lX x y cK) hU.tail hc hs (by omega);exact⟨n+1,B',ok,.same hsk hv h⟩
     ·obtain ⟨u,w,hp⟩:∃u w,iA sw (aG B x) (aG B y)=(u,w):=⟨_,_,rfl⟩;by_cases hk:u.k=1;cases hw:iv B u.n w with
      |true=>exact⟨1,B,false,.cF (n:=0) hsk hv hp hk hw⟩
      |false=>have hb:=hU.bind hv hp hk hw;obtain⟨hu,_,_⟩:=hU.pick hv hp hk;have fE:=adK (hu.cF _ (AP hk)) (hu.nd hk) w;obtain⟨σ',fk⟩:=hb.V1;obtain⟨n,B',ok,h⟩:=ihc _ (by omega) (uB σ' T) σ' T _ (lX x y cK) hb (eT _) fk (eT _);exact⟨n+1,B',ok,.bind hsk hv hp hk hw h⟩
      obtain ⟨hx,hy⟩:=GJ hp hk;cases dK:kF (aG B x) (aG B y)with
      |true=>exact⟨1,B,false,.kT (n:=0) hsk hx hy dK⟩
      |false=>
       obtain⟨_,_,_,a8⟩:=Mh dK;have hz:size (cj σ x)=1+aw (dv σ (aG B x).l):=by rw[<-gD hs (B.length+1) x,show eh B (B.length+1) x=aG B x from rfl,jV hx];simp only[size]
       obtain⟨n,B',ok,h⟩:=ih σ (EX sw (aG B x).l (aG B y).l++T) B (lX x y cK) (hU.args hx hy) hc hs (by rw[ZN,ZT σ sw _ _ a8];omega);exact⟨n+1,B',ok,.args hsk hx hy dK h⟩
theorem Dg{N:Nat}{σ:Int->Tm}{n:Nat}{T:List (Tm×Tm)}{B B':an}{cK:List (Int×Int)}{ok:Bool}(h:mY sw n T B cK B' ok):UG S N T B->oC σ B->(∀p∈T,cj σ p.1=cj σ p.2)->ok=true/\oC σ B':=by
 induction h with
 |done=>simp_all
 |skip _ _ ih=>exact λhU hs ht=>ih hU.tail hs λp hp=>ht p Bn
 |same _ _ _ ih=>exact λhU hs ht=>ih hU.tail hs λp hp=>ht p Bn
 |cF hsk hv hp hk hw=>
  intro hU hs ht;rename_i x y u w R B cK;have he:=ht (x,y) aD;simp only at he;rw[<-gD hs (B.length+1) x,<-gD hs (B.length+1) y]at he;obtain⟨hu,Rg,dR⟩:=hU.pick hv hp hk
  have Pa:cj σ u=cj σ w:=by
   rcases qo hp with ⟨rfl,rfl⟩|⟨rfl,rfl,_⟩
   exact he;exact he.symm
  rw[qn hk]at Pa
  rw[ZM hs Pa (λ⟨h1,h2⟩=>by
   rcases h2 with h2|h2
   exact dR h1 h2;exact h2 (Rg.nd h1))]at hw
  cases hw
 |bind hsk hv hp hk hw _ ih=>
  intro hU hs ht;rename_i n x y u w R B B' cK ok _;have he:=ht (x,y) aD;simp only at he;rw[<-gD hs (B.length+1) x,<-gD hs (B.length+1) y]at he
  have Pa:cj σ u=cj σ w:=by
   rcases qo hp with ⟨rfl,rfl⟩|⟨rfl,rfl,_⟩
   exact he;exact he.symm
  rw[qn hk]at Pa;refine ih (hU.bind hv hp hk hw) (λb hb=>?_) λp hp=>ht p Bn
  rcases cu.1 hb with hb|hb
  exact hs b hb;simp_all
 |kT hsk hx hy hc=>
  intro hU hs ht;rename_i n x y R B cK;have he:=ht (x,y) aD;simp only at he;rw[<-gD hs (B.length+1) x,<-gD hs (B.length+1) y]at he;change cj σ (aG B x)=cj σ (aG B y)at he;generalize aG B x=x' at *;generalize aG B y=y' at *;rw[jV hx,jV hy]at he;simp only[Tm.mk.injEq]at he;obtain⟨e1,e2,e3,e4⟩:=he;have a8:x'.l.length=y'.l.length:=by rw[<-p7 σ,e4,p7]
  unfold kF at hc;simp[e1,e2,e3,a8,aX]at hc
 |args hsk hx hy hc _ ih=>
  intro hU hs ht;rename_i n x y R B B' cK ok _;have he:=ht (x,y) aD;simp only at he;rw[<-gD hs (B.length+1) x,<-gD hs (B.length+1) y]at he;refine ih (hU.args hx hy) hs λp hp=>?_
  rcases cu.1 hp with hp|hp
  change cj σ (aG B x)=cj σ (aG B y)at he;rw[jV hx,jV hy]at he;simp only[Tm.mk.injEq]at he;exact Sr _ _ he.2.2.2 p (sS.1 hp);grind
end Tm
end ax

namespace ax
open Go
variable{cK:List (Int×Int)}{B:an}{V:Tm×Tm->Prop}{S:List Int}{N:Nat}{v:Int}{w:Tm}
namespace Tm
theorem U6{sw:Bool}{n:Nat}{T:List (Tm×Tm)}{B B':an}{ok:Bool}(h:mY sw n T B cK B' ok):UG S N T B->UG S N [] B'/\∃X,B'=B++X:=by
 induction h with
 |done=>simp_all
 |skip _ _ ih=>exact λhU=>ih hU.tail
 |same _ _ _ ih=>exact λhU=>ih hU.tail
 |cF hsk hv hp hk hw=>intro hU;exact alX
 |bind hsk hv hp hk hw _ ih=>intro hU;obtain⟨h1,X,h2⟩:=ih (hU.bind hv hp hk hw);simp_all
 |kT hsk hx hy hc=>intro hU;exact alX
 |args hsk hx hy hc _ ih=>exact λhU=>ih (hU.args hx hy)
theorem U7(hw:w.k=1->ba B w.n=none/\w.n≠v):∀(f:Nat) (t:Tm),((eh B f t).k=1->ba B (eh B f t).n=none)->eh (B++[(v,w)]) (f+1) t=if(eh B f t).k=1/\(eh B f t).n=v then w else eh B f t:=by
 have yE:∀f,eh (B++[(v,w)]) f w=w:=λf=>by
  cases f with
  |zero=>rfl
  |succ f=>simp only[eh];split;rename_i hk;obtain⟨h1,h2⟩:=hw hk;rw[n9,h1];grind;rfl
 have stop:∀(f:Nat) (t:Tm),(t.k=1->ba B t.n=none)->eh (B++[(v,w)]) (f+1) t=if t.k=1/\t.n=v then w else t:=λf t ht=>by simp only[eh];by_cases hk:t.k=1;rw [if_pos hk,n9,ht hk];simp only;by_cases hn:v=t.n;rw[if_pos hn,if_pos ⟨hk,hn.symm⟩];exact yE f;rw[if_neg hn,if_neg (λe=>hn e.2.symm)];simp_all
 intro f;induction f with
 |zero=>exact λt ht=>stop 0 t ht
 |succ f ih=>
  intro t ht;by_cases hk:t.k=1;cases hf:ba B t.n with
  |none=>
   have e:eh B (f+1) t=t:=by simp only[eh];rw[if_pos hk,hf]
   simp_all
  |some x=>
   have e:eh B (f+1) t=eh B f x:=by simp only[eh];simp_all
   rw[e]at ht ⊢;rw[<-ih x ht]
   have e2:∀f',eh (B++[(v,w)]) (f'+1) t=eh (B++[(v,w)]) f' x:=λf'=>by
    conv=>lhs;unfold eh
    rw[if_pos hk,n9,hf]
   exact e2 _
  have e:eh B (f+1) t=t:=by simp only [eh]; rw [if_neg hk]
  simp_all
theorem lF(hc:j9 B)(hw:w.k=1->ba B w.n=none/\w.n≠v)(t:Tm):aG (B++[(v,w)]) t=if(aG B t).k=1/\(aG B t).n=v then w else aG B t:=by
 have e:aG (B++[(v,w)]) t=eh (B++[(v,w)]) (B.length+1+1) t:=by unfold aG;simp
 rw[e];exact U7 hw (B.length+1) t (yT hc)
def xD (B:an)(V:Tm×Tm->Prop)(p:Tm×Tm):Prop:=aG B p.1=aG B p.2\/((aG B p.1).k≠1/\(aG B p.2).k≠1/\(aG B p.1).k=(aG B p.2).k/\(aG B p.1).s=(aG B p.2).s/\(aG B p.1).n=(aG B p.2).n/\(aG B p.1).l.length=(aG B p.2).l.length/\∀q∈(aG B p.1).l.zip (aG B p.2).l,V q)
theorem xD.mono{V V':Tm×Tm->Prop}{p:Tm×Tm}(h:xD B V p)(hV:∀q,V q->V' q):xD B V' p:=by
 rcases h with h|⟨h1,h2,h3,h4,h5,h6,h7⟩
 exact .inl h;exact .inr ⟨h1,h2,h3,h4,h5,h6,λq hq=>hV q (h7 q hq)⟩
theorem xD.more{p:Tm×Tm}(h:xD B V p)(hc:j9 B)(hw:w.k=1->ba B w.n=none/\w.n≠v):xD (B++[(v,w)]) V p:=by
 rcases h with h|⟨h1,h2,h3⟩
 exact .inl (by rw[lF hc hw,lF hc hw,h]);refine .inr ?_;rw[lF hc hw,lF hc hw,if_neg (λe=>h1 e.1),if_neg (λe=>h2 e.1)];simp_all
theorem jW{t:Tm}(hf:t.bA=true)(hk:t.k=1):t=vT t.n:=by obtain⟨k,s,n,l⟩:=t;simp only[Tm.k]at hk;subst hk;obtain⟨_,h⟩:=p6 hf;obtain⟨rfl,rfl⟩:=h rfl;rfl
theorem U8{x y:Tm}(h:kS x y cK=true):x.k=1/\y.k=1/\(x.n,y.n)∈cK:=by simp only[kS,aV,decide_eq_true_eq]at h;simp_all
theorem Dh{x y:Tm}{m:Int×Int}(h:m∈lX x y cK):m∈cK\/(x.k=1/\y.k=1/\m=(x.n,y.n)):=by unfold lX at h;grind
theorem Po{sw:Bool}{n:Nat}{T:List (Tm×Tm)}{B B':an}{ok:Bool}(h:mY sw n T B cK B' ok):UG S N T B->ok=true->∀V:Tm×Tm->Prop,(∀p,V p->xD B (λq=>V q\/q∈T) p)->(∀m∈cK,V (vT m.1,vT m.2))->∃V':Tm×Tm->Prop,(∀p,V p->V' p)/\(∀p∈T,V' p)/\∀p,V' p->xD B' V' p:=by
 induction h with
 |done=>exact λ_ _ V hV _=>⟨V,λ_ h=>h,by simp,λp hp=>(hV p hp).mono λq hq=>by simp_all⟩
 |skip hs h ih=>
  intro hU dA V hV hm;rename_i n x y R B B' cK ok;obtain⟨h1,h2,h3⟩:=U8 hs;have hxy:V (x,y):=by have:=hm _ h3;rw[<-jW (hU.oT (x,y) aD).1 h1,<-jW (hU.oT (x,y) aD).2 h2]at this;exact this
  obtain⟨V',g1,g2,g3⟩:=ih hU.tail dA V (λp hp=>(hV p hp).mono λq hq=>by grind) hm;exact⟨V',g1,λp hp=>by grind,g3⟩
 |same hs hv h ih=>
  intro hU dA V hV hm;rename_i n x y R B B' cK ok
  obtain⟨V',g1,g2,g3⟩:=ih hU.tail dA (λq=>V q\/q=(x,y)) (λp hp=>by
   rcases hp with hp|rfl
   exact(hV p hp).mono λq hq=>by grind
   refine .inl ?_;simp only;rw[jW hU.Mf.fair hv.1,jW hU.Mg.fair hv.2.1,hv.2.2]) (λm L5=>by
   rcases Dh L5 with h|⟨k1,k2,rfl⟩
   simp_all;refine .inr ?_;simp only;rw[<-jW (hU.oT (x,y) aD).1 k1,<-jW (hU.oT (x,y) aD).2 k2])
  exact ahH
 |cF=>simp_all
 |kT=>simp_all
 |bind hs hv hp hk hw h ih=>
  intro hU dA V hV hm;rename_i n x y u w R B B' cK ok;obtain⟨hu,Rg,dR⟩:=hU.pick hv hp hk;have yE:w.k=1->ba B w.n=none/\w.n≠u.n:=λh=>⟨Rg.nd h,dR h⟩
  obtain⟨V',g1,g2,g3⟩:=ih (hU.bind hv hp hk hw) dA (λq=>V q\/q=(x,y)) (λp yF=>by
   rcases yF with yF|rfl
   refine ((hV p yF).more hU.chain yE).mono λq hq=>?_
   grind;refine .inl ?_;simp only;rw[lF hU.chain yE,lF hU.chain yE];rcases qo hp with ⟨rfl,rfl⟩|⟨rfl,rfl,_⟩
   rw[if_pos ⟨hk,rfl⟩,if_neg (λe=>dR e.1 e.2)];simp_all) (λm L5=>by
   rcases Dh L5 with h|⟨k1,k2,rfl⟩
   simp_all;refine .inr ?_;simp only;rw[<-jW (hU.oT (x,y) aD).1 k1,<-jW (hU.oT (x,y) aD).2 k2])
  exact ahH
 |args hs hx hy hc h ih=>
  intro hU dA V hV hm;rename_i n x y R B B' cK ok;obtain⟨e1,e2,e3,e4⟩:=Mh hc
  obtain⟨V',g1,g2,g3⟩:=ih (hU.args hx hy) dA (λq=>V q\/q=(x,y)) (λp yF=>by
   rcases yF with yF|rfl
   refine (hV p yF).mono λq hq=>?_
   grind;exact .inr ⟨hx,hy,e1,e2,e3,e4,λq hq=>.inr (cu.2 (.inl (sS.2 hq)))⟩) (λm L5=>by
   rcases Dh L5 with h|⟨k1,k2,rfl⟩
   simp_all;refine .inr ?_;simp only;rw[<-jW (hU.oT (x,y) aD).1 k1,<-jW (hU.oT (x,y) aD).2 k2])
  exact ahH
theorem Su{σ:Int->Tm}:∀(l m:List Tm),l.length=m.length->(∀q∈l.zip m,cj σ q.1=cj σ q.2)->dv σ l=dv σ m|[],[],_,_=>rfl|[],_::_,h,_=>by simp at h|_::_,[],h,_=>by simp at h|a::l,b::m,h,hq=>by simp only[dv,List.cons.injEq];exact⟨hq (a,b) aD,Su l m ln λq h=>hq q (by simp[h])⟩
theorem Mi{σ:Int->Tm}{x z:Tm}(hx:x.k≠1)(hz:z∈x.l):size (cj σ z)<size (cj σ x):=by
 rw[jV hx];simp only[size]
 have:∀l:List Tm,z∈l->size (cj σ z)<=aw (dv σ l):=λl=>by
  induction l with
  |nil=>intro h;cases h
  |cons a l ih=>
   intro h;simp only[dv,aw];rcases cE.1 h with rfl|h
   omega;have:=ih h;omega
 grind
theorem ZU{σ:Int->Tm}(hs:oC σ B)(hV:∀p,V p->xD B V p):∀(c:Nat) (p:Tm×Tm),V p->size (cj σ p.1)<=c->cj σ p.1=cj σ p.2:=by
 intro c;induction c with
 |zero=>intro p _ h;have:=size_pos (cj σ p.1);omega
 |succ c ih=>
  intro p hp h;rw[<-gD hs (B.length+1) p.1,<-gD hs (B.length+1) p.2];rw[<-gD hs (B.length+1) p.1]at h;change size (cj σ (aG B p.1))<=_ at h;show cj σ (aG B p.1)=cj σ (aG B p.2)
  rcases hV p hp with e|⟨h1,h2,h3,h4,h5,h6,h7⟩
  rw[e];rw[jV h1,jV h2,h3,h4,h5,Su _ _ h6 λq hq=>ih q (h7 q hq) (by have:=Mi (σ:=σ) h1 (Kj hq).1;omega)]
theorem Pp(sw:Bool){a b:Tm}(hU:UG S N [(a,b)] B):∃n B' ok,mY sw n [(a,b)] B [] B' ok/\UG S N [] B'/\(∃X,B'=B++X)/\(ok=true->∀σ,oC σ B'↔oC σ B/\cj σ a=cj σ b)/\(ok=false->∀σ,oC σ B->cj σ a≠cj σ b):=by obtain⟨σ0,h0⟩:=hU.V1;obtain⟨n,B',ok,h⟩:=U5 sw (ZR S B) (uB σ0 [(a,b)]) σ0 [(a,b)] B [] hU cZ h0 cZ;obtain⟨g1,X,g2⟩:=U6 h hU;refine⟨n,B',ok,h,g1,⟨X,g2⟩,λdA σ=>⟨λhs=>?_,λ⟨hs,he⟩=>?_⟩,λdA σ hs he=>?_⟩;obtain ⟨V',_,v2,v3⟩:=Po h hU dA (λ_=>False) (λp hp=>hp.elim) (λm hm=>by cases hm);refine⟨λb hb=>hs b ir,ZU hs v3 _ (a,b) (v2 _ aD) cZ⟩;exact(Dg h hU hs (λp hp=>by simp_all)).2;have:=(Dg h hU hs (λp hp=>by simp at hp; subst hp; exact he)).1;simp_all
end Tm
end ax

namespace ax
open Go
theorem U9 {B:an}{M:Nat}(hS:Sub B M)(hn:(B.map (·.1)).Nodup)(hb:∀b∈B,0<=b.1/\b.1<1000000/\b.2.bB=true):jI B=true:=by
 rw[<-Uq];unfold OB;rw[aV,fB,fB];constructor;intro i hi;have mG:i<B.length:=by simpa using hi
 have e1:B[i]? = some (B[i]'mG):=dG _;have h1:=hb _ (sq e1);have h3:=zE.1 hn i _ e1;rw[YS,e1];simp[h1.1,h1.2.1,h1.2.2,h3];intro i hi;cases hw:jd (qZ (gq B)) B.length i i with
 |false=>rfl
 |true=>exact absurd (hS.okn i (by simpa using hi)) (Gm (qf _ _ _ _ hw))
namespace Tm
end Tm
theorem Di {α:Type}[DecidableEq α]:∀(l L:List α),l.Nodup->(∀x∈l,x∈L)->l.length<=L.length
 |[],L,_,_=>bU _
 |x::l,L,hn,hs=>by
  obtain⟨a,b,rfl⟩:=Ra.1 (hs x aD);simp only[Bo]at hn
  have:=Di l (a++b) hn.2 λy hy=>by
   have:=hs y iS;simp only[cu,cE]at this ⊢;rcases this with h|h|h
   exact .inl h;subst h;exact absurd hy hn.1;exact .inr h
  simp only[List.length_append,dx]at this ⊢;omega
namespace Tm
theorem zN {B:an}{M:List Int}(hn:M.Nodup)(hb:∀m∈M,ba B m≠none):M.length<=B.length:=by
 have:=Di M (B.map (·.1)) hn λm hm=>by
  cases hf:ba B m with
  |none=>exact absurd hf (hb m hm)
  |some x=>exact gm.2 ⟨_,du hf,rfl⟩
 simpa using this
end Tm
namespace Tm
abbrev Met:=List (Int×Int)
end Tm
namespace Tm
theorem UG.sub {S:List Int}{N:Nat}{T T':List (Tm×Tm)}{B:an}(h:UG S N T B)(hs:∀p∈T',p∈T):UG S N T' B :=⟨h.chain,h.mI,λp hp=>h.oT p (hs p hp),λp hp=>h.st p (hs p hp),h.sb,h.V1,h.vb,λp hp=>h.vt p (hs p hp)⟩
end Tm
end ax

namespace ax
open Go
namespace Tm
mutual
theorem GL {σ:Int->Tm}{D:Nat}:∀(t:Tm),(∀v∈cF t,depth (σ v)<=D)->depth (cj σ t)<=depth t+D
 |mk k s n l,h=>by
  simp only[cj];by_cases hk:k=1;rw [if_pos hk];have:=h n (by simp[cF,hk]);omega;rw [if_neg hk];have:=Dj l λv hv=>h v (by simp[cF,hk,hv])
  simp only[depth];omega
theorem Dj {σ:Int->Tm}{D:Nat}:∀(l:List Tm),(∀v∈ep l,depth (σ v)<=D)->dV (dv σ l)<=dV l+D
 |[],_=>by simp[dv,dV]
 |t::r,h=>by
  have h1:=GL t λv hv=>h v (by simp[ep,hv])
  have h2:=Dj r λv hv=>h v (by simp[ep,hv])
  simp only[dv,dV];omega
end
theorem Dk {B:an}{N:Nat}(h1:1<=N)(h:∀b∈B,depth b.2<=N):∀(M:Nat) (t:Tm),depth (bu B M t)<=depth t+M*N
 |0,t=>by simp[bu]
 |M+1,t=>by
  simp only[bu];refine GL t λv _=>?_
  rw[vf];split;rename_i x hx;have h2:=Dk h1 h M x;have h3:=h _ (du hx);grind;simp only[vT,depth,dV];omega
theorem Va {σ:Int->Tm}{t x:Tm}(hk:t.k≠1)(hx:x∈t.l):depth (cj σ x)+1<=depth (cj σ t):=by
 rw[jV hk,depth]
 have:∀l:List Tm,x∈l->depth (cj σ x)<=dV (dv σ l):=λl=>by
  induction l with
  |nil=>intro h;cases h
  |cons a l ih=>
   intro h;simp only[dv,dV];rcases cE.1 h with rfl|h
   omega;have:=ih h;omega
 simp_all
structure eP (S:List Int) (N:Nat) (a0:Tm) (n:Nat) (T:List (Tm×Tm)) (B:an) (cK:Met) (B':an) (ok:Bool):Prop where
 run:mY false n T.reverse B cK B' ok
 ug:UG S N T B
 lev:∀(i:Nat) (p:Tm×Tm),T[i]? = some p->∃l,i<=N*l/\∀σ,oC σ B->depth (cj σ p.1)+l<=depth (cj σ a0)
 fa:a0.bA=true
 sa:a0.size<=N
section
variable {S:List Int} {N:Nat} {a0:Tm} {n:Nat} {R T:List (Tm×Tm)} {x y:Tm} {B B':an} {cK:Met} {ok:Bool}
theorem UG.Pq (h:UG S N T B):B.length<=S.length:=by
 have:=Di (B.map (·.1)) S h.chain.nodup (λv hv=>by obtain⟨c,hc,rfl⟩:=gm.1 hv;exact(h.vb c hc).1);simp_all
theorem UG.perm (h:UG S N T B){T':List (Tm×Tm)}(hs:∀p,p∈T'->p∈T):UG S N T' B:=h.sub hs
theorem eP.len (h:eP S N a0 n T B cK B' ok):T.length<=N*(N+S.length*N)+1:=by
 obtain⟨σ,hs⟩:=h.ug.V1;have hS:=IH hs h.ug.chain h.ug.mI;have hv:=Me hS h.ug.chain;have h1:1<=N:=by have:=size_pos a0;have:=h.sa;omega
 rcases List.eq_nil_or_concat T with rfl|⟨R,p,rfl⟩
 simp;obtain⟨l,g1,g2⟩:=h.lev R.length p aD;have g3:=g2 _ hv;rw[De hS h.fa]at g3;have g4:=Dk h1 (B:=B) (λb hb=>vd (lS _) (h.ug.sb b hb)) B.length a0;have g5:=lS a0;have g6:=h.sa;have g7:B.length*N<=S.length*N:=Fo _ h.ug.Pq;have g8:N*l<=N*(N+S.length*N):=Nat.mul_le_mul_left _ aq;grind
theorem eP.nil (h:eP S N a0 n [] B cK B' ok):B'=B/\ok=true:=by have:=h.run;simp only[List.reverse_nil]at this;cases this;simp_all
theorem eP.pos (h:eP S N a0 n (R++[(x,y)]) B cK B' ok):∃m,n=m+1:=by have:=h.run;rw[Rb]at this;cases this<;>simp_all
theorem eP.first (ha:a0.bA=true)(hs:a0.size<=N){b0:Tm}(h:mY false n [(a0,b0)] B [] B' ok)(hU:UG S N [(a0,b0)] B):eP S N a0 n [(a0,b0)] B [] B' ok :=
 ⟨h,hU,λi p hp=>by
  cases i with
  |zero=>simp at hp;subst hp;exact⟨0,bU _,λσ _=>eT _⟩
  |succ i=>simp at hp,ha,hs⟩
theorem Mj (h:eP S N a0 n (R++[(x,y)]) B cK B' ok):∀(i:Nat) (p:Tm×Tm),R[i]? = some p->∃l,i<=N*l/\∀σ,oC σ B->depth (cj σ p.1)+l<=depth (cj σ a0):=λi p hp=>h.lev i p jD
theorem eP.skip (h:eP S N a0 (n+1) (R++[(x,y)]) B cK B' ok)(hs:kS x y cK=true):eP S N a0 n R B cK B' ok:=by
 have hr:=h.run;rw[Rb]at hr;have ht:=Mj h;have hg:=h.ug.perm (T':=R) ir;cases hr with
 |skip _ h1=>exact⟨h1,hg,ht,h.fa,h.sa⟩
 |same h1=>simp_all
 |cF h1=>simp_all
 |bind h1=>simp_all
 |kT h1=>simp_all
 |args h1=>simp_all
theorem eP.step (h:eP S N a0 (n+1) (R++[(x,y)]) B cK B' ok)(hs:kS x y cK=false) :
  ((aG B x).k=1->ba B (aG B x).n=none)/\((aG B y).k=1->ba B (aG B y).n=none)/\(aG B x).size<=N/\(aG B y).size<=N /\
  ((aG B x).k=1/\(aG B y).k=1/\(aG B x).n=(aG B y).n->eP S N a0 n R B (lX x y cK) B' ok) /\
  (¬ ((aG B x).k=1/\(aG B y).k=1/\(aG B x).n=(aG B y).n) ->
   ((aG B x).k=1->(iv B (aG B x).n (aG B y)=true->B'=B/\ok=false)/\(iv B (aG B x).n (aG B y)=false->eP S N a0 n R (B++[((aG B x).n,aG B y)]) (lX x y cK) B' ok)) /\
   (¬ (aG B x).k=1->((aG B y).k=1->(iv B (aG B y).n (aG B x)=true->B'=B/\ok=false)/\(iv B (aG B y).n (aG B x)=false->eP S N a0 n R (B++[((aG B y).n,aG B x)]) (lX x y cK) B' ok)) /\
    (¬ (aG B y).k=1->(kF (aG B x) (aG B y)=true->B'=B/\ok=false)/\(kF (aG B x) (aG B y)=false->eP S N a0 n (R++(aG B x).l.zip (aG B y).l) B (lX x y cK) B' ok)))):=by
 have hr:=h.run;rw[Rb]at hr;have ht:=Mj h;have hU:UG S N ((x,y)::R) B:=h.ug.perm ir;have anU:=h.lev R.length (x,y) aD;have h1:=hU.Mf;have h2:=hU.Mg;have wx:∀σ,oC σ B->cj σ (aG B x)=cj σ x:=λσ hσ=>gD hσ _ x
 have mK:=λhx hy=>hU.args (sw:=true) hx hy
 have al0:=λ(u w:Tm) hv hp hk hw=>hU.bind (sw:=false) (u:=u) (w:=w) hv hp hk hw
 have al1:∀B1:an,(∃X,B1=B++X)->∀(i:Nat) (p:Tm×Tm),R[i]? = some p->∃l,i<=N*l/\∀σ,oC σ B1->depth (cj σ p.1)+l<=depth (cj σ a0):=λB1 ⟨X,hX⟩ i p hp=>by obtain⟨l,g1,g2⟩:=ht i p hp;exact⟨l,g1,λσ hσ=>g2 σ λb hb=>hσ b ir⟩
 have targs:(aG B x).k≠1->∀(i:Nat) (p:Tm×Tm),(R++(aG B x).l.zip (aG B y).l)[i]? = some p->∃l,i<=N*l/\∀σ,oC σ B->depth (cj σ p.1)+l<=depth (cj σ a0):=λhx i p hp=>by by_cases hi:i<R.length;rw[mv hi]at hp;exact ht i p hp;rw [nA aq]at hp;obtain⟨l,g1,g2⟩:=anU;have mG:=(fu.1 hp).1;rw[mA1]at mG;have V2:=mA (aG B x).l;have hsz:=size_eq (aG B x);have hz:=h1.size;refine⟨l+1,by grind,λσ hσ=>?_⟩;have g3:=g2 σ hσ;simp only at g3;rw[<-wx σ hσ]at g3;have g4:=Va (σ:=σ) hx (Kj (sq hp)).1;omega
 clear wx;generalize hwx:aG B x=x' at *;generalize hwy:aG B y=y' at *;have hR0:UG S N R B:=hU.tail;refine⟨h1.nd,h2.nd,h1.size,h2.size,λhv=>?_,λhv=>⟨λhk=>?_,λmE=>⟨λhk=>?_,λyf=>?_⟩⟩⟩;cases hr with
 |skip g=>simp_all
 |same _ _ g=>exact⟨g,hR0,ht,h.fa,h.sa⟩
 |cF _ g=>rw[hwx,hwy]at g;exact absurd hv g
 |bind _ g=>rw[hwx,hwy]at g;exact absurd hv g
 |kT _ g=>simp_all
 |args _ g=>simp_all
 have hp:iA false x' y'=(x',y'):=by unfold iA; simp_all
 cases hr with
 |skip g=>simp_all
 |same _ g=>rw[hwx,hwy]at g;exact absurd g hv
 |cF _ _ g _ gw=>simp_all
 |bind _ _ g _ gw gr=>rw[hwx,hwy,hp]at g;cases g;exact alZ
 |kT _ g=>simp_all
 |args _ g=>simp_all
 have hp:iA false x' y'=(y',x'):=by unfold iA; simp_all
 cases hr with
 |skip g=>simp_all
 |same _ g=>rw[hwx,hwy]at g;exact absurd g hv
 |cF _ _ g _ gw=>simp_all
 |bind _ _ g _ gw gr=>rw[hwx,hwy,hp]at g;cases g;exact alZ
 |kT _ _ g=>simp_all
 |args _ _ g=>simp_all
 have hp:iA false x' y'=(x',y'):=by unfold iA; simp_all
 cases hr with
 |skip g=>simp_all
 |same _ g=>rw[hwx,hwy]at g;exact absurd g hv
 |cF _ _ g gk=>simp_all
 |bind _ _ g gk=>simp_all
 |kT _ _ _ g=>simp_all
 |args _ _ _ g gr=>
  rw[hwx,hwy]at g gr;refine⟨λe=>ir,λ_=>⟨?_,(mK mE yf).perm λp hp=>?_,targs mE,h.fa,h.sa⟩⟩;rw[Rb];exact gr;rcases cu.1 hp with hp| hp
  simp_all;exact cu.2 (.inl (sS.2 hp))
end
def ugF:Nat->List (Tm×Tm)->an->Met->Option (an×Bool)
 |0,_,_,_=>none
 |_+1,[],B,_=>some (B,true)
 |f+1,(x,y)::R,B,cK=>
  if kS x y cK then ugF f R B cK
  else if(aG B x).k=1/\(aG B y).k=1/\(aG B x).n=(aG B y).n then ugF f R B (lX x y cK)
  else if(iA false (aG B x) (aG B y)).1.k=1 then(if iv B (iA false (aG B x) (aG B y)).1.n (iA false (aG B x) (aG B y)).2 then some (B,false)else ugF f R (B++[((iA false (aG B x) (aG B y)).1.n,(iA false (aG B x) (aG B y)).2)]) (lX x y cK))
  else if kF (aG B x) (aG B y)then some (B,false)
  else ugF f (EX false (aG B x).l (aG B y).l++R) B (lX x y cK)
theorem xE:∀(n:Nat) (T:List (Tm×Tm)) (B:an) (cK:Met) (B':an) (ok:Bool),ugF n T B cK=some (B',ok)->mY false n T B cK B' ok
 |0,_,_,_,_,_,h=>by cases h
 |f+1,[],B,cK,B',ok,h=>by simp only[ugF]at h;cases h;exact .done
 |f+1,(x,y)::R,B,cK,B',ok,h=>by
  simp only[ugF]at h;split at h;rename_i hs;exact .skip hs (xE f _ _ _ _ _ h);rename_i hs;have fk:kS x y cK=false:=by simpa using hs
  split at h;rename_i hv;exact .same fk hv (xE f _ _ _ _ _ h);rename_i hv;split at h;rename_i hk;split at h;rename_i hw;cases h;exact .cF fk hv rfl hk hw;rename_i hw;exact .bind fk hv (u:=(iA false (aG B x) (aG B y)).1) (w:=(iA false (aG B x) (aG B y)).2) rfl hk (by simpa using hw) (xE f _ _ _ _ _ h);rename_i hk;obtain⟨hx,hy⟩:=GJ (u:=(iA false (aG B x) (aG B y)).1) (w:=(iA false (aG B x) (aG B y)).2) rfl hk;split at h;rename_i hc;cases h;exact .kT fk hx hy hc;rename_i hc;exact .args fk hx hy Q4 (xE f _ _ _ _ _ h)
end Tm
end ax

namespace ax
open Go
structure Td where
 g:Gl
 sh:Nat
 to:Nat
def gE:List Td->D|[]=>.v (.pointer none)|x::r=>.bL (Gl.row x.g++[.v (.int .i64 x.sh),.v (.int .i64 x.to),gE r])
def bR (l:List Gl)(sh to:Nat)(r:List Td):List Td:=l.map (λg=>⟨g,sh,to⟩)++r
structure Tr where
 mark:Nat
 aB:Nat
 call:Tm
 pC:Nat
 uC:List Td
 other:Bool
def Tr.row (t:Tr):List D:=[.v (.int .i64 t.mark),.v (.int .i64 t.aB),.v (.int .i64 t.call.k),.v (.string t.call.s),.v (.int .i64 t.call.n),.sl (Tm.aa t.call.l),.v (.int .i64 t.pC),gE t.uC,.v (.bool t.other)]
structure Ev where
 k:Int
 tx:ByteArray
 ts:List Tm
 c:Int
def Ev.row (e:Ev):List D:=[.v (.int .i64 e.k),.v (.string e.tx),.sl (Tm.aa e.ts),.v (.int .i64 e.c)]
def sT:Ev:=⟨4,ByteArray.empty,[],0⟩
def oY:Ev:=⟨5,ByteArray.empty,[],0⟩
def kU (c:Int):Ev:=⟨3,ByteArray.empty,[],c⟩
def oc (l:List Tm):Ev:=⟨1,ByteArray.empty,l,0⟩
def sU (t:Bs):Ev:=⟨2,Tx t,[],0⟩
structure Mo where
 B:an
 aB:Nat
 ai:List Tr
 now:List Td
 done:Nat
 aF:List Ev
def ZV (B:an)(a b:Tm)(B':an):Prop:=∃n,Tm.mY false n [(a,b)] B [] B' true
open Classical in
noncomputable def sV (B:an) (a b:Tm):Option an:=if h:∃B',ZV B a b B' then some h.choose else none
noncomputable def fY (B:an):List Tm->Option an
 |a::b::r=>match sV B a b with
  |some B'=>fY B' r
  |none=>none
 |_=>some B
def dw (d:Nat)(t:Tm):Tm:=Tm.gi (λn=>n+d) t
def eL (B:an)(t:Tm):Tm×Int:=EL (bu B B.length t)
def aN:Gl:=.mk 0 aJ [] [] []
def dE:Gl:=.mk 2 (gT (Tx [102,97,105,108])) [] [] []
noncomputable def jw (m:Mo) (t:Tr):Nat->List Cs->Option Mo
 |_,[]=>none
 |i,c::r=>
  if c.head.s=t.call.s/\c.head.l.length=t.call.l.length then
   match sV m.B t.call (dw m.aB c.head)with
   |some B'=>some {m with B:=B',ai:=m.ai++[{t with pC:=i+1}],now:=bR c.body m.aB m.ai.length t.uC,aB:=m.aB+c.vars.toNat}
   |none=>jw m t (i+1) r
  else jw m t (i+1) r
noncomputable def jA (P:List Cs):Nat->Mo->Mo×Bool
 |0,m=>({m with aF:=m.aF++[sT]},false)
 |n+1,m=>match m.ai.getLast? with
  |none=>({m with aF:=m.aF++[sT]},false)
  |some t=>
   if t.other then({m with ai:=m.ai.dropLast,B:=m.B.take t.mark,aB:=t.aB,now:=t.uC},true)
   else match jw {m with ai:=m.ai.dropLast,B:=m.B.take t.mark,aB:=t.aB} t t.pC (P.drop t.pC)with|some m'=>(m',true)|none=>jA P n {m with ai:=m.ai.dropLast,B:=m.B.take t.mark,aB:=t.aB}
noncomputable def ew (P:List Cs) (m:Mo):Mo×Bool:=jA P m.ai.length m
noncomputable def jx (P:List Cs) (head:Tm) (m:Mo):Mo×Bool :=
 if head.l.any (λx=>(eL m.B x).2≠0)then({m with aF:=m.aF++[kU 3]},false)
 else ew P {m with aF:=m.aF++[oc (dP (head.l.map λx=>(eL m.B x).1)).1]}
noncomputable def oU (P:List Cs) (m:Mo) (t:Tm):Mo×Bool :=
 if t.l.any (λx=>(eL m.B x).2≠0)then({m with aF:=m.aF++[kU 3]},false)
 else
  let a:=eg t.s (t.l.map λx=>(eL m.B x).1) m.aB
  if a.e≠0 then({m with aF:=m.aF++[kU a.e]},false)
  else if a.h=false then ew P m
  else if a.ap then(match fY m.B a.al with|some _=>ew P m|none=>(m,true))
  else match fY m.B a.al with|none=>ew P m|some B'=>({m with B:=B',aB:=a.nx.toNat,aF:=if a.tx=[]then m.aF else m.aF++[sU a.tx]},true)
def II (m:Mo)(x:Td)(other cM:List Td):Mo :={m with ai:=m.ai++[⟨m.B.length,m.aB,aJ,0,other,true⟩],now:=bR x.g.a x.sh m.ai.length (⟨aN,0,m.ai.length⟩::cM)}
noncomputable def fq (P:List Cs) (head:Tm) (ab:Nat) (m:Mo):Mo×Bool :=
 match m.now with
 |[]=>jx P head m
 |x::r=>
  let m:={m with now:=r}
  if x.g.k=0\/x.g.k=3 then({m with ai:=m.ai.take x.to},true)
  else if x.g.k=2 then oU P m (dw x.sh x.g.t)
  else if x.g.k=4 then(II m x (bR x.g.c x.sh x.to r) (bR x.g.b x.sh x.to r),true)
  else if x.g.k=5 then(II m x r (bR [dE] 0 0 []),true)
  else if x.g.k=1 then
   if ab<=m.done then({m with aF:=m.aF++[oY]},false)
   else match jw {m with done:=m.done+1} ⟨m.B.length,m.aB,dw x.sh x.g.t,0,r,false⟩ 0 P with|some m'=>(m',true)|none=>ew P {m with done:=m.done+1}
  else(m,true)
noncomputable def x9 (P:List Cs) (head:Tm) (ab:Nat):Nat->Mo->Mo×Bool|0,m=>(m,true)|n+1,m=>if(fq P head ab m).2 then x9 P head ab n (fq P head ab m).1 else((fq P head ab m).1,false)
end ax

namespace ax
open Go
variable{l:List Tm}{g:Int->Int}{t:Tm}
theorem xF(t:Tm):t.Fit↔(ji t.k/\ji t.n)/\∀x∈t.l,x.Fit:=by
 constructor;intro h;refine⟨h 0 (0,t) WX,λx hx d e he=>h (d-1) e ?_⟩;rw[Tm.kE];exact Xi _ (Tm.wy hx alk);rintro ⟨h1,h2⟩ d e he;rw[Tm.kE]at he;rcases cE.1 he with rfl|he
 exact h1;obtain ⟨x,hx,he⟩:=Tm.w7 he;exact h2 x hx _ e he
theorem pq{k n:Int}{s:ByteArray}:(Tm.mk k s n l).Fit↔(ji k/\ji n)/\∀x∈l,x.Fit:=xF _
theorem Vb(h:t.bA=true)(hk:t.k=1):t.l=[]/\t.s=ByteArray.empty/\0<=t.n/\t.n<1000000:=by rw[Tm.kO]at h;simp only[aV,Tm.l8,if_pos hk,decide_eq_true_eq,Tm.bn,beq_iff_eq]at h;refine⟨kG.1 aq,h.2.1.2,h.2.1.1.1,h.2.1.1.2⟩
theorem GM{t x:Tm}(h:t.bA=true)(hx:x∈t.l):x.bA=true:=by rw[Tm.kO]at h;simp only[aV]at h;exact Tm.fz.1 h.1.2 x hx
theorem q9(t:Tm):Tm.cF t=if t.k=1 then [t.n]else Tm.ep t.l:=by cases t;rw[Tm.cF];rfl
theorem qp(g:Int->Int)(t:Tm):Tm.gi g t=.mk t.k t.s (if t.k=1 then g t.n else t.n) (Tm.dp g t.l):=by cases t;rw[Tm.gi];rfl
theorem Dl{y:Tm}:y∈Tm.dp g l↔∃x∈l,Tm.gi g x=y:=by rw[Tm.j5,gm]
theorem xG{x:Tm}(hx:x∈l){v:Int}(hv:v∈Tm.cF x):v∈Tm.ep l:=by
 induction l with
 |nil=>cases hx
 |cons y l ih=>
  simp only[Tm.ep,cu];rcases cE.1 hx with rfl|hx
  exact .inl hv;exact .inr (ih hx)
theorem ZW(t:Tm)(hr:t.bA=true)(h:t.Fit)(hg:∀v∈Tm.cF t,ji (g v)):(Tm.gi g t).Fit:=by
 induction t using Tm.ind with
 |_ t ih=>
 rw[qp,pq];rw[xF]at h;by_cases hk:t.k=1;obtain ⟨hl,_⟩:=Vb hr hk;rw[if_pos hk,hl];exact⟨⟨h.1.1,hg _ (by rw[q9,if_pos hk];simp)⟩,by simp[Tm.dp]⟩;rw [if_neg hk];refine⟨h.1,λy hy=>?_⟩;obtain⟨x,hx,rfl⟩:=Dl.1 hy;exact ih x hx (GM hr hx) (h.2 x hx) λv hv=>hg v (by rw[q9,if_neg hk];exact xG hx hv)
theorem Vc{σ:Int->Tm}{y:Tm}:y∈Tm.dv σ l↔∃x∈l,Tm.cj σ x=y:=by
 induction l with
 |nil=>simp[Tm.dv]
 |cons a l ih=>simp only[Tm.dv,cE,ih];constructor;rintro (rfl| ⟨x,hx,rfl⟩);exact⟨a,.inl rfl,rfl⟩;exact⟨x,.inr hx,rfl⟩;rintro ⟨x,rfl| hx,rfl⟩;exact .inl rfl;exact .inr ⟨x,hx,rfl⟩
theorem adN{σ:Int->Tm}(t:Tm)(h:t.Fit)(hg:∀v∈Tm.cF t,(σ v).Fit):(Tm.cj σ t).Fit:=by
 induction t using Tm.ind with
 |_ t ih=>
 by_cases hk:t.k=1;rw[Tm.qn hk];exact hg _ (by rw[q9,if_pos hk];simp);rw [Tm.jV hk,pq];rw[xF]at h;refine⟨h.1,λy hy=>?_⟩;obtain⟨x,hx,rfl⟩:=Vc.1 hy;exact ih x hx (h.2 x hx) λv hv=>hg v (by rw[q9,if_neg hk];exact xG hx hv)
theorem IJ(h:t.bA=true):FwT t:=λd e he=>by have h1:=(Tm.w8 t d).2 h e he;rw[Tm.HP]at h1;simp only[aV,Tm.l8]at h1;have h2:=h1.2;split at h2;simp only [aV,Tm.bn]at h2;rw[h2.1.2];decide;split at h2;simp only [aV,Tm.bn]at h2;rw[h2.1];decide;simp only [aV,decide_eq_true_eq]at h2;have:=h2.1.2;omega
structure GT (t:Tm):Prop where
 r:t.bB=true
 f:t.Fit
theorem GT.fair(h:GT t):t.bA=true:=(Tm.dM.1 h.r).1
theorem GT.size{t:Tm}(h:GT t):t.size<=3000:=(Tm.dM.1 h.r).2.1
theorem GT.bT(h:GT t)(hg:∀v∈Tm.cF t,0<=g v/\g v<1000000):GT (Tm.gi g t) :=⟨Tm.Oo h.r hg,ZW t h.fair h.f λv hv=>by have:=hg v hv;unfold ji;omega⟩
theorem GT.kid{t x:Tm}(h:GT t)(hx:x∈t.l):GT x:=by
 have h1:=Tm.dM.1 h.r;have h2:=Tm.b8 hx;have h3:=Tm.size_eq t;have h4:=Tm.B5 t
 have h5:∀l:List Tm,x∈l->x.depth<=Tm.dV l:=λl=>by
  induction l with
  |nil=>intro h;cases h
  |cons a l ih=>
   intro h;simp only[Tm.dV];rcases cE.1 h with rfl|h
   omega;have:=ih h;omega
 have:=h5 _ hx;exact⟨Tm.dM.2 ⟨GM h.fair hx,by omega,by omega⟩,((xF t).1 h.f).2 x hx⟩
theorem Pr(l:List Tm):(bP l).length<=Tm.aw l:=by
 unfold bP
 have key:∀(l:List Tm) (a:List Int),(l.foldl (λa t=>(t.gX 1).foldl fT a) a).length<=a.length+Tm.aw l:=λl=>by
  induction l with
  |nil=>intro a;simp[Tm.aw]
  |cons t l ih=>intro a;rw[wC];have h1:=ih ((t.gX 1).foldl fT a);have h2:=Gx (t.gX 1) a;have h3:=Tm.lR t 1;simp only[Tm.aw];omega
 have:=key l [];simpa using this
theorem Ps(h:∀t∈l,GT t)(hs:Tm.aw l<1000000):∀x∈(dP l).1,GT x:=by
 have hr:∀t∈l,t.bB=true:=λt ht=>(h t ht).r
 have Ek:Tm.cv l=true:=Tm.fz.2 λt ht=>(h t ht).fair
 unfold dP;rw[if_pos (Ox.2 hr)];intro x hx;obtain⟨t,ht,rfl⟩:=Dl.1 hx;refine(h t ht).bT λv hv=>?_
 obtain⟨_,h1,h2⟩:=Ow Ek (xG ht hv);have h3:=Pr l;omega
end ax

namespace Go.Proofs.YtmjmngigbachdaaGreatDoor
open Go ax Go.Proofs
theorem od {t:Tm}(h:t.bB=true):eB t:=UU (Tm.dM.1 h).1 (by have:=(Tm.dM.1 h).2.1;omega)
def akL:Nat->cI:=λf=>bif Nat.beq f 164 then .still else bif Nat.beq f 160 then .still else bif Nat.beq f 162 then .still else bif Nat.beq f 165 then .still else bif Nat.beq f 169 then .still else bif Nat.beq f 156 then .still else .jz
theorem vS (Y:YP)(l:List Tm)(nx e:Int)(t:Tm)(ht:eB t)(hf:t.Fit):aU Tryz.prog Y 155 [.lo 0 0,t.av] (j6 l [] false ByteArray.empty nx e) (iV (bD t).1) (j6 l [] false ByteArray.empty nx (n6 e (bD t).2)):=by
 refine mH8 Tryz.func155 λw S φ hg=>?_
 refine aA (Zh t hf ht.1 (ht.2 1)) ?_;refine af (λh=>?_) λh=>?_
 refine aj hg.ok hg.cm hg.wide hg.Y [0] (j6 l [] false ByteArray.empty nx (n6 e (bD t).2)++[aO t]) (tT Y l [] false ByteArray.empty nx e (bD t).2) cN rfl rfl rfl rfl rfl rfl rfl rfl (ag ?_);exact aL hg 1 5 cZ rfl rfl (dU _ l [] false ByteArray.empty nx (n6 e (bD t).2));have h:(bD t).2=0:=by simpa using h
 have hb:n6 e (bD t).2=e:=by unfold n6;split<;>omega
 rw[hb];exact aL hg 1 5 cZ rfl rfl (dU _ l [] false ByteArray.empty nx e)
theorem GN (Y:YP)(a b:Tm)(nx:Int)(ha:eB a):aU Tryz.prog Y 144 [.lo 0 0] (j6 [a,b] [] false ByteArray.empty nx 0) (bV (a.same b)) (j6 [a,b] [] false ByteArray.empty nx 0):=by
 refine mH8 Tryz.func144 λw S φ hg=>?_
 refine Th ?_;refine Ti ?_;refine aA (H7 a b ha.1) ?_;exact afw
def odE (e:Int)(a b:Tm):Int:=if Ao a b=2 then n6 e 4 else e
theorem Pt (Y:YP)(a b:Tm)(nx:Int)(ha:a.bB=true)(hb:b.bB=true):aU Tryz.prog Y 138 [.lo 0 0] (j6 [a,b] [] false ByteArray.empty nx 0) (iV (Tm.Cj a b)) (j6 [a,b] [] false ByteArray.empty nx (odE 0 a b)):=by
 have hba:=od ha;have hbb:=od hb;have hc:(nZ a b).1=Tm.Cj a b:=by unfold nZ;rw[cV,cV,ha,hb];rfl
 refine mH8 Tryz.func138 λw S φ hg=>?_
 refine Th ?_;refine Ti ?_;refine aA (O9 a b hba.1) ?_;refine iG (λh=>?_) λh=>?_
 have h:Ao a b=2:=by simpa using h
 rw[odE,if_pos h];refine ag ?_;refine aj hg.ok hg.cm hg.wide hg.Y [0] (j6 [a,b] [] false ByteArray.empty nx (n6 0 4)) (tT Y [a,b] [] false ByteArray.empty nx 0 4) cN rfl rfl rfl rfl rfl rfl rfl rfl (ag ?_);refine Th ?_;refine Ti ?_;refine aA (CW a b hba hbb) ?_;rw[hc];exact aL hg 1 5 cZ rfl rfl (dU _ [a,b] [] false ByteArray.empty nx (n6 0 4));have h:¬ Ao a b=2:=by simpa using h
 rw[odE,if_neg h];refine ag ?_;refine Th ?_;refine Ti ?_;refine aA (CW a b hba hbb) ?_;rw[hc];exact afw
theorem adO (Y:YP)(a b:Tm)(nx:Int)(ha:eB a)(hb:eB b)(hf:b.Fit):zL Y 150 [a,b] nx (CZ nx a b):=by
 refine mH8 Tryz.func150 λw S φ hg=>?_
 refine Ti ?_;refine aj hg.ok hg.cm hg.wide hg.Y [0] (j6 [a,b] [] false ByteArray.empty nx (n6 0 (bD b).2)) (vS Y [a,b] nx 0 b hb hf) cN rfl rfl rfl rfl rfl rfl rfl rfl (ag ?_);have hb0:n6 0 (bD b).2=(bD b).2:=by unfold n6;rw[if_pos rfl]
 rw[hb0];refine af (λh=>?_) λh=>?_
 have h:(bD b).2=0:=by simpa using h
 rw[show CZ nx a b=cf nx [a,gC (bD b).1] by unfold CZ;rw[if_neg (by simp[h])]];rw[h];refine Th ?_;refine aA (C0 (bD b).1) ?_
 have Iv:∀v∈[a,gC (bD b).1],eB v:=λv hv=>by
  simp only[cE,pL,or_false]at hv;rcases hv with rfl|rfl
  exact ha;exact C2 _
 refine aj hg.ok hg.cm hg.wide hg.Y [0] (j6 [a,b] (cf nx [a,gC (bD b).1]).al false ByteArray.empty (cf nx [a,gC (bD b).1]).nx (cf nx [a,gC (bD b).1]).e) (gV Y [a,b] [a,gC (bD b).1] false nx Iv aD aD) cN rfl rfl rfl rfl rfl rfl rfl rfl (ag ?_);exact aL hg 1 5 cZ rfl rfl (gU _ [a,b] (cf nx [a,gC (bD b).1]) (j1 _ _) (j3 _ _));have h:¬ (bD b).2=0:=by simpa using h
 rw[show CZ nx a b=eJ nx (bD b).2 by unfold CZ;rw[if_pos h]];exact aL hg 1 5 cZ rfl rfl (dU _ [a,b] [] false ByteArray.empty nx (bD b).2)
theorem Pu (Y:YP)(a b:Tm)(nx:Int)(ha:a.bB=true)(hb:b.bB=true):zL Y 143 [a,b] nx ⟨true,[a,b],true,[],nx,0⟩:=by
 have Iv:∀v∈[a,b],eB v:=λv hv=>by
  simp only[cE,pL,or_false]at hv;rcases hv with rfl|rfl
  exact od ha;exact od hb
 have hk:cf nx [a,b]=⟨true,[a,b],false,[],nx,0⟩:=by unfold cf;rw[if_pos (by simp[cV,ha,hb])]
 have vJ:=gV Y [a,b] [a,b] true nx Iv aD aD;rw[hk]at vJ;refine aU.ej (pf:=akL) gK mixed Tryz.func143 rfl da da (by simp[Tryz.ntmps143]) (by simp[j6]) λw S φ hg=>?_
 refine eW hg.ok 6 rfl rfl ?_;refine uI (j6 [a,b] [] true ByteArray.empty nx 0) ⟨⟨.refl _,.refl _,.refl _,bJ.tt,.refl _,.refl _,.refl _,trivial⟩,trivial⟩ rfl (ag ?_);refine Th ?_;refine Ti ?_;refine aj hg.ok hg.cm hg.wide hg.Y [0] (j6 [a,b] [a,b] true ByteArray.empty nx 0) (vJ) cN rfl rfl rfl rfl rfl rfl rfl rfl (ag ?_);exact aL hg 1 5 cZ rfl rfl (dU _ [a,b] [a,b] true ByteArray.empty nx 0)
theorem Pv (Y:YP)(a:Tm)(nx:Int)(ha:a.bB=true)(hf:a.Fit):zL Y 140 [a] nx (AW nx (((dP [a]).1[0]?).getD aJ)):=by
 have hba:=od ha;have dA:(dP [a]).2.2=0:=by unfold dP;rw[if_pos (by simp[cV,ha])]
 have ajn:=uR [a] (by simp only[Tm.aw];have:=hba.1;omega) (λt ht=>by rw[eu.1 ht];exact hba.2 1);obtain⟨x,hx⟩:∃x,(dP [a]).1[0]? = some x:=by unfold dP;rw[if_pos (by simp[cV,ha])];exact⟨_,rfl⟩
 have V9:GT x:=Ps (l:=[a]) (λt ht=>by rw[eu.1 ht];exact⟨ha,hf⟩) (by have:=(Tm.dM.1 ha).2.1;simp only[Tm.aw];omega) x (sq hx);rw[hx,Option.getD_some];generalize dP [a]=M at ajn dA hx;obtain⟨L,v,e⟩:=M;simp only at ajn dA hx;have Yy:=US x ⟨V9.f,IJ V9.fair,by have:=V9.size;omega⟩;have hrt:de x=true:=by rw[cV];exact V9.r
 refine mH8 Tryz.func140 λw S φ hg=>?_
 refine aA (ajn) ?_;refine dX hg.ok rfl rfl rfl rfl rfl rfl eA (Tm.ay hx) rfl (ag ?_);refine aA (Yy) ?_;unfold sM AW;rw[if_pos hrt];by_cases hl:(fJ [] (u3 x)).length<=8000;rw [if_pos hl,if_pos hl];refine gg ?_;exact lW;rw [if_neg hl,if_neg hl];refine mM ?_;refine aj hg.ok hg.cm hg.wide hg.Y [0] (j6 [a] [] false ByteArray.empty nx 3) (kB Y [a] nx 3) cN rfl rfl rfl rfl rfl rfl rfl rfl (ag ?_);exact aL hg 1 5 cZ rfl rfl (dU _ [a] [] false ByteArray.empty nx 3)
def oz (f:Nat):D:=.v (.func (.func f) #[] #[])
theorem bJ.oz (f:Nat):bJ (.b9 f [] []) (.d (Go.Proofs.YtmjmngigbachdaaGreatDoor.oz f)):=λS w φ v h=>by
 simp only[RV]at h ⊢;obtain⟨va,vc,rfl,h1,h2⟩:=h;cases va with
 |nil=>cases vc with
  |nil=>exact .v _
  |cons x l=>simp[aW]at h2
 |cons x l=>simp[aW]at h1
theorem bJ.aqL (f:Nat):bJ (.d (Go.Proofs.YtmjmngigbachdaaGreatDoor.oz f)) (.b9 f [] []):=λS w φ v h=>by simp only[RV]at h ⊢;cases h;exact⟨[],[],rfl,by simp[aW],by simp[aW]⟩
def IK (l al:List Tm)(ap:Bool)(tx:ByteArray)(nx e:Int):List Ob:=j6 l al ap tx nx e++[.box [.lo 0 0]]
theorem pH (o:List Ob)(l al:List Tm)(ap:Bool)(tx:ByteArray)(nx e:Int):(IK l al ap tx nx e).map (aR (bZ false 2 o 5))=IK l al ap tx nx e:=by cases al<;>rfl
theorem Vd (o:List Ob)(l:List Tm)(k:Ak)(h1:k.ap=false)(h2:k.tx=[]):(IK l k.al false ByteArray.empty k.nx k.e).map (aR (bZ false 2 o 5))=IK l k.al k.ap (Tx k.tx) k.nx k.e:=by rw[h1,h2];exact pH o _ _ _ _ _ _
theorem kb (b:Bool):br Tryz.prog 134 [bV b] (.b9 135 [] [.d (.bL [.v (.bool b)])]):=by
 refine ng Tryz.func134 λw S hg=>?_
 refine bz ?_;rfl
theorem xH (b:Bool):br Tryz.prog 135 [.d (.bL [.v (.bool b)])] (bV b):=by
 refine ng Tryz.func135 λw S hg=>?_
 refine bz ?_;rfl
theorem wG (Y:YP)(f:Nat)(l:List Tm)(nx:Int):aU Tryz.prog Y 136 [.d (oz f),.lo 1 0] (IK l [] false ByteArray.empty nx 0) (.b9 137 [] [.lo 1 0,.d (.bL [oz f])]) (IK l [] false ByteArray.empty nx 0):=by
 refine u0 Tryz.func136 λw S φ hg=>?_
 exact aL hg 2 5 cZ rfl rfl (pH _ l [] false ByteArray.empty nx 0)
def ZX (f:Nat)(is:Int->Bool):Prop:=∀n:Int,br Tryz.prog f [iV n] (bV (is n))
theorem IL (Y:YP)(f:Nat)(is:Int->Bool)(hf:ZX f is)(a b:Tm)(nx:Int)(ha:a.bB=true)(hb:b.bB=true):aU Tryz.prog Y 137 [.lo 1 0,.d (.bL [oz f])] (IK [a,b] [] false ByteArray.empty nx 0) (bV (jv nx a b is).h) (IK [a,b] (jv nx a b is).al (jv nx a b is).ap (Tx (jv nx a b is).tx) (jv nx a b is).nx (jv nx a b is).e):=by
 refine u0 Tryz.func137 λw S φ hg=>?_
 refine aj hg.ok hg.cm hg.wide hg.Y [0] (IK [a,b] [] false ByteArray.empty nx (odE 0 a b)) (Pt Y a b nx ha hb) cN rfl rfl rfl rfl rfl rfl rfl rfl (ag ?_);unfold jv odE;by_cases hd:Ao a b=2;rw [if_pos hd,if_pos hd];refine eG hg.ok rfl rfl (by simp[n6]) rfl rfl ?_;exact aL hg 2 5 cZ rfl rfl (pH _ [a,b] [] false ByteArray.empty nx 4);rw [if_neg hd,if_neg hd];refine iq rfl rfl (λ_=>?_) (λh=>absurd h aD);refine ag ?_;refine hH 12 rfl (bJ.aqL f) ?_;refine aA (hf (Tm.Cj a b)) ?_;exact WB
def lzA (l:List Tm):AV:=.d (.bL [.sl (Tm.aa (l++[aJ,aJ]))])
abbrev Mk (Y:YP) (f:Nat) (ack:List AV) (l:List Tm) (nx:Int) (k:Ak):Prop:=aU Tryz.prog Y f ack (IK l [] false ByteArray.empty nx 0) (bV k.h) (IK l k.al k.ap (Tx k.tx) k.nx k.e)
theorem anW (Y:YP)(l:List Tm)(nx:Int):Mk Y 139 [.lo 1 0] l nx ⟨true,[],false,[10],nx,0⟩:=by
 refine u0 Tryz.func139 λw S φ hg=>?_
 exact aL hg 2 5 cZ rfl rfl rfl
theorem anX (Y:YP)(a b:Tm)(nx:Int)(ha:eB a)(hb:eB b):Mk Y 141 [.lo 1 0,lzA [a,b]] [a,b] nx (cf nx [a,b]):=by
 have Iv:∀v∈[a,b],eB v:=λv hv=>by simp only[cE,pL,or_false]at hv;rcases hv with rfl|rfl<;>assumption
 refine u0 Tryz.func141 λw S φ hg=>?_
 refine ae3 ?_;refine ae4 ?_;refine aj hg.ok hg.cm hg.wide hg.Y [0] (IK [a,b] (cf nx [a,b]).al false ByteArray.empty (cf nx [a,b]).nx (cf nx [a,b]).e) (gV Y [a,b] [a,b] false nx Iv aD aD) cN rfl rfl rfl rfl rfl rfl rfl rfl (ag ?_);exact aL hg 2 5 cZ rfl rfl (Vd _ [a,b] (cf nx [a,b]) (j1 _ _) (j3 _ _))
theorem ZY (Y:YP)(a b:Tm)(nx:Int)(ha:eB a):Mk Y 145 [.lo 1 0] [a,b] nx (mz nx (!a.same b)):=by
 refine u0 Tryz.func145 λw S φ hg=>?_
 refine aj hg.ok hg.cm hg.wide hg.Y [0] (IK [a,b] [] false ByteArray.empty nx 0) (GN Y a b nx ha) cN rfl rfl rfl rfl rfl rfl rfl rfl (ag ?_);exact WB
theorem adP:ZX 146 λn=>decide (n<0):=λn=>by
 refine ng Tryz.func146 λw S hg=>?_
 refine bz ?_;rfl
theorem adQ:ZX 147 λn=>decide (n > 0):=λn=>by
 refine ng Tryz.func147 λw S hg=>?_
 refine bz ?_;rfl
theorem adR:ZX 148 λn=>decide (n<=0):=λn=>by
 refine ng Tryz.func148 λw S hg=>?_
 refine bz ?_;rfl
theorem adS:ZX 149 λn=>decide (n ≥ 0):=λn=>by
 refine ng Tryz.func149 λw S hg=>?_
 refine bz ?_;rfl
theorem yV (Y:YP)(s:ByteArray)(a b:Tm)(nx:Int)(ha:eB a)(hb:eB b)(fa:a.Fit)(fb:b.Fit):Mk Y 154 [.lo 1 0,lzA [a,b],.d (.bL [.v (.string s)])] [a,b] nx (So nx s a b):=by
 have hb0:∀c,n6 0 c=c:=λc=>by unfold n6;rw[if_pos rfl]
 refine mH8 Tryz.func154 λw S φ hg=>?_
 refine ae3 ?_;refine aj hg.ok hg.cm hg.wide hg.Y [0] (IK [a,b] [] false ByteArray.empty nx (n6 0 (bD a).2)) (vS Y [a,b] nx 0 a ha fa) cN rfl rfl rfl rfl rfl rfl rfl rfl (ag ?_);rw[hb0];unfold So;refine af (λh1=>?_) λh1=>?_
 have h1:(bD a).2≠0:=by simpa using h1
 rw[if_pos h1];exact aL hg 2 5 cZ rfl rfl (pH _ [a,b] [] false ByteArray.empty nx (bD a).2);have h1:¬ (bD a).2≠0:=by simpa using h1
 rw[if_neg h1];have h1:(bD a).2=0:=by omega
 rw[h1];refine ae4 ?_;refine aj hg.ok hg.cm hg.wide hg.Y [0] (IK [a,b] [] false ByteArray.empty nx (n6 0 (bD b).2)) (vS Y [a,b] nx 0 b hb fb) cN rfl rfl rfl rfl rfl rfl rfl rfl (ag ?_);rw[hb0];refine aA (Ly s (bD a).1 (bD b).1) ?_;refine af (λh2=>?_) λh2=>?_
 have h2:(bD b).2=0:=by simpa using h2
 rw[if_neg (by simp[h2]),h2];exact WB;have h2:¬ (bD b).2=0:=by simpa using h2
 rw[if_pos h2];exact aL hg 2 5 cZ rfl rfl (pH _ [a,b] [] false ByteArray.empty nx (bD b).2)
end Go.Proofs.YtmjmngigbachdaaGreatDoor

namespace ax
open Go Go.RowKit Go.MapKept
mutual
def qq (i:Nat) (ds:List D):AV->AV| .ow j t=>bif Nat.beq j i then .any else .ow j t| .el j t r o=>bif Nat.beq j i then .any else .el j t r o| .vw j t r=>bif Nat.beq j i then .any else .vw j t r| .lo j o=>bif Nat.beq j i then .d (.bL (ds.drop o))else .lo j o| .mp j=>bif Nat.beq j i then .any else .mp j| .yl j=>bif Nat.beq j i then .any else .yl j| .agg l=>.agg (zP i ds l)| .cP l=>.cP (zP i ds l)| .b9 f a c=>.b9 f (zP i ds a) (zP i ds c)| .any=>.any| .tt=>.tt| .ff=>.ff| .d x=>.d x| .fs r=>.fs r
def zP (i:Nat) (ds:List D):List AV->List AV|[]=>[]|x::l=>qq i ds x::zP i ds l
end
mutual
theorem Sv {S S':Nat->Prop}{w:World}{φ φ':List bI}{i:Nat}{ds:List D}(hk:dL S w S' w)(hp:∀j,j≠i->φ'[j]? = φ[j]?)(ho:∀off v,RV S w φ (.lo i off) v->Rd S' w (.bL (ds.drop off)) v) :
  ∀(x:AV) (v:Value),RV S w φ x v->RV S' w φ' (qq i ds x) v
 | .any,_,_=>by simp[RV,qq]
 | .tt,_,h=>by simpa[RV,qq]using h
 | .ff,_,h=>by simpa[RV,qq]using h
 | .d x,v,h=>by simp only[RV,qq]at h ⊢;exact h.mono hk
 | .fs aa,v,h=>by simp only[RV,qq]at h ⊢;exact⟨h.1.mono hk,h.2⟩
 | .agg l,v,h=>by simp only[RV,qq]at h ⊢;obtain⟨cs,h1,h2⟩:=h;exact⟨cs,h1,sW hk hp ho l cs h2⟩
 | .lo j off,v,h=>by
  simp only[qq];cases hj:Nat.beq j i;have:j≠i:=λe=>by subst e; simp at hj
  simp only[cond_false];simp only[RV]at h ⊢;simp_all;have:=cB hj; subst this;simp only[cond_true];have:=ho off v h;simpa only[RV]using this
 | .el j t r o,v,h=>by
  simp only[qq];cases hj:Nat.beq j i;have:j≠i:=λe=>by subst e; simp at hj
  simp only[RV,cond_false]at h ⊢;simp_all;simp[RV]
 | .vw j t r,v,h=>by
  simp only[qq];cases hj:Nat.beq j i;have:j≠i:=λe=>by subst e; simp at hj
  simp only[RV,cond_false]at h ⊢;simp_all;simp[RV]
 | .mp j,v,h=>by
  simp only[qq];cases hj:Nat.beq j i;have:j≠i:=λe=>by subst e; simp at hj
  simp only[RV,cond_false]at h ⊢;simp_all;simp[RV]
 | .yl j,v,h=>by
  simp only[qq];cases hj:Nat.beq j i;have:j≠i:=λe=>by subst e; simp at hj
  simp only[RV,cond_false]at h ⊢;simp_all;simp[RV]
 | .ow j t,v,h=>by
  simp only[qq];cases hj:Nat.beq j i;have:j≠i:=λe=>by subst e; simp at hj
  simp only[RV,cond_false]at h ⊢;simp_all;simp[RV]
 | .cP l,v,h=>by simp only[RV,qq]at h ⊢;obtain⟨cs,h1,h2⟩:=h;exact⟨cs,h1,sW hk hp ho l cs h2⟩
 | .b9 f a c,v,h=>by simp only[RV,qq]at h ⊢;obtain⟨va,vc,h1,h2,h3⟩:=h;exact⟨va,vc,h1,sW hk hp ho a va h2,sW hk hp ho c vc h3⟩
theorem sW {S S':Nat->Prop}{w:World}{φ φ':List bI}{i:Nat}{ds:List D}(hk:dL S w S' w)(hp:∀j,j≠i->φ'[j]? = φ[j]?)(ho:∀off v,RV S w φ (.lo i off) v->Rd S' w (.bL (ds.drop off)) v) :
  ∀(l:List AV) (vs:List Value),aW S w φ l vs->aW S' w φ' (zP i ds l) vs
 |[],[],_=>by simp[aW,zP]
 |[],_::_,h=>by simp[aW]at h
 |_::_,[],h=>by simp[aW]at h
 |a::l,v::vs,h=>by simp only[aW,zP]at h ⊢;exact⟨Sv hk hp ho a v h.1,sW hk hp ho l vs h.2⟩
end
section
variable {g:G} {pf:Nat->cI} {ad:Array Oper} {Fin:Exit->Act->World->Prop}
theorem tq (hu:JC g){k:List It}{E:bq}{objs:List Ob}(i:Nat)(ds:List D)(hn:g.φ0.length<=i)(ho:dq objs i=some (.box (ds.map AV.d)))(ht:gM k=true)
  (hr:R g pf Fin k (qP (qq i ds) E) (dj (objs.map (aR (qq i ds))) i .dead)) (jP:g.rZ=[]:=by rfl):R g pf Fin k E objs:=by
 refine mT ht (λa w hs=>?_) hr;obtain⟨φ,h1,h2,h3,h4,h5,h6⟩:=hs;rw[bE]at ho;have mG:=(fu.1 ho).1;have acA:i<φ.length:=by rw[h1.len];exact mG
 have KU:∀b,eH φ b->g.S0 b:=λb hb=>(h2 b hb).elim (hu.up b) (hu.x b)
 have hJ:∀b,eH (φ.set i .no) b->eH φ b:=λb hb=>by
  rcases lP hb with ⟨j,q,_,g1,g2⟩|g1
  exact⟨j,q,g1,g2⟩;simp[bI.bl]at g1
 have hp:∀j,j≠i->(φ.set i .no)[j]? = φ[j]? := λj hj=>wB (λe=>hj e.symm)
 have bF:dL (SS g.S0 φ) w (SS g.S0 (φ.set i .no)) w:=λb hb _=>⟨⟨hb.1,λhc=>hb.2 (hJ b hc)⟩,rfl⟩
 have fj:φ[i]? = some φ[i]:=dG acA
 have uK:∀off v,RV (SS g.S0 φ) w φ (.lo i off) v->Rd (SS g.S0 (φ.set i .no)) w (.bL (ds.drop off)) v:=λoff v hv=>by
  simp only[RV]at hv;obtain⟨b,fj,rfl⟩:=hv;have hk:=h1.ok i _ _ fj ho;simp only[bj]at hk;obtain⟨cs,T,bg,lM⟩:=hk;have hb:eH φ b:=⟨i,_,fj,rfl⟩
  have JB:¬ eH (φ.set i .no) b:=λhc=>by
   rcases lP hc with ⟨j,q,hj,g1,g2⟩|g1
   exact hj (h1.jO _ _ _ _ _ g1 fj g2 rfl);simp[bI.bl]at g1
  refine Rd.bL (λj=>(cs[off+j]?).getD undef) ⟨KU b hb,JB⟩ bg (λj x hj=>?_) (λj x hj=>?_);obtain ⟨u,g1,_⟩:=lM.get (off+j) (x:=.d x) ir;simp[g1];obtain ⟨u,g1,g2⟩:=lM.get (off+j) (x:=.d x) ir;rw[g1];have:Rd (SS g.S0 φ) w x u:=by simpa[RV]using g2
  simpa using this.mono bF
 have hf:=Sv (ds:=ds) bF hp uK
 refine⟨φ.set i .no,h1.KS (qq i ds) W5 (λj p b hj hb=>?_) (λj pO hj=>?_) hf,λb hb=>h2 b (hJ b hb),λu=>?_,h4,JA.Kn jP h5 hJ,h6.Kn (λj l I B h=>⟨B,by
  grind⟩) (λj p hi=>by
  obtain⟨p',h7,h8⟩:=h6.le j p hi;grind)⟩
 by_cases uw:j=i;subst uw;rw[u7 acA]at hj;cases hj;exact hb.elim;simp_all;rw [bx]at hj;grind;rcases tE (f:=qq i ds) E u with h| h
 rw[h];exact hf _ _ (h3 u);rw[h];simp[RV]
end
end ax

namespace Go.Proofs.YtmjmngigbachdaaGreatDoor
open Go ax Go.Proofs
variable{b:Bool}
theorem aU.ace{P:Program}{Y:YP}{f:Nat}{x y:AV}{dW:List AV}{objs bc:List Ob}{r:AV}(h:aU P Y f (y::dW) objs r bc)(he:bJ x y):aU P Y f (x::dW) objs r bc:=⟨h.call,λS φ w bS ha hs hb hy hv=>h.run S φ w bS ha hs hb hy (by
 cases bS with
 |nil=>simp[aW]at hv
 |cons v bS=>simp only[aW]at hv ⊢;exact⟨he _ _ _ _ hv.1,hv.2⟩),h.len⟩
theorem wF{g:G}{ad:Array Oper}{ajo:List Ob}(hg:GS g ajo)(is:List Nat){Y:YP}{f:Nat}{xs:List AV}{b7:List Ob}{r:AV}(hc:aU g.P Y f xs b7 r b7)(vj:(∃(i l:Nat) (I:Nat->(Nat->Prop)->(Nat->Prop)->World->Prop) (B:Nat->Prop),g.φ0[i]? = some (bI.ext l I B))->Y=g.Y){dst:Option Nat}{x:Operand}{args:Array Operand}{ts:Array Nat}{ty:Nat}{pos:String}{after:Array Edge}{gd:Option (Nat×Bool)}
  {E:bq} {objs:List Ob} {fs cs:List AV}
  (bt:aH ad.toList E gd=some true) (hd:aQ ⟨g.ty,g.N⟩ dst=true) (hx:ev E x=.b9 f fs cs) (dA:isOk (len objs) is=true) (jS:fM objs is=some (b7.map (bG (rn is (len objs)))))
  (has:(fs++args.toList.map (ev E)++cs).map lO=iH (rn is (len objs)) xs) (kq:db is (b7.map (bG (rn is (len objs)))) objs=objs) (hv:Pd (dh (rn is (len objs)) r) E dst):∃v,uA g ad ⟨dst,.call {callee:=.value x,args:=args,argTypes:=ts},ty,pos,after,gd⟩ E objs v objs/\∀d,dst=some d->bJ v (lk E d):=by
 have h:=(nk hg.ok hg.cm hg.wide hg.Y is hc vj (ad:=ad) (dst:=dst) (x:=x) (args:=args) (ts:=ts) (ty:=ty) (pos:=pos) (after:=after) bt hd hx dA jS has).toE;rw[kq]at h;exact⟨_,h,hv.spec⟩
theorem bJ.ffD(h:false=b):bJ .ff (.d (.v (.bool b))):=λS w φ v hv=>by subst h;simp only[RV]at hv ⊢;subst hv;exact .v _
theorem bJ.aqM(h:b=true):bJ (.d (.v (.bool b))) .tt:=λS w φ v hv=>by subst h;simp only[RV]at hv ⊢;cases hv;rfl
theorem bJ.aqN(h:b=false):bJ (.d (.v (.bool b))) .ff:=λS w φ v hv=>by subst h;simp only[RV]at hv ⊢;cases hv;rfl
theorem bJ.ofEq{a b:AV}(h:a=b):bJ a b:=h ▸ .refl a
def pN (x:Tm):Bool:=(x.k==3)&&decide (x.l.length=0)
theorem adT{x:Tm}(h:(x.k==3)=true):(((Tm.aa x.l).length:Int)==0)=pN x:=by unfold pN;rw[h,Tm.ao,iu,o5];simp
theorem adU{x:Tm}(h:(x.k==3)=false):false=pN x:=by unfold pN;rw[h];rfl
def j7 (l:List Tm)(x:Tm):List (ByteArray×AV):=[(Tx [102,97,105,108],.b9 135 [] [.d (.bL [.v (.bool false)])]),(Tx [110,108],.b9 139 [] [.lo 1 0]),(Tx [119,114,105,116,101],.b9 140 [.lo 0 0] []),(Tx [118,97,114],.b9 135 [] [.d (.bL [.v (.bool (x.k==1))])]),(Tx [110,111,110,118,97,114],.b9 135 [] [.d (.bL [.v (.bool (x.k != 1))])]),(Tx [97,116,111,109],.b9 135 [] [.d (.bL [.v (.bool (pN x))])]),(Tx [105,110,116,101,103,101,114],.b9 135 [] [.d (.bL [.v (.bool (x.k==2))])]),(Tx [61],.b9 141 [] [.lo 1 0,lzA l]),(Tx [92,61],.b9 143 [.lo 0 0] []),(Tx [61,61],.b9 144 [.lo 0 0] []),(Tx [92,61,61],.b9 145 [] [.lo 1 0]),(Tx [64,60],.b9 137 [] [.lo 1 0,.d (.bL [oz 146])]),(Tx [64,62],.b9 137 [] [.lo 1 0,.d (.bL [oz 147])]),(Tx [64,61,60],.b9 137 [] [.lo 1 0,.d (.bL [oz 148])]),(Tx [64,62,61],.b9 137 [] [.lo 1 0,.d (.bL [oz 149])]),(Tx [105,115],.b9 150 [.lo 0 0] []),(Tx [102,117,110,99,116,111,114],.b9 151 [.lo 0 0] []),(Tx [97,114,103],.b9 152 [.lo 0 0] []),(Tx [61,46,46],.b9 153 [.lo 0 0] [])]
def u4 (l:List Tm)(s:ByteArray):ByteArray×AV:=(s,.b9 154 [] [.lo 1 0,lzA l,.d (.bL [.v (.string s)])])
def dm:List ByteArray:=[Tx [61,58,61],Tx [61,92,61],Tx [60],Tx [62],Tx [61,60],Tx [62,61]]
def bC (l:List Tm)(x:Tm):List (ByteArray×AV):=j7 l x++dm.map (u4 l)
def deI:List U1:=[(3,Tx [102,97,105,108],22),(5,Tx [110,108],23),(8,Tx [119,114,105,116,101],25),(16,Tx [118,97,114],32),(24,Tx [110,111,110,118,97,114],39),(40,Tx [97,116,111,109],54),(48,Tx [105,110,116,101,103,101,114],61),(50,Tx [61],62),(53,Tx [92,61],64),(56,Tx [61,61],66),(58,Tx [92,61,61],67),(61,Tx [64,60],69),(64,Tx [64,62],71),(67,Tx [64,61,60],73),(70,Tx [64,62,61],75),(73,Tx [105,115],77),(76,Tx [102,117,110,99,116,111,114],79),(79,Tx [97,114,103],81),(82,Tx [61,46,46],83)]
def NB (l:List Tm)(nx:Int):List Ob:=IK l [] false ByteArray.empty nx 0++[.dead,.dead]
theorem AH(l:List Tm)(nx:Int)(tl:List Ob):db [0,1] (List.map (bG (rn [0,1] (len (NB l nx++tl)))) (IK l [] false ByteArray.empty nx 0)) (NB l nx++tl)=NB l nx++tl:=by simp[NB,IK,j6,db,dj,bG,iH,dh,rn,dq,bV,iV];rfl
def aqO:Nat->cI:=λf=>bif Nat.beq f 4900100004 then .bT 100 else .jz
def aqP (l:List Tm)(x:Tm):bq:=[(20,.mp 4),(21,.b9 134 [] []),(22,.b9 135 [] [.d (.bL [.v (.bool false)])]),(23,.b9 139 [] [.lo 1 0]),(24,.lo 0 0),(25,.b9 140 [.lo 0 0] []),(26,.b9 134 [] []),(27,.d (.sl (Tm.aa (l++[aJ,aJ])))),(28,.d (.bL (Tm.row x))),(29,.d (.bL (Tm.row x))),(30,.d (.v (.int .i64 x.k))),(31,.d (.v (.bool (x.k==1)))),(32,.b9 135 [] [.d (.bL [.v (.bool (x.k==1))])]),(33,.b9 134 [] []),(34,.d (.sl (Tm.aa (l++[aJ,aJ])))),(35,.d (.bL (Tm.row x))),(36,.d (.bL (Tm.row x))),(37,.d (.v (.int .i64 x.k))),(38,.d (.v (.bool (x.k != 1)))),(39,.b9 135 [] [.d (.bL [.v (.bool (x.k != 1))])]),(40,.b9 134 [] []),(41,.d (.sl (Tm.aa (l++[aJ,aJ])))),(42,.d (.bL (Tm.row x))),(43,.d (.bL (Tm.row x))),(44,.d (.v (.int .i64 x.k))),(45,.d (.v (.bool (x.k==3)))),(46,.tt),(47,.d (.sl (Tm.aa (l++[aJ,aJ])))),(48,.d (.bL (Tm.row x))),(49,.d (.bL [.sl (Tm.aa x.l)])),(50,.d (.sl (Tm.aa x.l))),(51,.d (.v (.int .i64 (Tm.aa x.l).length))),(52,.d (.v (.bool (((Tm.aa x.l).length:Int)==0)))),(53,.d (.v (.bool (pN x)))),(54,.b9 135 [] [.d (.bL [.v (.bool (pN x))])]),(55,.b9 134 [] []),(56,.d (.sl (Tm.aa (l++[aJ,aJ])))),(57,.d (.bL (Tm.row x))),(58,.d (.bL (Tm.row x))),(59,.d (.v (.int .i64 x.k))),(60,.d (.v (.bool (x.k==2)))),(61,.b9 135 [] [.d (.bL [.v (.bool (x.k==2))])]),(62,.b9 141 [] [.lo 1 0,lzA l]),(63,.lo 0 0),(64,.b9 143 [.lo 0 0] []),(65,.lo 0 0),(66,.b9 144 [.lo 0 0] []),(67,.b9 145 [] [.lo 1 0]),(68,.b9 136 [] [.lo 1 0]),(69,.b9 137 [] [.lo 1 0,.d (.bL [oz 146])]),(70,.b9 136 [] [.lo 1 0]),(71,.b9 137 [] [.lo 1 0,.d (.bL [oz 147])]),(72,.b9 136 [] [.lo 1 0]),(73,.b9 137 [] [.lo 1 0,.d (.bL [oz 148])]),(74,.b9 136 [] [.lo 1 0]),(75,.b9 137 [] [.lo 1 0,.d (.bL [oz 149])]),(76,.lo 0 0),(77,.b9 150 [.lo 0 0] []),(78,.lo 0 0),(79,.b9 151 [.lo 0 0] []),(80,.lo 0 0),(81,.b9 152 [.lo 0 0] []),(82,.lo 0 0),(83,.b9 153 [.lo 0 0] []),(84,.mp 4),(6,.mp 4)]
def aqQ (l:List Tm)(x:Tm):bq:=[(20,.mp 4),(21,.b9 134 [] []),(22,.b9 135 [] [.d (.bL [.v (.bool false)])]),(23,.b9 139 [] [.lo 1 0]),(24,.lo 0 0),(25,.b9 140 [.lo 0 0] []),(26,.b9 134 [] []),(27,.d (.sl (Tm.aa (l++[aJ,aJ])))),(28,.d (.bL (Tm.row x))),(29,.d (.bL (Tm.row x))),(30,.d (.v (.int .i64 x.k))),(31,.d (.v (.bool (x.k==1)))),(32,.b9 135 [] [.d (.bL [.v (.bool (x.k==1))])]),(33,.b9 134 [] []),(34,.d (.sl (Tm.aa (l++[aJ,aJ])))),(35,.d (.bL (Tm.row x))),(36,.d (.bL (Tm.row x))),(37,.d (.v (.int .i64 x.k))),(38,.d (.v (.bool (x.k != 1)))),(39,.b9 135 [] [.d (.bL [.v (.bool (x.k != 1))])]),(40,.b9 134 [] []),(41,.d (.sl (Tm.aa (l++[aJ,aJ])))),(42,.d (.bL (Tm.row x))),(43,.d (.bL (Tm.row x))),(44,.d (.v (.int .i64 x.k))),(45,.d (.v (.bool (x.k==3)))),(46,.ff),(47,.cP []),(48,.cP []),(49,.cP []),(50,.cP []),(51,.cP []),(52,.cP []),(53,.d (.v (.bool (pN x)))),(54,.b9 135 [] [.d (.bL [.v (.bool (pN x))])]),(55,.b9 134 [] []),(56,.d (.sl (Tm.aa (l++[aJ,aJ])))),(57,.d (.bL (Tm.row x))),(58,.d (.bL (Tm.row x))),(59,.d (.v (.int .i64 x.k))),(60,.d (.v (.bool (x.k==2)))),(61,.b9 135 [] [.d (.bL [.v (.bool (x.k==2))])]),(62,.b9 141 [] [.lo 1 0,lzA l]),(63,.lo 0 0),(64,.b9 143 [.lo 0 0] []),(65,.lo 0 0),(66,.b9 144 [.lo 0 0] []),(67,.b9 145 [] [.lo 1 0]),(68,.b9 136 [] [.lo 1 0]),(69,.b9 137 [] [.lo 1 0,.d (.bL [oz 146])]),(70,.b9 136 [] [.lo 1 0]),(71,.b9 137 [] [.lo 1 0,.d (.bL [oz 147])]),(72,.b9 136 [] [.lo 1 0]),(73,.b9 137 [] [.lo 1 0,.d (.bL [oz 148])]),(74,.b9 136 [] [.lo 1 0]),(75,.b9 137 [] [.lo 1 0,.d (.bL [oz 149])]),(76,.lo 0 0),(77,.b9 150 [.lo 0 0] []),(78,.lo 0 0),(79,.b9 151 [.lo 0 0] []),(80,.lo 0 0),(81,.b9 152 [.lo 0 0] []),(82,.lo 0 0),(83,.b9 153 [.lo 0 0] []),(84,.mp 4),(6,.mp 4)]
theorem ZZ:(deI.map (·.1)).Nodup/\(deI.map (·.2.1)).Nodup:=by constructor;exact np da;decide +kernel
theorem yd(f:AV->AV)(l:List Tm)(x:Tm)(ns:List ByteArray)(hw:(j7 l x).map (λp=>f p.2)=(j7 l x).map (·.2))(hn:∀s,f (u4 l s).2=(u4 l s).2):(eK (j7 l x++ns.map (u4 l))).map (λe=>(e.1,f e.2))=eK (j7 l x++ns.map (u4 l)):=by
 unfold eK;rw[kn,eR,eR];congr 1;refine Kb λp hp=>?_
 obtain⟨i,hi⟩:=wD.1 hp;have:=congrArg (λl=>l[i]?) hw;simp only[fP,hi,ss,Option.some.injEq]at this;simp[this];simp_all
theorem Xr(l:List Tm)(x:Tm){k:Nat}{s:ByteArray}(e1:dm[k]? = some s):dQ (j7 l x++(dm.take k).map (u4 l)) s=none:=by
 refine nn.2 λp hp e=>?_
 have hn:((bC l x).map (·.1)).Nodup:=by have:(bC l x).map (·.1)=deI.map (·.2.1)++dm:=rfl;rw[this];decide +kernel
 have hk:k<dm.length:=(fu.1 e1).1;have hs:dm=dm.take k++s::dm.drop (k+1):=by have h:=List.drop_eq_getElem_cons hk;rw[(fu.1 e1).2]at h;rw[<-h,List.take_append_drop]
 have he:bC l x=(j7 l x++(dm.take k).map (u4 l))++u4 l s::(dm.drop (k+1)).map (u4 l):=by unfold bC;grind
 rw[he,eR,Bq]at hn;exact hn.2.2 p.1 (gm.2 ⟨p,hp,rfl⟩) s (by simp[u4]) e
theorem Pw(Y:YP)(l:List Tm)(nx:Int)(x:Tm)(hx:(l++[aJ,aJ])[0]? = some x)(hl:l.length<=1000):aU Tryz.prog Y 123 [.lo 0 0] (j6 l [] false ByteArray.empty nx 0) (.mp 4) (NB l nx++[.uj (eK (bC l x))]):=by
 have mF:=Tm.ao l;have hr4:∀r∈Tm.aa l,r.length=4:=λr hr=>by rw[Tm.eo]at hr;obtain⟨y,_,rfl⟩:=gm.1 hr;rfl
 refine aU.ej (pf:=aqO) gK mixed Tryz.func123 rfl da da (by simp[Tryz.ntmps123]) (by simp[NB,IK,j6]) λw S φ hg=>?_
 have hφ:φ.length=1:=hg.kh.len;refine ag ?_;refine nh hg.ok (aa:=[]) rfl rfl (.inl rfl) rfl (.inl rfl) rfl rfl rfl aD hr4 jD jD (ag ?_);refine hH 17 rfl (bJ.aa (rows':=[Tm.row aJ,Tm.row aJ]) ⟨⟨.refl _,.refl _,.refl _,.nil,trivial⟩,⟨.refl _,.refl _,.refl _,.nil,trivial⟩,trivial⟩) ?_;refine cR hg.ok (Tm.aa (l++[aJ,aJ])) rfl rfl rfl rfl rfl rfl rfl rfl rfl (by simp[Tm.row]) QZ (by rw[yp,Tm.eo,Tm.eo];simp) jD jD ?_;refine wo ?_;refine pZ hg.cm 2 [(1,.lo 1 0),(3,.b9 134 [] []),(4,.lo 3 0)] [.box [.d (.sl (Tm.aa l)),bV false,.d (alD []),bV false,.d (.v (.string ByteArray.empty)),iV nx,iV 0],.box [.lo 0 0],.dead,.box [.d (.sl (Tm.aa (l++[aJ,aJ])))]] rfl rfl pI ⟨Ep,NI,by simp[jB],⟨bJ.frz 2 _ _,trivial⟩,trivial⟩ ?_;refine tq hg.cm 3 [.sl (Tm.aa (l++[aJ,aJ]))] W6 rfl rfl (ag ?_);show R _ _ _ _ [(5,.b9 136 [] [.lo 1 0]),(19,.b9 136 [] [.lo 1 0]),(1,.lo 1 0),(3,.b9 134 [] []),(4,lzA l)] (NB l nx)
 cases h3:(x.k==3)with
 |true=>
  refine Sq hg.ok (jm:=0) (tm:=20) deI (aqP l x) rfl (Sp hg.ok 213 rfl rfl da da da da da rfl rfl da ZZ.2 rfl ?_) ?_;unfold sP;refine⟨λh=>Bool.noConfusion (show true=false from h),?_⟩;refine⟨λ_ tl=>au hg.ok rfl rfl rfl rfl dZ,?_⟩;refine⟨λ_ tl=>oE hg.ok (kb false) rfl rfl rfl rfl rfl rfl dZ,?_⟩;refine⟨λh=>Bool.noConfusion (show true=false from h),?_⟩;refine⟨λ_ tl=>au hg.ok rfl rfl rfl rfl dZ,?_⟩;refine⟨λh=>Bool.noConfusion (show true=false from h),?_⟩;refine⟨λ_ tl=>au hg.ok rfl rfl rfl rfl dZ,?_⟩;refine⟨λ_ tl=>au hg.ok rfl rfl rfl rfl dZ,?_⟩;refine⟨λh=>Bool.noConfusion (show true=false from h),?_⟩;refine⟨λ_ tl=>au hg.ok rfl rfl rfl rfl dZ,?_⟩;refine⟨λ_ tl=>au hg.ok rfl rfl rfl rfl dZ,?_⟩;refine⟨λ_ tl=>iK hg.ok rfl rfl rfl rfl rfl rfl eA (Tm.ay hx) rfl dZ,?_⟩;refine⟨λ_ tl=>au hg.ok rfl rfl rfl rfl dZ,?_⟩;refine⟨λ_ tl=>au hg.ok rfl rfl rfl rfl dZ,?_⟩;refine⟨λ_ tl=>au hg.ok rfl rfl rfl rfl dZ,?_⟩;refine⟨λ_ tl=>oE hg.ok (kb (x.k==1)) rfl rfl rfl rfl rfl rfl dZ,?_⟩;refine⟨λh=>Bool.noConfusion (show true=false from h),?_⟩;refine⟨λ_ tl=>au hg.ok rfl rfl rfl rfl dZ,?_⟩;refine⟨λ_ tl=>au hg.ok rfl rfl rfl rfl dZ,?_⟩;refine⟨λ_ tl=>iK hg.ok rfl rfl rfl rfl rfl rfl eA (Tm.ay hx) rfl dZ,?_⟩;refine⟨λ_ tl=>au hg.ok rfl rfl rfl rfl dZ,?_⟩;refine⟨λ_ tl=>au hg.ok rfl rfl rfl rfl dZ,?_⟩;refine⟨λ_ tl=>au hg.ok rfl rfl rfl rfl dZ,?_⟩;refine⟨λ_ tl=>oE hg.ok (kb (x.k != 1)) rfl rfl rfl rfl rfl rfl dZ,?_⟩;refine⟨λh=>Bool.noConfusion (show true=false from h),?_⟩;refine⟨λ_ tl=>au hg.ok rfl rfl rfl rfl dZ,?_⟩;refine⟨λ_ tl=>au hg.ok rfl rfl rfl rfl dZ,?_⟩;refine⟨λ_ tl=>iK hg.ok rfl rfl rfl rfl rfl rfl eA (Tm.ay hx) rfl dZ,?_⟩;refine⟨λ_ tl=>au hg.ok rfl rfl rfl rfl dZ,?_⟩;refine⟨λ_ tl=>au hg.ok rfl rfl rfl rfl dZ,?_⟩;refine⟨λ_ tl=>au hg.ok rfl rfl rfl rfl dZ,?_⟩;refine⟨λ_ tl=>au hg.ok rfl rfl rfl rfl (bJ.aqM h3),?_⟩;refine⟨λ_ tl=>au hg.ok rfl rfl rfl rfl dZ,?_⟩;refine⟨λ_ tl=>iK hg.ok rfl rfl rfl rfl rfl rfl eA (Tm.ay hx) rfl dZ,?_⟩;refine⟨λ_ tl=>au hg.ok rfl rfl rfl rfl dZ,?_⟩;refine⟨λ_ tl=>au hg.ok rfl rfl rfl rfl dZ,?_⟩;refine⟨λ_ tl=>au hg.ok rfl rfl rfl rfl dZ,?_⟩;refine⟨λ_ tl=>au hg.ok rfl rfl rfl rfl dZ,?_⟩;refine⟨λ_ tl=>au hg.ok rfl rfl rfl rfl (bJ.ofEq ((congrArg (λb=>AV.d (.v (.bool b))) (adT h3)).trans rfl)),?_⟩;exact mB3;show R _ _ _ _ _ (NB l nx++[.uj (eK (j7 l x))])
  refine afg ?_;refine akW ?_;intro k hk;refine ag ?_;refine af (λh=>?_) λh=>?_
  have aI:k<6:=bo h rfl;exact alz;obtain rfl:k=6:=Nat.le_antisymm hk (bw (n:=6) h rfl);exact ae1
 |false=>
  refine Sq hg.ok (jm:=0) (tm:=20) deI (aqQ l x) rfl (Sp hg.ok 213 rfl rfl da da da da da rfl rfl da ZZ.2 rfl ?_) ?_;unfold sP;refine⟨λh=>Bool.noConfusion (show true=false from h),?_⟩;refine⟨λ_ tl=>au hg.ok rfl rfl rfl rfl dZ,?_⟩;refine⟨λ_ tl=>oE hg.ok (kb false) rfl rfl rfl rfl rfl rfl dZ,?_⟩;refine⟨λh=>Bool.noConfusion (show true=false from h),?_⟩;refine⟨λ_ tl=>au hg.ok rfl rfl rfl rfl dZ,?_⟩;refine⟨λh=>Bool.noConfusion (show true=false from h),?_⟩;refine⟨λ_ tl=>au hg.ok rfl rfl rfl rfl dZ,?_⟩;refine⟨λ_ tl=>au hg.ok rfl rfl rfl rfl dZ,?_⟩;refine⟨λh=>Bool.noConfusion (show true=false from h),?_⟩;refine⟨λ_ tl=>au hg.ok rfl rfl rfl rfl dZ,?_⟩;refine⟨λ_ tl=>au hg.ok rfl rfl rfl rfl dZ,?_⟩;refine⟨λ_ tl=>iK hg.ok rfl rfl rfl rfl rfl rfl eA (Tm.ay hx) rfl dZ,?_⟩;refine⟨λ_ tl=>au hg.ok rfl rfl rfl rfl dZ,?_⟩;refine⟨λ_ tl=>au hg.ok rfl rfl rfl rfl dZ,?_⟩;refine⟨λ_ tl=>au hg.ok rfl rfl rfl rfl dZ,?_⟩;refine⟨λ_ tl=>oE hg.ok (kb (x.k==1)) rfl rfl rfl rfl rfl rfl dZ,?_⟩;refine⟨λh=>Bool.noConfusion (show true=false from h),?_⟩;refine⟨λ_ tl=>au hg.ok rfl rfl rfl rfl dZ,?_⟩;refine⟨λ_ tl=>au hg.ok rfl rfl rfl rfl dZ,?_⟩;refine⟨λ_ tl=>iK hg.ok rfl rfl rfl rfl rfl rfl eA (Tm.ay hx) rfl dZ,?_⟩;refine⟨λ_ tl=>au hg.ok rfl rfl rfl rfl dZ,?_⟩;refine⟨λ_ tl=>au hg.ok rfl rfl rfl rfl dZ,?_⟩;refine⟨λ_ tl=>au hg.ok rfl rfl rfl rfl dZ,?_⟩;refine⟨λ_ tl=>oE hg.ok (kb (x.k != 1)) rfl rfl rfl rfl rfl rfl dZ,?_⟩;refine⟨λh=>Bool.noConfusion (show true=false from h),?_⟩;refine⟨λ_ tl=>au hg.ok rfl rfl rfl rfl dZ,?_⟩;refine⟨λ_ tl=>au hg.ok rfl rfl rfl rfl dZ,?_⟩;refine⟨λ_ tl=>iK hg.ok rfl rfl rfl rfl rfl rfl eA (Tm.ay hx) rfl dZ,?_⟩;refine⟨λ_ tl=>au hg.ok rfl rfl rfl rfl dZ,?_⟩;refine⟨λ_ tl=>au hg.ok rfl rfl rfl rfl dZ,?_⟩;refine⟨λ_ tl=>au hg.ok rfl rfl rfl rfl dZ,?_⟩;refine⟨λ_ tl=>au hg.ok rfl rfl rfl rfl (bJ.aqN h3),?_⟩;refine⟨λ_ tl=>qm hg.ok rfl rfl dZ,?_⟩;refine⟨λ_ tl=>qm hg.ok rfl rfl dZ,?_⟩;refine⟨λ_ tl=>qm hg.ok rfl rfl dZ,?_⟩;refine⟨λ_ tl=>qm hg.ok rfl rfl dZ,?_⟩;refine⟨λ_ tl=>qm hg.ok rfl rfl dZ,?_⟩;refine⟨λ_ tl=>qm hg.ok rfl rfl dZ,?_⟩;refine⟨λ_ tl=>au hg.ok rfl rfl rfl rfl (bJ.ffD (adU h3)),?_⟩;exact mB3;show R _ _ _ _ _ (NB l nx++[.uj (eK (j7 l x))])
  refine afg ?_;refine akW ?_;intro k hk;refine ag ?_;refine af (λh=>?_) λh=>?_
  have aI:k<6:=bo h rfl;exact alz;obtain rfl:k=6:=Nat.le_antisymm hk (bw (n:=6) h rfl);exact ae1
end Go.Proofs.YtmjmngigbachdaaGreatDoor

namespace Go.Proofs.YtmjmngigbachdaaGreatDoor
open Go ax Go.Proofs
theorem _root_.ax.GT.iI {t:Tm}(h:GT t):eB t:=⟨by have:=h.size;omega,λd e he=>by have:=IJ h.fair d e he;omega⟩
theorem _root_.ax.GT.len {t:Tm}(h:GT t):t.l.length<=8:=by have h1:=h.fair;rw[Tm.kO]at h1;simp only[aV]at h1;have h2:=h1.2;unfold Tm.l8 at h2;grind
def gW (Y:YP)(o:Option AV)(l:List Tm)(nx:Int)(k:Ak):Prop :=
 (∃f,o=some (.b9 f [.lo 0 0] [])/\zL Y f l nx k) \/
 (∃(f:Nat) (rs:List (List D)),rs.length<=2/\o=some (.b9 f [] (.lo 1 0::rs.map λr=>.d (.bL r)))/\Mk Y f (.lo 1 0::rs.map λr=>.d (.bL r)) l nx k) \/
 (∃(f:Nat) (r:List D),o=some (.b9 f [] [.d (.bL r)])/\br Tryz.prog f [.d (.bL r)] (bV k.h)/\k=mz nx k.h)
theorem cH (l:List Tm)(x:Tm)(i:Nat){s:ByteArray}{v:AV}(h:(bC l x)[i]? = some (s,v)):dQ (bC l x) s=some v:=by
 have hn:((bC l x).map (·.1)).Nodup:=by have:(bC l x).map (·.1)=deI.map (·.2.1)++dm:=rfl;rw[this];decide +kernel
 exact(C4 hn).2 (sq h)
theorem Ml (l:List Tm)(x:Tm):((bC l x).map (·.1)).Nodup:=by have:(bC l x).map (·.1)=deI.map (·.2.1)++dm:=rfl;rw[this];decide +kernel
theorem Sw {P:ByteArray->Int->Prop}(s:ByteArray)(n:Int)(h:ku (s,n)=true)(h2:∀x∈yO,P (Tx x) 2)(h1:∀x∈yP,P (Tx x.1) x.2):P s n:=by unfold ku anyS at h;grind
theorem Z0 (Y:YP)(nx:Int)(jn:0<=nx/\nx<=999992)(x:Tm)(hx:([]++[aJ,aJ])[0]? = some x):gW Y (dQ (bC [] x) (Tx [102,97,105,108])) [] nx (eg (Tx [102,97,105,108]) [] nx):=by exact .inr (.inr ⟨_,_,cH _ _ 0 rfl,xH false,rfl⟩)
theorem Z1 (Y:YP)(nx:Int)(jn:0<=nx/\nx<=999992)(x:Tm)(hx:([]++[aJ,aJ])[0]? = some x):gW Y (dQ (bC [] x) (Tx [110,108])) [] nx (eg (Tx [110,108]) [] nx):=by exact .inr (.inl ⟨_,[],by simp,cH _ _ 1 rfl,anW Y [] nx⟩)
theorem Z2 (Y:YP)(nx:Int)(jn:0<=nx/\nx<=999992)(x:Tm)(a:Tm)(ga:GT a)(hx:([a]++[aJ,aJ])[0]? = some x):gW Y (dQ (bC [a] x) (Tx [119,114,105,116,101])) [a] nx (eg (Tx [119,114,105,116,101]) [a] nx):=by exact .inl ⟨_,cH _ _ 2 rfl,Pv Y a nx ga.r ga.f⟩
theorem Z3 (Y:YP)(nx:Int)(jn:0<=nx/\nx<=999992)(x:Tm)(a:Tm)(ga:GT a)(hx:([a]++[aJ,aJ])[0]? = some x):gW Y (dQ (bC [a] x) (Tx [118,97,114])) [a] nx (eg (Tx [118,97,114]) [a] nx):=by
 obtain rfl:a=x:=by simpa using hx
 exact .inr (.inr ⟨_,_,cH _ _ 3 rfl,xH (a.k==1),rfl⟩)
theorem Z4 (Y:YP)(nx:Int)(jn:0<=nx/\nx<=999992)(x:Tm)(a:Tm)(ga:GT a)(hx:([a]++[aJ,aJ])[0]? = some x):gW Y (dQ (bC [a] x) (Tx [110,111,110,118,97,114])) [a] nx (eg (Tx [110,111,110,118,97,114]) [a] nx):=by
 obtain rfl:a=x:=by simpa using hx
 exact .inr (.inr ⟨_,_,cH _ _ 4 rfl,(by have:=xH (a.k != 1);rwa [show bV (a.k != 1)=bV (decide (a.k≠1)) by grind]at this),rfl⟩)
theorem Z5 (Y:YP)(nx:Int)(jn:0<=nx/\nx<=999992)(x:Tm)(a:Tm)(ga:GT a)(hx:([a]++[aJ,aJ])[0]? = some x):gW Y (dQ (bC [a] x) (Tx [97,116,111,109])) [a] nx (eg (Tx [97,116,111,109]) [a] nx):=by
 obtain rfl:a=x:=by simpa using hx
 exact .inr (.inr ⟨_,_,cH _ _ 5 rfl,(by have:=xH (pN a);rwa [show bV (pN a)=bV (decide (a.k=3/\a.l.length=0)) by unfold pN;rw[Bool.decide_and];rfl]at this),rfl⟩)
theorem Z6 (Y:YP)(nx:Int)(jn:0<=nx/\nx<=999992)(x:Tm)(a:Tm)(ga:GT a)(hx:([a]++[aJ,aJ])[0]? = some x):gW Y (dQ (bC [a] x) (Tx [105,110,116,101,103,101,114])) [a] nx (eg (Tx [105,110,116,101,103,101,114]) [a] nx):=by
 obtain rfl:a=x:=by simpa using hx
 exact .inr (.inr ⟨_,_,cH _ _ 6 rfl,xH (a.k==2),rfl⟩)
theorem Z7 (Y:YP)(nx:Int)(jn:0<=nx/\nx<=999992)(x:Tm)(a:Tm)(ga:GT a)(b:Tm)(gb:GT b)(hx:([a,b]++[aJ,aJ])[0]? = some x):gW Y (dQ (bC [a,b] x) (Tx [61])) [a,b] nx (eg (Tx [61]) [a,b] nx):=by exact .inr (.inl ⟨_,[_],by simp,cH _ _ 7 rfl,anX Y a b nx ga.iI gb.iI⟩)
theorem Z8 (Y:YP)(nx:Int)(jn:0<=nx/\nx<=999992)(x:Tm)(a:Tm)(ga:GT a)(b:Tm)(gb:GT b)(hx:([a,b]++[aJ,aJ])[0]? = some x):gW Y (dQ (bC [a,b] x) (Tx [92,61])) [a,b] nx (eg (Tx [92,61]) [a,b] nx):=by
 exact .inl ⟨_,cH _ _ 8 rfl,(by
  have h:=Pu Y a b nx ga.r gb.r;have:(cf nx [a,b]).h=true:=by unfold cf;rw[if_pos (by simp only[pK,List.all_nil,Bool.and_true,cV,ga.r,gb.r])]
  show zL Y _ _ _ (if(cf nx [a,b]).h then _ else _)
  simp_all)⟩
theorem Z9 (Y:YP)(nx:Int)(jn:0<=nx/\nx<=999992)(x:Tm)(a:Tm)(ga:GT a)(b:Tm)(gb:GT b)(hx:([a,b]++[aJ,aJ])[0]? = some x):gW Y (dQ (bC [a,b] x) (Tx [61,61])) [a,b] nx (eg (Tx [61,61]) [a,b] nx):=by exact .inl ⟨_,cH _ _ 9 rfl,GN Y a b nx ga.iI⟩
theorem Ve (Y:YP)(nx:Int)(jn:0<=nx/\nx<=999992)(x:Tm)(a:Tm)(ga:GT a)(b:Tm)(gb:GT b)(hx:([a,b]++[aJ,aJ])[0]? = some x):gW Y (dQ (bC [a,b] x) (Tx [92,61,61])) [a,b] nx (eg (Tx [92,61,61]) [a,b] nx):=by exact .inr (.inl ⟨_,[],by simp,cH _ _ 10 rfl,ZY Y a b nx ga.iI⟩)
theorem Vf (Y:YP)(nx:Int)(jn:0<=nx/\nx<=999992)(x:Tm)(a:Tm)(ga:GT a)(b:Tm)(gb:GT b)(hx:([a,b]++[aJ,aJ])[0]? = some x):gW Y (dQ (bC [a,b] x) (Tx [64,60])) [a,b] nx (eg (Tx [64,60]) [a,b] nx):=by exact .inr (.inl ⟨_,[_],by simp,cH _ _ 11 rfl,IL Y _ _ adP a b nx ga.r gb.r⟩)
theorem Vg (Y:YP)(nx:Int)(jn:0<=nx/\nx<=999992)(x:Tm)(a:Tm)(ga:GT a)(b:Tm)(gb:GT b)(hx:([a,b]++[aJ,aJ])[0]? = some x):gW Y (dQ (bC [a,b] x) (Tx [64,62])) [a,b] nx (eg (Tx [64,62]) [a,b] nx):=by exact .inr (.inl ⟨_,[_],by simp,cH _ _ 12 rfl,IL Y _ _ adQ a b nx ga.r gb.r⟩)
theorem Vh (Y:YP)(nx:Int)(jn:0<=nx/\nx<=999992)(x:Tm)(a:Tm)(ga:GT a)(b:Tm)(gb:GT b)(hx:([a,b]++[aJ,aJ])[0]? = some x):gW Y (dQ (bC [a,b] x) (Tx [64,61,60])) [a,b] nx (eg (Tx [64,61,60]) [a,b] nx):=by exact .inr (.inl ⟨_,[_],by simp,cH _ _ 13 rfl,IL Y _ _ adR a b nx ga.r gb.r⟩)
theorem Vi (Y:YP)(nx:Int)(jn:0<=nx/\nx<=999992)(x:Tm)(a:Tm)(ga:GT a)(b:Tm)(gb:GT b)(hx:([a,b]++[aJ,aJ])[0]? = some x):gW Y (dQ (bC [a,b] x) (Tx [64,62,61])) [a,b] nx (eg (Tx [64,62,61]) [a,b] nx):=by exact .inr (.inl ⟨_,[_],by simp,cH _ _ 14 rfl,IL Y _ _ adS a b nx ga.r gb.r⟩)
theorem Vj (Y:YP)(nx:Int)(jn:0<=nx/\nx<=999992)(x:Tm)(a:Tm)(ga:GT a)(b:Tm)(gb:GT b)(hx:([a,b]++[aJ,aJ])[0]? = some x):gW Y (dQ (bC [a,b] x) (Tx [105,115])) [a,b] nx (eg (Tx [105,115]) [a,b] nx):=by exact .inl ⟨_,cH _ _ 15 rfl,adO Y a b nx ga.iI gb.iI gb.f⟩
theorem Vk (Y:YP)(nx:Int)(jn:0<=nx/\nx<=999992)(x:Tm)(a:Tm)(ga:GT a)(b:Tm)(gb:GT b)(c:Tm)(gc:GT c)(hx:([a,b,c]++[aJ,aJ])[0]? = some x):gW Y (dQ (bC [a,b,c] x) (Tx [102,117,110,99,116,111,114])) [a,b,c] nx (eg (Tx [102,117,110,99,116,111,114]) [a,b,c] nx):=by exact .inl ⟨_,cH _ _ 16 rfl,Pf Y a b c ga.iI gb.iI gc.iI nx jn⟩
theorem Vl (Y:YP)(nx:Int)(jn:0<=nx/\nx<=999992)(x:Tm)(a:Tm)(ga:GT a)(b:Tm)(gb:GT b)(c:Tm)(gc:GT c)(hx:([a,b,c]++[aJ,aJ])[0]? = some x):gW Y (dQ (bC [a,b,c] x) (Tx [97,114,103])) [a,b,c] nx (eg (Tx [97,114,103]) [a,b,c] nx):=by exact .inl ⟨_,cH _ _ 17 rfl,aji Y a b c ga.iI gb.iI gc.iI nx (by have:=gb.len;omega)⟩
theorem Vm (Y:YP)(nx:Int)(jn:0<=nx/\nx<=999992)(x:Tm)(a:Tm)(ga:GT a)(b:Tm)(gb:GT b)(hx:([a,b]++[aJ,aJ])[0]? = some x):gW Y (dQ (bC [a,b] x) (Tx [61,46,46])) [a,b] nx (eg (Tx [61,46,46]) [a,b] nx):=by exact .inl ⟨_,cH _ _ 18 rfl,adH Y a b ga.iI gb.iI nx (by have:=ga.size;omega) (by have:=gb.size;omega)⟩
theorem Vn (Y:YP)(nx:Int)(jn:0<=nx/\nx<=999992)(x:Tm)(a:Tm)(ga:GT a)(b:Tm)(gb:GT b)(hx:([a,b]++[aJ,aJ])[0]? = some x):gW Y (dQ (bC [a,b] x) (Tx [61,58,61])) [a,b] nx (eg (Tx [61,58,61]) [a,b] nx):=by exact .inr (.inl ⟨_,[_,_],by simp,cH _ _ 19 rfl,yV Y (Tx [61,58,61]) a b nx ga.iI gb.iI ga.f gb.f⟩)
theorem Vo (Y:YP)(nx:Int)(jn:0<=nx/\nx<=999992)(x:Tm)(a:Tm)(ga:GT a)(b:Tm)(gb:GT b)(hx:([a,b]++[aJ,aJ])[0]? = some x):gW Y (dQ (bC [a,b] x) (Tx [61,92,61])) [a,b] nx (eg (Tx [61,92,61]) [a,b] nx):=by exact .inr (.inl ⟨_,[_,_],by simp,cH _ _ 20 rfl,yV Y (Tx [61,92,61]) a b nx ga.iI gb.iI ga.f gb.f⟩)
theorem Vp (Y:YP)(nx:Int)(jn:0<=nx/\nx<=999992)(x:Tm)(a:Tm)(ga:GT a)(b:Tm)(gb:GT b)(hx:([a,b]++[aJ,aJ])[0]? = some x):gW Y (dQ (bC [a,b] x) (Tx [60])) [a,b] nx (eg (Tx [60]) [a,b] nx):=by exact .inr (.inl ⟨_,[_,_],by simp,cH _ _ 21 rfl,yV Y (Tx [60]) a b nx ga.iI gb.iI ga.f gb.f⟩)
theorem Vq (Y:YP)(nx:Int)(jn:0<=nx/\nx<=999992)(x:Tm)(a:Tm)(ga:GT a)(b:Tm)(gb:GT b)(hx:([a,b]++[aJ,aJ])[0]? = some x):gW Y (dQ (bC [a,b] x) (Tx [62])) [a,b] nx (eg (Tx [62]) [a,b] nx):=by exact .inr (.inl ⟨_,[_,_],by simp,cH _ _ 22 rfl,yV Y (Tx [62]) a b nx ga.iI gb.iI ga.f gb.f⟩)
theorem Vr (Y:YP)(nx:Int)(jn:0<=nx/\nx<=999992)(x:Tm)(a:Tm)(ga:GT a)(b:Tm)(gb:GT b)(hx:([a,b]++[aJ,aJ])[0]? = some x):gW Y (dQ (bC [a,b] x) (Tx [61,60])) [a,b] nx (eg (Tx [61,60]) [a,b] nx):=by exact .inr (.inl ⟨_,[_,_],by simp,cH _ _ 23 rfl,yV Y (Tx [61,60]) a b nx ga.iI gb.iI ga.f gb.f⟩)
theorem Vs (Y:YP)(nx:Int)(jn:0<=nx/\nx<=999992)(x:Tm)(a:Tm)(ga:GT a)(b:Tm)(gb:GT b)(hx:([a,b]++[aJ,aJ])[0]? = some x):gW Y (dQ (bC [a,b] x) (Tx [62,61])) [a,b] nx (eg (Tx [62,61]) [a,b] nx):=by exact .inr (.inl ⟨_,[_,_],by simp,cH _ _ 24 rfl,yV Y (Tx [62,61]) a b nx ga.iI gb.iI ga.f gb.f⟩)
theorem adV (Y:YP)(s:ByteArray)(l:List Tm)(nx:Int)(jn:0<=nx/\nx<=999992)(hb:ku (s,(l.length:Int))=true)(hg:∀t∈l,GT t)(x:Tm)(hx:(l++[aJ,aJ])[0]? = some x):gW Y (dQ (bC l x) s) l nx (eg s l nx):=by
 refine Sw (P:=λs n=>(l.length:Int)=n->gW Y (dQ (bC l x) s) l nx (eg s l nx)) s _ hb (λy hy hl=>?_) (λy hy hl=>?_) rfl
 obtain⟨a,b,rfl⟩:∃a b,l=[a,b]:=by
  match l,hl with
  |[a,b],_=>exact⟨a,b,rfl⟩
  |[],h=>simp at h
  |[a],h=>simp at h
  |a::b::c::r,h=>simp only[dx]at h;omega
 have ga:=hg a aD;have gb:=hg b aD;simp only[yO,cE,pL,or_false]at hy;rcases hy with rfl|rfl|rfl|rfl|rfl|rfl|rfl|rfl|rfl|rfl|rfl|rfl|rfl|rfl|rfl|rfl
 exact Z7 Y nx jn x a ga b gb hx;exact Z8 Y nx jn x a ga b gb hx;exact Z9 Y nx jn x a ga b gb hx;exact Ve Y nx jn x a ga b gb hx;exact Vf Y nx jn x a ga b gb hx;exact Vg Y nx jn x a ga b gb hx;exact Vh Y nx jn x a ga b gb hx;exact Vi Y nx jn x a ga b gb hx;exact Vj Y nx jn x a ga b gb hx;exact Vn Y nx jn x a ga b gb hx;exact Vo Y nx jn x a ga b gb hx;exact Vp Y nx jn x a ga b gb hx;exact Vq Y nx jn x a ga b gb hx;exact Vr Y nx jn x a ga b gb hx;exact Vs Y nx jn x a ga b gb hx;exact Vm Y nx jn x a ga b gb hx;simp only [yP,cE,pL,or_false]at hy;rcases hy with rfl|rfl|rfl|rfl|rfl|rfl|rfl|rfl|rfl
 obtain rfl:l=[]:=kG.1 (by have:(l.length:Int)=0:=hl; omega);exact Z0 Y nx jn x hx;obtain rfl:l=[]:=kG.1 (by have:(l.length:Int)=0:=hl; omega);exact Z1 Y nx jn x hx
 obtain⟨a,rfl⟩:∃a,l=[a]:=by
  match l,hl with
  |[a],_=>exact⟨a,rfl⟩
  |[],h=>simp at h
  |a::b::r,h=>simp only[dx]at h;omega
 exact Z3 Y nx jn x a (hg a aD) hx
 obtain⟨a,rfl⟩:∃a,l=[a]:=by
  match l,hl with
  |[a],_=>exact⟨a,rfl⟩
  |[],h=>simp at h
  |a::b::r,h=>simp only[dx]at h;omega
 exact Z4 Y nx jn x a (hg a aD) hx
 obtain⟨a,rfl⟩:∃a,l=[a]:=by
  match l,hl with
  |[a],_=>simp_all
  |[],h=>simp at h
  |a::b::r,h=>simp only[dx]at h;omega
 exact Z5 Y nx jn x a (hg a aD) hx
 obtain⟨a,rfl⟩:∃a,l=[a]:=by
  match l,hl with
  |[a],_=>exact⟨a,rfl⟩
  |[],h=>simp at h
  |a::b::r,h=>simp only[dx]at h;omega
 exact Z6 Y nx jn x a (hg a aD) hx
 obtain⟨a,rfl⟩:∃a,l=[a]:=by
  match l,hl with
  |[a],_=>exact⟨a,rfl⟩
  |[],h=>simp at h
  |a::b::r,h=>simp only[dx]at h;omega
 exact Z2 Y nx jn x a (hg a aD) hx
 obtain⟨a,b,c,rfl⟩:∃a b c,l=[a,b,c]:=by
  match l,hl with
  |[a,b,c],_=>simp_all
  |[],h=>simp at h
  |[a],h=>simp at h
  |[a,b],h=>simp at h
  |a::b::c::d::r,h=>simp only[dx]at h;omega
 exact Vk Y nx jn x a (hg a aD) b (hg b aD) c (hg c aD) hx
 obtain⟨a,b,c,rfl⟩:∃a b c,l=[a,b,c]:=by
  match l,hl with
  |[a,b,c],_=>simp_all
  |[],h=>simp at h
  |[a],h=>simp at h
  |[a,b],h=>simp at h
  |a::b::c::d::r,h=>grind
 exact Vl Y nx jn x a (hg a aD) b (hg b aD) c (hg c aD) hx
end Go.Proofs.YtmjmngigbachdaaGreatDoor

namespace ax
open Go
end ax
namespace ax
open Go
structure JG where
 at_:Nat
 names:List Bs
 bad:Int
 e:Int
 lay:Bool
 deriving DecidableEq
def aaa:Tk:=⟨0,[],0,0,false⟩
def anY (L:List Tk)(n:Nat)(i:Nat):Int:=match L[i]? with|some t=>t.at_|none=>n
def zQ:List Bs:=[[61],[92,61],[61,61],[92,61,61],[64,60],[64,62],[64,61,60],[64,62,61],[105,115],[61,58,61],[61,92,61],[60],[62],[61,60],[62,61]]
def zR:List Bs:=[[43],[45]]
def zS:List Bs:=[[42],[47,47],[109,111,100]]
def oe:List (Bs×Int×Int×Int):=[([58,45],1200,1199,1199),([59],1100,1099,1100),([45,62],1050,1049,1050),([44],1000,999,1000)]++zQ.map (λs=>(s,700,699,699))++zR.map (λs=>(s,500,500,499))++zS.map (λs=>(s,400,400,399))
def IM (s:Bs):Option (Int×Int×Int):=oe.lookup s
def Px (s:Bs)(l:List Tm):Tm:=.mk 3 (Tx s) 0 l
abbrev TF:=Nat->Int->JG->Option (Tm×JG)
end ax

namespace Go.Proofs.YtmjmngigbachdaaGreatDoor
open Go ax Go.Proofs
def tV (l:List Bs):List (List D):=l.map λs=>[.v (.string (Tx s))]
theorem Mm {l:List Bs}{i:Nat}{s:Bs}(h:l[i]? = some s):(tV l)[i]? = some [.v (.string (Tx s))]:=by simp[tV,h]
theorem Py (d:Nat)(p q:Sg)(w:World):(Op.equalIn (d+1+1) 83 (qB p) (qB q)).run Tryz.prog w=.ok (decide (p=q)) w:=by
 obtain⟨s,n⟩:=p;obtain⟨s',n'⟩:=q;unfold qB;rw[run_equalIn_agg w (d+1) 83 _ _ (by rw[Program.fieldsOf,Tryz.underlying83]) Tryz.stoodInHeld83];rw[Program.fieldsOf,Tryz.underlying83];simp[Op.eqFields,part,run_equalIn_int _ _ _ _ _ _ _ Tryz.underlying3,run_equalIn_string _ _ _ _ _ Tryz.underlying9];by_cases h1:s=s';subst h1;by_cases h2:n=n'<;>simp[h2]
 have h2:¬ s.toList=s'.toList:=λe=>h1 (Tm.bn.1 (by simp [aX,e]))
 simp[h1,h2]
theorem ajq (d:Nat)(b:Bool)(p:Sg)(w:World):(Instr.checkKey b (d+1+1) 83 (qB p)).run Tryz.prog w=.ok () w:=by simp[Instr.checkKey,qB,part,run_underlying Tryz.underlying83,run_underlying Tryz.underlying3,run_underlying Tryz.underlying9]
theorem IP:YT Tryz.prog 83:=⟨⟨_,Tryz.underlying83⟩,λp q w=>Py 9998 p q w,λb p w=>ajq 9998 b p w⟩
theorem A0:OC Tryz.prog 83:=by constructor;intro x y p q w;have h:=Py 9998 p q w;unfold qB at h ⊢;simp only[Sem.run_bind];rw[run_eqGuard_agg _ _ _ _ _ _ _ Tryz.eqGuardType83];simp only[Result.andThen_ok];rw[run_eql_struct,h];rfl;intro x y p q w;have h:=Py 9998 p q w;unfold qB at h ⊢;simp only[Sem.run_bind];rw[run_eqGuard_agg _ _ _ _ _ _ _ Tryz.eqGuardType83];simp only[Result.andThen_ok];rw[run_neq_struct,h];rfl
theorem Pz:br Tryz.prog 88 [] (.d (.sl (tV yO))):=by
 refine ng Tryz.func88 λw S hg=>?_
 refine bz ?_;rfl
theorem yW {l:List (Bs×Int)}{p:Sg}{k:Nat}{x:Bs×Int}(h:l[k]? = some x):anyS (l.drop k) p=(decide ((Tx x.1,x.2)=p)||anyS (l.drop (k+1)) p):=by exact ahG
def IQ (l:List (Bs×Int)):List (List D):=l.map λx=>[.v (.string (Tx x.1)),.v (.int .i64 x.2)]
theorem Dp {l:List (Bs×Int)}{i:Nat}{x:Bs×Int}(h:l[i]? = some x):(IQ l)[i]? = some [.v (.string (Tx x.1)),.v (.int .i64 x.2)]:=by simp[IQ,h]
theorem Dq (p:Sg):br Tryz.prog 61 [.d (.v (.string p.1)),.d (.v (.int .i64 p.2))] (bV (ku p)):=by
 refine v8 Tryz.func61 λw S hg=>?_
 refine aA (Pz) ?_;refine qV (λ_:Unit=>([(0,.d (.v (.string p.1))),(1,.d (.v (.int .i64 p.2)))],[])) (λ_=>ku p=anyS yP p) rfl ?_ ?_;refine a7 (λk:Nat=>([(0,.d (.v (.string p.1))),(1,.d (.v (.int .i64 p.2))),(9,.d (.sl (tV yO))),(10,iV 16),(11,iV k)],[])) (λk=>k<=16/\ku p=(anyS ((yO.map λs=>(s,2)).drop k) p||anyS yP p)) (λk=>16-k) 0 ⟨bU _,rfl⟩ abT rfl ?_;rintro k ⟨hk,hm⟩;refine ag ?_;refine af (λh=>?_) λh=>?_
 have aI:k<yO.length:=bo h rfl;have e1:yO[k]? = some yO[k]:=dG aI;generalize yO[k]=s at e1;have mn:k<16:=aI;have e2:(yO.map λs=>(s,(2:Int)))[k]? = some (s,2):=by rw[fP,e1];rfl
 rw[yW e2]at hm;refine cJ (Mm e1) ?_;refine R9 hg.ok (Tx s,2) p A0 rfl rfl rfl rfl (ag ?_);refine af (λh=>?_) λh=>?_
 refine bz ?_;rw[hm,h];rfl;exact ahe;have aI:16<=k:=bw h rfl;refine ox () ?_ Bj rfl;rw[hm,cX (by simpa[yO]using aI)];rfl;rintro _ hb;refine ag ?_;refine a7 (λk:Nat=>([(0,.d (.v (.string p.1))),(1,.d (.v (.int .i64 p.2))),(31,.d (.sl (IQ yP))),(32,iV 9),(33,iV k)],[])) (λk=>k<=9/\ku p=anyS ((yP).drop k) p) (λk=>9-k) 0 ⟨bU _,hb⟩ ⟨.refl _,.refl _,.fs _,.refl _,.refl _,trivial⟩ rfl ?_;rintro k ⟨hk,hm⟩;refine ag ?_;refine af (λh=>?_) λh=>?_
 have aI:k<(yP).length:=bo h rfl;have e1:(yP)[k]? = some (yP)[k]:=dG aI;generalize (yP)[k]=x at e1;have mn:k<9:=aI;rw[yW e1]at hm;refine cJ (Dp e1) ?_;refine R9 hg.ok (Tx x.1,x.2) p A0 rfl rfl rfl rfl (ag ?_);refine af (λh=>?_) λh=>?_
 refine bz ?_;rw[hm,h];rfl;refine ze ?_;exact ahe;have aI:(yP).length<=k:=bw h rfl;refine bz ?_;rw[hm,cX aI];rfl
theorem PA (p:Sg):br Tryz.prog 62 [.d (.v (.string p.1)),.d (.v (.int .i64 p.2))] (bV (Ip p)):=by
 refine v8 Tryz.func62 λw S hg=>?_
 refine a7 (λk:Nat=>([(0,.d (.v (.string p.1))),(1,.d (.v (.int .i64 p.2))),(16,.d (.sl (IQ (Il p.2)))),(17,iV 8),(18,iV k)],[])) (λk=>k<=8/\Ip p=anyS ((Il p.2).drop k) p) (λk=>8-k) 0 ⟨bU _,rfl⟩ ⟨.refl _,.refl _,.fs _,.refl _,.refl _,trivial⟩ rfl ?_;rintro k ⟨hk,hm⟩;refine ag ?_;refine af (λh=>?_) λh=>?_
 have aI:k<(Il p.2).length:=bo h rfl;have e1:(Il p.2)[k]? = some (Il p.2)[k]:=dG aI;generalize (Il p.2)[k]=x at e1;have mn:k<8:=aI;rw[yW e1]at hm;refine cJ (Dp e1) ?_;refine R9 hg.ok (Tx x.1,x.2) p A0 rfl rfl rfl rfl (ag ?_);refine af (λh=>?_) λh=>?_
 refine bz ?_;rw[hm,h];rfl;refine ze ?_;exact ahe;have aI:(Il p.2).length<=k:=bw h rfl;refine bz ?_;rw[hm,cX aI];rfl
theorem yX (t:Tm):br Tryz.prog 32 [t.av] (sgA (ef t)):=by
 refine v8 Tryz.func32 λw S hg=>?_
 refine bz ?_;unfold sgA ef;rw[Tm.ao]
theorem zT (t:Tm):br Tryz.prog 61 [.d (.v (.string t.s)),.d (.v (.int .i64 ((Tm.aa t.l).length:Int)))] (bV (ku (ef t))):=by rw[Tm.ao];exact Dq (ef t)
theorem Mn (t:Tm):br Tryz.prog 62 [.d (.v (.string t.s)),.d (.v (.int .i64 ((Tm.aa t.l).length:Int)))] (bV (Ip (ef t))):=by rw[Tm.ao];exact PA (ef t)
theorem Mp (t:Tm):br Tryz.prog 34 [t.av] (bV (nV t)):=by
 refine v8 Tryz.func34 λw S hg=>?_
 refine af (λh=>?_) λh=>?_
 refine aA (zT t) ?_;refine af (λh2=>?_) λh2=>?_
 refine aA (Mn t) ?_;refine bz ?_;unfold nV;rw[h,h2];rfl;refine bz ?_;unfold nV;rw[h,h2];rfl;refine bz ?_;unfold nV;rw[h];rfl
theorem vU (t:Tm):br Tryz.prog 92 [t.av] (bV (iy t)):=by
 refine v8 Tryz.func92 λw S hg=>?_
 refine af (λh1=>?_) λh1=>?_
 refine af (λh2=>?_) λh2=>?_
 refine af (λh3=>?_) λh3=>?_
 refine bz ?_;unfold iy;rw[h1,h2,h3,Tm.ao];cases t.l<;>rfl
 refine bz ?_;unfold iy;rw[h1,h2,h3];rfl;refine bz ?_;unfold iy;rw[h1,h2];rfl;refine bz ?_;unfold iy;rw[h1];rfl
def Sx (a:Ak):AV:=.agg [bV a.h,.d (.sl (Tm.aa a.al)),bV a.ap,.d (.v (.string (Tx a.tx))),iV a.nx]
def akZ:AV:=.agg [bV false,.d (.sl []),bV false,.d (.v (.string ByteArray.empty)),iV 0]
def kV (a:Ak)(nx:Int):AV:=if a.e≠0 then .cP [akZ,iV a.e]else if a.h=false then .cP [Sx (eJ nx 0),iV 0]else .cP [Sx a,iV 0]
def anZ:Nat->cI:=λf=>bif Nat.beq f 4000200006 then .bT 100 else bif Nat.beq f 4000100059 then .look 101 else .jz
def adW:Ob:=.box [bV false,.d (.v (.slice none 0 0)),bV false,.d (.v (.string ByteArray.empty)),iV 0]
theorem zU (s:ByteArray)(l:List Tm)(h:ku (s,(l.length:Int))=true):br Tryz.prog 61 [.d (.v (.string s)),.d (.v (.int .i64 ((Tm.aa l).length:Int)))] (bV true):=by rw[Tm.ao,<-h];exact Dq (s,(l.length:Int))
def mr (l:List Tm)(x:Tm):List (ByteArray×AV):=(bC l x).map λp=>(p.1,dh (rn [1] 2) p.2)
theorem rf (l:List Tm)(x:Tm):((mr l x).map (·.1)).Nodup:=by
 have:(mr l x).map (·.1)=(bC l x).map (·.1):=by unfold mr;rw[kn];rfl
 rw[this];exact Ml l x
theorem xI (f:AV->AV)(s:ByteArray):∀l:List (ByteArray×AV),dQ (l.map λp=>(p.1,f p.2)) s=(dQ l s).map f|[]=>rfl|p::l=>by simp only[bM,dQ];split;rfl;exact xI f s l
def akO (l:List Tm)(a:Ak):List Ob:=[adW,.box [.d (.sl (Tm.aa l)),bV false,.d (alD a.al),bV a.ap,.d (.v (.string (Tx a.tx))),iV a.nx,iV a.e],.box [.lo 1 0],.dead,.dead]
theorem ajr (s:ByteArray)(l:List Tm)(nx:Int)(jn:0<=nx/\nx<=999992)(hb:ku (s,(l.length:Int))=true)(hl:∀t∈l,GT t)(V2:l.length<=3):br Tryz.prog 96 [.d (.v (.string s)),.d (.sl (Tm.aa l)),iV nx] (kV (eg s l nx) nx):=by
 have mF:=Tm.ao l;refine br.ej (pf:=anZ) gK mixed Tryz.func96 rfl da da (by simp[Tryz.ntmps96]) λw S hg=>?_
 refine ag ?_;refine aA (zU s l hb) ?_;refine gg ?_;refine To ?_;refine To ?_;refine a7 (λk:Nat=>([(0,.d (.v (.string s))),(1,.d (.sl (Tm.aa l))),(2,iV nx),(6,.lo 0 0),(25,.d (.sl (Tm.aa l))),(26,iV l.length),(27,iV k)],[adW])) (λk=>k<=l.length) (λk=>l.length-k) 0 fO ⟨.refl _,.refl _,.refl _,.refl _,.refl _,by rw[mF];exact .refl _,.refl _,trivial⟩ rfl ?_;intro k hk;refine ag ?_;refine af (λh=>?_) λh=>?_
 have aI:k<l.length:=bo h rfl;have e1:l[k]? = some l[k]:=dG aI;have hm:=hl _ (dy aI);generalize l[k]=x at e1 hm;refine cJ (Tm.ay e1) ?_;refine aA (fe x hm.iI.1 (hm.iI.2 1)) ?_;rw[cV,hm.r];refine gg ?_;refine bf 1 [adW] fO rfl rfl ?_;exact Wj
 ·obtain ⟨x,hx⟩:∃x,(l++[aJ,aJ])[0]? = some x:=⟨_,dG aD⟩;have hd:=adV ⟨[],λ_=>true⟩ s l nx jn hb hl x hx;generalize eg s l nx=a at hd ⊢;refine aj hg.ok hg.cm ⟨rfl,rfl⟩ (λ_ _ _ _ h=>by cases h) [1] ([adW,.box [.d (.sl (Tm.aa l)),bV false,.d (.v (.slice none 0 0)),bV false,.d (.v (.string ByteArray.empty)),iV nx,iV 0],.box [.lo 1 0],.dead,.dead,.uj (eK (mr l x))]) (Pw ⟨[],λ_=>true⟩ l nx x hx aq) cN rfl rfl rfl rfl rfl rfl rfl rfl (ag ?_);rcases hd with ⟨f,ho,hc⟩|⟨f,rs,RN,ho,hc⟩|⟨f,r,ho,hc,he⟩
  refine yR hg.ok (mr l x) (rf l x) rfl rfl rfl rfl rfl rfl rfl rfl (v:=.b9 f [.lo 1 0] []) (by unfold mr; rw [xI,ho]; rfl) (ag ?_);refine aj hg.ok hg.cm ⟨rfl,rfl⟩ (λ_ _ _ _ h=>by cases h) [1] (akO l a++[.uj (eK (mr l x))]) (hc) cN rfl rfl rfl rfl rfl rfl rfl rfl (ag ?_);refine af (λh1=>?_) λh1=>?_
  have h1:a.e≠0:=by simpa using h1
  rw[show kV a nx=.cP [akZ,iV a.e]from if_pos h1];refine Qu ?_;refine Em ?_;refine bz ?_;rfl;have h1:¬ a.e≠0:=by simpa using h1
  refine af (λh2=>?_) λh2=>?_
  have h2:a.h=false:=by simpa using h2
  rw[show kV a nx=.cP [Sx (eJ nx 0),iV 0] by unfold kV;rw[if_neg h1,if_pos h2]];refine Em ?_;refine bz ?_;rfl;have h2:¬ a.h=false:=by simpa using h2
  rw[show kV a nx=.cP [Sx a,iV 0] by unfold kV;rw[if_neg h1,if_neg h2]];exact acg;refine yR hg.ok (mr l x) (rf l x) rfl rfl rfl rfl rfl rfl rfl rfl (v:=.b9 f [] (.lo 2 0::rs.map λr=>.d (.bL r))) (by unfold mr; rw [xI,ho]; match rs,RN with| [],_=>rfl| [_],_=>rfl| [_,_],_=>rfl) ?_;match rs,RN with
  |[],_=>
   refine ag ?_;refine ahb ?_;refine af (λh1=>?_) λh1=>?_
   have h1:a.e≠0:=by simpa using h1
   rw[show kV a nx=.cP [akZ,iV a.e]from if_pos h1];refine Qu ?_;refine Em ?_;refine bz ?_;rfl;have h1:¬ a.e≠0:=by simpa using h1
   refine af (λh2=>?_) λh2=>?_
   have h2:a.h=false:=by simpa using h2
   rw[show kV a nx=.cP [Sx (eJ nx 0),iV 0] by unfold kV;rw[if_neg h1,if_pos h2]];refine Em ?_;refine bz ?_;rfl;have h2:¬ a.h=false:=by simpa using h2
   rw[show kV a nx=.cP [Sx a,iV 0] by unfold kV;rw[if_neg h1,if_neg h2]];exact acg
  |[r],_=>
   refine ag ?_;refine ahb ?_;refine af (λh1=>?_) λh1=>?_
   have h1:a.e≠0:=by simpa using h1
   rw[show kV a nx=.cP [akZ,iV a.e]from if_pos h1];refine Qu ?_;refine Em ?_;refine bz ?_;rfl;have h1:¬ a.e≠0:=by simpa using h1
   refine af (λh2=>?_) λh2=>?_
   have h2:a.h=false:=by simpa using h2
   rw[show kV a nx=.cP [Sx (eJ nx 0),iV 0] by unfold kV;rw[if_neg h1,if_pos h2]];refine Em ?_;refine bz ?_;rfl;have h2:¬ a.h=false:=by simpa using h2
   rw[show kV a nx=.cP [Sx a,iV 0] by unfold kV;rw[if_neg h1,if_neg h2]];exact acg
  |[r,r'],_=>
   refine ag ?_;refine ahb ?_;refine af (λh1=>?_) λh1=>?_
   have h1:a.e≠0:=by simpa using h1
   rw[show kV a nx=.cP [akZ,iV a.e]from if_pos h1];refine Qu ?_;refine Em ?_;refine bz ?_;rfl;have h1:¬ a.e≠0:=by simpa using h1
   refine af (λh2=>?_) λh2=>?_
   have h2:a.h=false:=by simpa using h2
   rw[show kV a nx=.cP [Sx (eJ nx 0),iV 0] by unfold kV;rw[if_neg h1,if_pos h2]];refine Em ?_;refine bz ?_;rfl;have h2:¬ a.h=false:=by simpa using h2
   rw[show kV a nx=.cP [Sx a,iV 0] by unfold kV;rw[if_neg h1,if_neg h2]];exact acg
  obtain ⟨b,rfl⟩:∃b,a=mz nx b:=⟨_,he⟩;refine yR hg.ok (mr l x) (rf l x) rfl rfl rfl rfl rfl rfl rfl rfl (v:=.b9 f [] [.d (.bL r)]) (by unfold mr;rw[xI,ho];rfl) (ag ?_);refine aA (hc) ?_;refine eG hg.ok rfl rfl (by simp[mz]) rfl rfl ?_;cases b with
  |false=>refine cQ hg.ok rfl rfl (by simp[mz]) rfl rfl ?_;rw[show kV (mz nx false) nx=.cP [Sx (eJ nx 0),iV 0]from rfl];refine Em ?_;refine bz ?_;rfl
  |true=>refine eG hg.ok rfl rfl (by simp[mz]) rfl rfl ?_;rw[show kV (mz nx true) nx=.cP [Sx (mz nx true),iV 0]from rfl];refine Em ?_;refine bz ?_;rfl
theorem Vt (B:an)(n:Int)(t:Tm):cW B++[[.v (.int .i64 n),.v (.int .i64 t.k),.v (.string t.s),.v (.int .i64 t.n),.sl (Tm.aa t.l)]]=cW (B++[(n,t)]):=by simp[cW,H0,Tm.row]
def uJ (B:an):List (Int×AV):=B.map λb=>(b.1,b.2.av)
theorem AF:∀(B:an) (n:Int),iT (uJ B) n=(ba B n).map Tm.av|[],n=>rfl|b::B,n=>by have ih:=AF B n;by_cases h:b.1=n;simp[uJ,iT,ba,h];simp only [uJ,bM,iT,ba,List.find?_cons,show(b.1==n)=false by simpa using h]at ih ⊢;rw[if_neg h];exact ih
def ak7:Value:=.agg #[.int .i64 0,.string ByteArray.empty,.int .i64 0,.slice none 0 0]
def apk:AV:=.agg [iV 0,.d (.v (.string ByteArray.empty)),iV 0,.d (.v (.slice none 0 0))]
theorem aab (B:an)(v:Int)(t:Tm):uJ B++[(v,t.av)]=uJ (B++[(v,t)]):=by simp[uJ]
theorem dS {f:AV->AV}(h:∀t:Tm,f t.av=t.av)(B:an):aR f (.map (ct (uJ B)))=.map (ct (uJ B)):=by simp[aR,ct,uJ,h]
theorem Mq (l:List Int)(v:Int):cD l++[[.v (.int .i64 v)]]=cD (l++[v]):=by simp[cD,HO]
theorem Vu (Y:YP):aU Tryz.prog Y 18 [] [] (.lo 1 0) [.map [],.box [.mp 0,.d (.v (.slice none 0 0))]]:=by
 refine u0 Tryz.func18 λw S φ hg=>?_
 refine Eo ?_;exact aL hg 2 5 aD rfl rfl rfl
theorem Ds:∀(M:List Int) (n:Int),iT (M.map λn=>(n,bV true)) n=if M.contains n then some (bV true)else none
 |[],n=>rfl
 |m::M,n=>by
  simp only[bM,iT,Ke];by_cases h:m=n;simp[h];rw [if_neg h,Ds M n];have:(n==m)=false:=by simp;exact λe=>h e.symm
  rw[this,uq]
theorem rh {f:AV->AV}(h:∀b,f (bV b)=bV b)(M:List Int):aR f (.map (ct (M.map λn=>(n,bV true))))=.map (ct (M.map λn=>(n,bV true))):=by simp[aR,ct,h]
theorem aac (M:Prs)(a b:Tm):gx M++[[.v (.int .i64 a.k),.v (.string a.s),.v (.int .i64 a.n),.sl (Tm.aa a.l),.v (.int .i64 b.k),.v (.string b.s),.v (.int .i64 b.n),.sl (Tm.aa b.l)]]=gx (M++[(a,b)]):=by simp[gx,H3,Tm.row]
theorem ajs (d:Nat)(b:Bool)(p:Int×Int)(w:World):(Instr.checkKey b (d+1+1) 218 (ES p)).run Tryz.prog w=.ok () w:=by obtain⟨i,hi⟩:=info_of_underlying Tryz.underlying3;simp[Instr.checkKey,ES,part,run_sizeOf w hi,Std.Legacy.Range.forIn_eq_forIn_range',Std.Legacy.Range.size,List.range']
theorem ajt (d:Nat)(p q:Int×Int)(w:World):(Op.equalIn (d+1+1) 218 (ES p) (ES q)).run Tryz.prog w=.ok (decide (p=q)) w:=by
 obtain⟨i,hi⟩:=info_of_underlying Tryz.underlying3;have hc:Tryz.prog.cellsOf 3=1:=by kernel_rfl
 unfold ES;rw[run_equalIn_array (w:=w) (d+1) _ _ Tryz.underlying218 hi,hc];simp only[List.range,List.range.loop,Op.eqItems];obtain⟨p1,p2⟩:=p;obtain⟨q1,q2⟩:=q;simp[part,run_equalIn_int _ _ _ _ _ _ _ Tryz.underlying3];by_cases h1:p1=q1<;>by_cases h2:p2=q2<;>simp[h1,h2]
theorem ND:UA Tryz.prog 218:=⟨⟨_,_,Tryz.underlying218⟩,λp q w=>ajt 9998 p q w,λb p w=>ajs 9998 b p w⟩
def an0:Nat->cI:=λf=>bif Nat.beq f 4800100000 then .bT 100 else bif Nat.beq f 4000000005 then .bT 0 else bif Nat.beq f 4000000004 then .bT 1 else bif Nat.beq f 4900100004 then .bT 100 else bif Nat.beq f 4000000006 then .bT 201 else bif Nat.beq f 4000100027 then .look 10001 else bif Nat.beq f 4000100034 then .look 10001 else bif Nat.beq f 4000300023 then .look 10001 else bif Nat.beq f 4000300030 then .look 10001 else bif Nat.beq f 4000200009 then .bT 10000 else bif Nat.beq f 4000200010 then .bT 10000 else bif Nat.beq f 124 then .bT 3 else bif Nat.beq f 4000100009 then .look 4 else bif Nat.beq f 4000100010 then .look 4 else .jz
def si (cK:List (Int×Int)):List ((Int×Int)×AV):=cK.map λp=>(p,AV.tt)
theorem wq:∀(cK:List (Int×Int)) (p:Int×Int),Am (si cK) p=if cK.contains p then some AV.tt else none
 |[],p=>rfl
 |m::cK,p=>by
  simp only[si,bM,Am,Ke];by_cases h:m=p;simp[h];rw [if_neg h,show Am (List.map (λp=>(p,AV.tt)) cK) p=Am (si cK) p from rfl,wq cK p];have:(p==m)=false:=by simp;exact λe=>h e.symm
  rw[this,uq]
theorem Du {f:AV->AV}(h:f .tt=.tt)(cK:List (Int×Int)):aR f (.map (oD (si cK)))=.map (oD (si cK)):=by simp[aR,oD,si,h]
theorem Te (M:List (Tm×Tm))(a b:Tm):gx M++[[.v (.int .i64 a.k),.v (.string a.s),.v (.int .i64 a.n),.sl (Tm.aa a.l),.v (.int .i64 b.k),.v (.string b.s),.v (.int .i64 b.n),.sl (Tm.aa b.l)]]=gx (M++[(a,b)]):=aac M a b
end Go.Proofs.YtmjmngigbachdaaGreatDoor
