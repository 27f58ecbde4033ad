import Derived.Test.YtmjmngigbachdaaGreatDoorM5
set_option maxRecDepth 100000
set_option maxHeartbeats 4000000
namespace ax
open Go
def Nx (hs:ByteArray)(g:Gl):Prop:=g.k=1->g.t.s≠hs
def aes (h:Cs)(cs ds:List Cs):Prop:=ds=cs\/∃A B,cs=A++B/\ds=A++h::B
theorem lL {hs:ByteArray}{l:List Gl}{sh id:Nat}{r:List Im}(hl:cL (Nx hs) l)(hr:∀x∈r,ka (Nx hs) x.g):∀x∈c9 l sh id r,ka (Nx hs) x.g:=λx hx=>by
 unfold c9 at hx;rcases cu.1 hx with hx|hx
 obtain ⟨g,hg,rfl⟩:=gm.1 hx;exact ua.1 hl g hg;exact hr x hx
theorem rz {hs:ByteArray}{x:Im}{r:List Im}(hx:ka (Nx hs) x.g)(hr:∀y∈r,ka (Nx hs) y.g):∀y∈x::r,ka (Nx hs) y.g:=λy hy=>by
 rcases cE.1 hy with rfl|hy
 exact hx;exact hr y hy
theorem qA (hs:ByteArray):ka (Nx hs) aN:=by rw[aN,ka];exact⟨λh=>by simp[Gl.k]at h,by simp[cL],by simp[cL],by simp[cL]⟩
theorem Ta (hs:ByteArray):ka (Nx hs) dE:=by rw[dE,ka];exact⟨λh=>by simp[Gl.k]at h,by simp[cL],by simp[cL],by simp[cL]⟩
theorem abk (s:Nat)(t:Tm):(dw s t).s=t.s:=by unfold dw;rw[qp];rfl
theorem abl {β:Type}{D:Dt β}{P1 P2:List Cs}{hd:List Tm}{h:Cs}(hP:aes h P1 P2)(hB:∀c∈P1,cL (Nx h.head.s) c.body){j:Jb}{b:β}{f:Nat}{w:Wo}{n:Option Nat}{w':Wo}(hr:er D P1 hd j b f w n w') :
  match (generalizing:=false) j with
  | .run l=>(∀x∈l,ka (Nx h.head.s) x.g)->er D P2 hd (.run l) b f w n w'
  | .cls cs t id r=>t.s≠h.head.s->(∀c∈cs,cL (Nx h.head.s) c.body)->(∀x∈r,ka (Nx h.head.s) x.g)->∀ds,aes h cs ds->er D P2 hd (.cls ds t id r) b f w n w':=by
 have one:∀{c:Cs} {cs ds:List Cs} {t:Tm} {id:Nat} {r:List Im} {b:β} {f:Nat} {w:Wo} {n:Option Nat} {w':Wo},t.s≠h.head.s->aes h (c::cs) ds->(∀ds',aes h cs ds'->er D P2 hd (.cls (c::ds') t id r) b f w n w')->er D P2 hd (.cls ds t id r) b f w n w':=λdR hi hk=>by
  rcases hi with rfl|⟨A,B,h1,rfl⟩
  exact hk _ (.inl rfl);cases A with
  |nil=>simp only[yp]at h1;subst h1;exact .other (λhm=>dR hm.1.symm) (hk _ (.inl rfl))
  |cons a A=>simp only[jo,List.cons.injEq]at h1;obtain⟨rfl,rfl⟩:=h1;exact hk _ (.inr ⟨A,B,rfl,rfl⟩)
 induction hr with
 |mB h=>exact λ_=>.mB h
 |A2 h=>exact λ_=>.A2 h
 |cut hk _ ih=>exact λhl=>.cut hk (ih λx hx=>hl x oZ)
 |bad hk h=>exact λ_=>.bad hk h
 |no hk h=>exact λ_=>.no hk h
 |yes hk hd _ ih=>exact λhl=>.yes hk hd (ih λx hx=>hl x oZ)
 |stop hk h=>exact λ_=>.stop hk h
 |@call x r b f w c n w' hk hl _ ih=>intro hn;refine .call hk hl (ih ?_ hB (λy hy=>hn y iS) _ hP);rw[abk];exact(ik.1 (hn x aD)).1 hk
 |@px x r b f w n w' hk _ hn ih=>exact λhl=>.px hk (ih (lL (ik.1 (hl x aD)).2.1 (rz (qA _) (rz (Ta _) aD)))) hn
 |@wI x r b f w w1 n w' hk _ ho _ ih wg=>exact λhl=>.wI hk (ih (lL (ik.1 (hl x aD)).2.1 (rz (qA _) (rz (Ta _) aD)))) ho (wg λy hy=>hl y iS)
 |@py x r b f w n w' hk _ ho ih=>exact λhl=>.py hk (ih (lL (ik.1 (hl x aD)).2.1 (rz (qA _) (lL (ik.1 (hl x aD)).2.2.1 λy hy=>hl y iS)))) ho
 |@uU x r b f w n w' hk _ ho ih=>exact λhl=>.uU hk (ih (lL (ik.1 (hl x aD)).2.1 (rz (qA _) (lL (ik.1 (hl x aD)).2.2.1 λy hy=>hl y iS)))) ho
 |@Ho x r b f w w1 n w' hk _ ho _ ih wg=>exact λhl=>.Ho hk (ih (lL (ik.1 (hl x aD)).2.1 (rz (qA _) (lL (ik.1 (hl x aD)).2.2.1 λy hy=>hl y iS)))) ho (wg (lL (ik.1 (hl x aD)).2.2.2 λy hy=>hl y iS))
 |skip h0 h1 h2 h3 h4 h5 _ ih=>exact λhl=>.skip h0 h1 h2 h3 h4 h5 (ih λx hx=>hl x oZ)
 |none=>
  intro dR _ _ ds hi;rcases hi with rfl|⟨A,B,h1,rfl⟩
  exact .none;obtain ⟨rfl,rfl⟩:=List.nil_eq_append_iff.1 h1;exact .other (λhm=>dR hm.1.symm) .none
 |@other c cs t id r b f w n w' hh _ ih=>exact λdR hc hr ds hi=>one dR hi λds' EG=>.other hh (ih dR (λc FA=>hc c (by simp[FA])) hr ds' EG)
 |@fail c cs t id r b f w n w' hh hu _ ih=>exact λdR hc hr ds hi=>one dR hi λds' EG=>.fail hh hu (ih dR (λc FA=>hc c (by simp[FA])) hr ds' EG)
 |@over c cs t id r b f w b' n w' hh hu _ ho ih=>exact λdR hc hr ds hi=>one dR hi λds' EG=>.over hh hu (ih (lL (hc c aD) hr)) ho
 |@aE c cs t id r b f w b' n w' hh hu _ ho ih=>exact λdR hc hr ds hi=>one dR hi λds' EG=>.aE hh hu (ih (lL (hc c aD) hr)) ho
 |@more c cs t id r b f w b' w1 n w' hh hu _ ho _ ih wg=>exact λdR hc hr ds hi=>one dR hi λds' EG=>.more hh hu (ih (lL (hc c aD) hr)) ho (wg dR (λc FA=>hc c (by simp[FA])) hr ds' EG)
end ax

namespace ax
open Go
variable{l:List Cs}{k:Nat}
def abm:ByteArray:=Tx [104,97,121,32,115,116,97,99,107]
def nf:Cs:=⟨.mk 3 abm 0 [],[.mk 3 aJ [] [] []],0⟩
theorem Ef{h1 h2:Sg->Bool}(hh:∀p,h1 p=true->h2 p=true){l:List Gl}(h:bm h1 l=true):bm h2 l=true:=(zJ h2 l).2 λp hp=>hh p ((zJ h1 l).1 h p hp)
theorem abn{hs:ByteArray}(dR:∀c∈l,c.head.s≠hs){has:Sg->Bool}(hh:∀p,has p=true->eO l p=true)(g:Gl):yQ has g=true->ka (Nx hs) g:=by
 induction g using Gl.ind with
 |_ g ha hb hc=>
 have key:∀r:List Gl,(∀x∈r,yQ has x=true->ka (Nx hs) x)->bm has r=true->cL (Nx hs) r:=λr=>by
  induction r with
  |nil=>intro _ _;rw[cL];trivial
  |cons x r ih=>intro h ht;rw[bm,aV]at ht;rw[cL];exact⟨h x aD ht.1,ih (λy hy=>h y iS) ht.2⟩
 intro ht;rw[tQ]at ht;simp only[aV,wE,ahC,beq_eq_false_iff_ne,J9]at ht;obtain⟨⟨⟨h1,h2⟩,h3⟩,h4⟩:=ht;rw[ik];refine⟨λhk=>?_,key _ ha h2,key _ hb h3,key _ hc h4⟩;rcases h1 with h1|h1
 exact absurd hk h1;obtain ⟨c,hc,e⟩:=CX.1 (hh _ h1);intro es;refine dR c hc ?_;have:=congrArg Prod.fst e;simp only[ef]at this;rw[this,es]
theorem y8{l:List Cs}{hs:ByteArray}(dR:∀c∈l,c.head.s≠hs):∀{r:List Gl},bm (eO l) r=true->cL (Nx hs) r|[],_=>by rw[cL];trivial|x::r,h=>by rw[bm,aV]at h;rw[cL];exact⟨abn dR (λ_ h=>h) x h.1,y8 dR h.2⟩
theorem x8{c:Cs}:c∈l.take k++nf::l.drop k↔c=nf\/c∈l:=by
 rw[cu,cE];constructor;rintro (h| h| h);exact .inr (Q7 h);exact .inl h;exact .inr (Q9 h);rintro (h| h);exact .inr (.inl h);rw [<-List.take_append_drop k l]at h;rcases cu.1 h with h|h
 exact .inl h;exact .inr (.inr h)
theorem Tc{p:Sg}(h:eO l p=true):eO (l.take k++nf::l.drop k) p=true:=by obtain⟨c,hc,e⟩:=CX.1 h;exact CX.2 ⟨c,x8.2 (.inr hc),e⟩
theorem aet:iX nf=true:=by kernel_rfl
theorem abo{q:Cs}(h:lj q l=true)(hl:l.length<=59):lj q (l.take k++nf::l.drop k)=true:=by
 have hq:=ql h;obtain⟨h1,h2,h3⟩:=(tS l).1 hq.prog
 have hc:(fH (l.take k++nf::l.drop k)).2=0:=by
  refine(tS _).2 ⟨?_,λc hc=>?_,λc hc=>?_⟩;rw[List.length_append,dx,zi,J7];omega;rcases x8.1 hc with rfl| hc
  exact aet;exact h2 c hc;rcases x8.1 hc with rfl| hc
  rfl;exact Ef (λ_=>Tc) (h3 c hc)
 unfold lj at h ⊢;simp only[aV,beq_iff_eq]at h ⊢;exact⟨⟨⟨⟨⟨⟨hc,h.1.1.1.1.1.2⟩,h.1.1.1.1.2⟩,h.1.1.1.2⟩,h.1.1.2⟩,h.1.2⟩,Ef (λ_=>Tc) h.2⟩
theorem aeu:rl nf:=by refine⟨pq.2 ⟨⟨by unfold ji;omega,by unfold ji;omega⟩,by simp⟩,?_⟩;rw[nf,cL,ka];refine⟨⟨?_,by simp[cL],by simp[cL],by simp[cL]⟩,by simp[cL]⟩;exact pq.2 ⟨⟨by unfold ji;omega,by unfold ji;omega⟩,by simp⟩
theorem abp{q:Cs}(hl:∀c∈l,rl c)(hf:rl q)(h:lj q l=true)(a8:l.length<=59)(dR:∀c∈l,c.head.s≠abm){ab:Nat}(C5:ab<=90)(k:Nat):∃s,aeg l q ab s/\aeg (l.take k++nf::l.drop k) q ab s:=by obtain⟨n,w',hr,h1,h2⟩:=MZ hl hf h C5;have hq:=ql h;obtain⟨_,_,h3⟩:=(tS l).1 hq.prog;refine⟨rJ w',⟨h1,h2⟩,?_,h2⟩;refine DH (n:=n) (abl (h:=nf) (.inr ⟨l.take k,l.drop k,(List.take_append_drop k l).symm,rfl⟩) (λc hc=>y8 dR (h3 c hc)) hr ?_);exact lL (y8 dR hq.there) aD
end ax

namespace ax
open Go Tm
theorem akb (g:Gl):g.Ok->ka E5 g:=by
 induction g using Gl.ind with
 |_ g ha hb hc=>
 intro h;have key:∀l:List Gl,(∀x∈l,x.Ok->ka E5 x)->(∀x∈l,x.Ok)->cL E5 l:=λl h1 h2=>ua.2 λx hx=>h1 x hx (h2 x hx)
 rw[ik];cases h with
 |mk hk ht a1 b1 c1 a2 b2 c2=>exact⟨ht.2,key _ ha a2,key _ hb b2,key _ hc c2⟩
theorem abq {c:Cs}(h:c.Ok):rl c:=⟨h.head.2,ua.2 λx hx=>akb x (h.body x hx)⟩
end ax

namespace Go.Proofs.YtmjmngigbachdaaGreatDoor
open Go ax Go.Proofs
theorem akc {l:List Cs}:∀r∈Cs.aa l,∀x∈r,pD (.d x)=true:=λr hr x hx=>by obtain⟨c,_,rfl⟩:=gm.1 hr;simp only[Cs.row,cE,pL,or_false]at hx;rcases hx with rfl|rfl|rfl|rfl|rfl|rfl<;>rfl
theorem aev:Ir nf:=⟨G3 da,by
 simp only[nf,fv,ads];exact⟨⟨⟨by decide,λx e he=>by simp only[aJ,Tm.gX,Tm.iU,eu]at he;subst he;show(0:Nat)<1000000000;decide⟩,trivial,trivial,trivial⟩,trivial⟩,by decide⟩
theorem Ar (l:List Cs)(q:Cs)(dA:∀c∈l,c.Ok)(hq:q.Ok)(hb:l.length*88<=140737488351232)(Ek:∀c∈l,rl c)(hfq:rl q)(a b:Nat)(ha:a<256)(Ae:b<256):br Tryz.prog 3 [Al l,q.av,.d (.v (.int .u8 a)),.d (.v (.int .u8 b))] (bV true):=by
 have dK:=Cs.fD l;refine br.ej (pf:=ap3) gK mixed Tryz.func3 rfl da da (by simp[Tryz.ntmps3]) λw S hg=>?_
 refine ag ?_;refine aA (Je l q dA hq hb) ?_;refine af (λh1=>?_) λh1=>?_
 refine aA (lK) ?_;refine bz ?_;rfl;have h1:DU l q=true:=by simpa using h1
 obtain⟨hm,auI⟩:=y3 h1;have Wc:=λc hc=>hm.sm c (Xf [q] hc)
 have hsq:=hm.sm q aD;refine af (λh3=>?_) λh3=>?_
 refine aA (lK) ?_;refine bz ?_;rfl;have h3:b<=40:=by have:=of_decide_eq_false h3;omega
 refine aA (Jr q l hsq Wc aq) ?_;cases hf:lj q l with
 |false=>refine mM ?_;refine aA (lK) ?_;refine bz ?_;rfl
 |true=>
  refine gg ?_;refine af (λh4=>?_) λh4=>?_
  refine aA (lK) ?_;refine bz ?_;rfl;have h4:l.length<=59:=by have:=of_decide_eq_false h4;omega
  refine uI [Ob.box [.d (.sl (Cs.aa l))],uF q,uF nf] ⟨jB.refl _,jB.refl _,⟨.refl _,.refl _,.refl _,bJ.d .nil,bJ.aa (rows':=Gl.aa nf.body) ⟨⟨.refl _,.refl _,.refl _,.refl _,.nil,.nil,.nil,.nil,trivial⟩,trivial⟩,.refl _,trivial⟩,trivial⟩ rfl ?_;refine a7 (λk:Nat=>([(2,.d (.v (.int .u8 a))),(3,.d (.v (.int .u8 b))),(4,.lo 0 0),(5,.lo 1 0),(9,.lo 2 0),(10,iV k)],[Ob.box [.d (.sl (Cs.aa l))],uF q,uF nf])) (λk=>k<=l.length/\∀c∈l.take k,c.head.s≠abm) (λk=>l.length-k) 0 ⟨bU _,by simp⟩ alp rfl ?_;rintro k ⟨hk,hnc⟩;refine ag ?_;refine af (λh=>?_) λh=>?_
  have aI:k<l.length:=bo h (by rw [dK]);have e1:l[k]? = some l[k]:=dG aI;have htk:l.take (k+1)=l.take k++[l[k]]:=by rw[Jt,e1];rfl
  generalize l[k]=c at e1 htk;refine cJ (Cs.ay e1) ?_;refine iG (λh5=>?_) λh5=>?_
  refine ag ?_;refine aA (lK) ?_;refine bz ?_;rfl;refine ag ?_;have h5:c.head.s≠abm:=λe=>by rw[e]at h5;exact absurd (h5.symm.trans (Tm.bn.2 rfl)) aD
  exact bb (k+1) ⟨aI,λx hx=>by
   rw[htk]at hx;rcases cu.1 hx with hx|hx
   exact hnc x hx;rw[eu.1 hx];exact h5⟩ aq alh rfl
  ·have aI:l.length<=k:=bw h (by rw [dK]);have dR:∀c∈l,c.head.s≠abm:=λc hc=>hnc c (by rw[Fm aI];exact hc)
   obtain⟨p,Wd⟩:∃p:Nat,p=a % (l.length+1):=⟨_,rfl⟩;have vm:p<=l.length:=by have:=Nat.mod_lt a (show l.length+1 > 0 by omega);omega
   obtain⟨s,hs1,nB⟩:=abp Ek hfq hf h4 dR (ab:=b) aq p;have hf2:=abo (k:=p) hf h4
   have arj:∀c∈l.take p++nf::l.drop p,Ir c:=λc hc=>by
    rcases x8.1 hc with rfl|hc
    exact aev;exact Wc c hc
   have ark:∀c∈l.take p++nf::l.drop p,rl c:=λc hc=>by
    rcases x8.1 hc with rfl|hc
    exact aeu;exact Ek c hc
   have hsz:=P5 Ek hfq hf aq hs1;have hrp:(Cs.aa (l.take p)).length=p:=by rw[Cs.fD,zi];omega
   have uK:(Cs.aa (l.drop p)).length=l.length-p:=by rw[Cs.fD,J7]
   refine hH 59 rfl (bJ.wrap (n:=(a:Int)) rfl aq aq) ?_;rw[dK,pX (n:=(l.length:Int)+1) aq aq];refine agk hg.ok rfl rfl rfl rfl aq ?_;rw[Int.tmod_eq_emod_of_nonneg aq,show(a:Int) % ((l.length:Int)+1)=(p:Int) by rw[Wd];push_cast;rfl];refine ag ?_;refine B8 hg.ok (Cs.aa (l.take p)) rfl rfl rfl rfl rfl rfl rfl (Bd l) (kH 0) aq (by rw[dK];omega) (by simp[Cs.aa,List.map_take]) (ag ?_);refine nh hg.ok rfl rfl (.inl rfl) rfl (.inl rfl) rfl rfl rfl aD (Bd _) (by rw[hrp];simp;omega) (by rw[hrp];simp;omega) (ag ?_);refine cR hg.ok (Cs.aa (l.take p++[nf])) rfl rfl rfl rfl rfl rfl rfl rfl rfl aD NK (Cs.E9 _ nf) (by simp[hrp];omega) (by simp[hrp];omega) (ag ?_);refine B8 hg.ok (Cs.aa (l.drop p)) rfl rfl rfl rfl rfl rfl rfl (Bd l) aq (by rw[dK];omega) (by rw[dK];omega) (by simp[Cs.aa,List.map_drop];exact Fm aD) (ag ?_);refine cR hg.ok (Cs.aa (l.take p++nf::l.drop p)) rfl rfl rfl rfl rfl rfl rfl rfl rfl (Bd _) akc (by simp[Cs.aa]) (by simp[Cs.fD,uK];omega) (by simp[Cs.fD,uK];omega) ?_;generalize ez:l.take p++nf::l.drop p=all at *
   first
   |(refine eW hg.ok 1 rfl rfl ?_;refine pZ hg.cm 3 [(3,.d (.v (.int .u8 b))),(4,.lo 0 0),(5,.lo 1 0),(12,.d (.sl (Cs.aa all)))] [Ob.box [.d (.sl (Cs.aa l))],uF q,uF nf,.dead] rfl rfl Bi ⟨jB.refl _,jB.refl _,jB.refl _,trivial,trivial⟩ ?_)
   |(refine eW hg.ok 2 rfl rfl ?_;refine pZ hg.cm 3 [(3,.d (.v (.int .u8 b))),(4,.lo 0 0),(5,.lo 1 0),(12,.d (.sl (Cs.aa all)))] [Ob.box [.d (.sl (Cs.aa l))],uF q,uF nf,.dead] rfl rfl Bi ⟨jB.refl _,jB.refl _,jB.refl _,trivial,trivial⟩ ?_)
   |(refine eW hg.ok 3 rfl rfl ?_;refine pZ hg.cm 3 [(3,.d (.v (.int .u8 b))),(4,.lo 0 0),(5,.lo 1 0),(12,.d (.sl (Cs.aa all)))] [Ob.box [.d (.sl (Cs.aa l))],uF q,uF nf,.dead] rfl rfl Bi ⟨jB.refl _,jB.refl _,jB.refl _,trivial,trivial⟩ ?_)
   refine ag ?_;refine hH 84 rfl (bJ.wrap (n:=(b:Int)) rfl aq aq) ?_;refine aA (ry hsq Wc Ek hfq hf (ab:=b) aq hs1) ?_;refine hH 93 rfl (bJ.wrap (n:=(b:Int)) rfl aq aq) ?_;refine aA (ry hsq arj ark hfq hf2 (ab:=b) aq nB) ?_;refine r7 ?_;refine aA (Jg s hsz hs1.len) ?_;refine r7 ?_;refine aA (lK) ?_;refine r7 ?_;refine bz ?_;rfl
theorem y9 (l:List Cs)(q:Cs)(dA:∀c∈l,c.Ok)(hq:q.Ok)(hb:l.length*88<=140737488351232)(a b:Int)(ha:0<=a/\a<256)(Ae:0<=b/\b<256):br Tryz.prog 3 [Al l,q.av,.d (.v (.int .u8 a)),.d (.v (.int .u8 b))] (bV true):=by have h:=Ar l q dA hq hb (λc hc=>abq (dA c hc)) (abq hq) a.toNat b.toNat aq aq;rw[show((a.toNat:Nat):Int)=a by omega,show((b.toNat:Nat):Int)=b by omega]at h;exact h
end Go.Proofs.YtmjmngigbachdaaGreatDoor

namespace ax
open Go
section
variable {ty:Nat->Option Ty} {T TT TG TS B:Nat} {n:Nat} {τ:Ty} {row:List D} {a:AV}
theorem VX {TC TP s:Nat}{τs τc:Ty}(hT:sG ty TT)(hG:vH ty TG TT)(hC:qg ty TC TT TG)(hB:B<=140737488355328)(hτ:ty TP=some τ)(eI:τ.sh=.struct [(0,s)])(hs:ty s=some τs)(Rk:τs.sh=.slice TC)(hc:ty TC=some τc)(h:c8 ty B n TP row)(ha:a=vB τ row):∃l:List Cs,a=Al l/\(∀x∈l,x.Ok)/\l.length<=140737488355328/\l.length*τc.bytes<=B:=by
 obtain⟨l,h1,h2,h3⟩:=YU hT hG hC hB hτ eI hs Rk h ha;refine⟨l,h1,h2,h3,?_⟩;cases n with
 |zero=>simp[c8]at h
 |succ n=>
  simp only[c8,hτ,eI,xf]at h;obtain⟨_,ra,_,g1,rfl,g2,g3,rfl⟩:=h;rw[hs]at g1;cases g1;cases n with
  |zero=>simp[c8]at g3
  |succ n=>
   obtain⟨aa,rfl,a8,_⟩:=tJ hs Rk g3;have hb:=a8 τc hc;have e:a=.agg [.d (.sl aa)]:=by rw[ha];unfold vB Ty.agg;rw[eI];rfl
   rw[h1]at e;unfold Al at e;simp only[AV.agg.injEq,List.cons.injEq,AV.d.injEq,D.sl.injEq,and_true]at e;rw[<-e,Cs.fD]at hb;exact hb
end
end ax
