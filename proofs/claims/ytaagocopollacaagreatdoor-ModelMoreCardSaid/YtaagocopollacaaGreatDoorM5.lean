import Derived.Test.YtaagocopollacaaGreatDoorM4
import Derived.Laws.StructEq
set_option maxRecDepth 100000
set_option maxHeartbeats 4000000
namespace aw
open Go Tm

theorem lZ {t:Tm}(h:GT t){f V:Nat}(ho:∀u∈cz t,0≤u∧u<V)(hs:f+V≤110000):qu t f=(dz f t,0):=by
 have Bp:cM [t]=true:=fN.2 fun x hx=>by rw[dh.1 hx];exact h.fair
 have hw:∀v∈cz t,IntKind.i64.wrap (v+(f:Int))=v+f:=fun v hv=>by
  have:=ho v hv;exact jL an an
 have dw:okF (bH [t]) f=true:=by
  unfold okF;rw[mS]
  left;simp only[aV,decide_eq_true_eq];refine⟨⟨by omega,by omega⟩,fk.2 fun v hv=>?_⟩;have hv:=(j7 Bp).1 hv;have hv:v∈cz t:=by simpa[ek]using hv
  unfold Nl;rw[hw v hv];have:=ho v hv;simp;omega
 rw[(Nn h.r dw).1];unfold dz;rw[rR _ t h.fair,rR _ t h.fair];congr 1;exact nr t fun v hv=>by rw[hw v hv]

inductive w7 (B:ak) (fr:Nat) (t:Tm):Nat→Nat→List Cs→Option (Nat × Cs × ak)→Nat→Prop
 |nil {i d:Nat}:w7 B fr t i d [] none d
 |skip {i d:Nat} {c:Cs} {l:List Cs} {res:Option (Nat × Cs × ak)} {d':Nat} (h:¬ (c.head.s=t.s∧c.head.l.length=t.l.length)) (r:w7 B fr t (i+1) d l res d'):w7 B fr t i d (c::l) res d'
 |fail {i d n:Nat} {X:ak} {c:Cs} {l:List Cs} {res:Option (Nat × Cs × ak)} {d':Nat} (h:c.head.s=t.s∧c.head.l.length=t.l.length) (hu:eN tZ 3000 t n [(t,dz fr c.head)] B [] (B++X) false) (hs:eB tZ (B++X)) (r:w7 B fr t (i+1) (X.length+d+1) l res d'):w7 B fr t i d (c::l) res d'
 |hit {i d n:Nat} {X:ak} {c:Cs} {l:List Cs} (h:c.head.s=t.s∧c.head.l.length=t.l.length) (hu:eN tZ 3000 t n [(t,dz fr c.head)] B [] (B++X) true) (hs:eB tZ (B++X)):w7 B fr t i d (c::l) (some (i,c,B++X)) d

def Mw (m:Mo)(t:Tr)(i:Nat)(c:Cs)(B':ak):Mo:={ m with B:=B',ag:=m.ag++[{ t with oW:=i+1 }],now:=bJ c.body m.az m.ag.length t.tY,az:=m.az+c.vars.toNat }
def amQ (m:Mo)(t:Tr)(res:Option (Nat × Cs × ak)):Option Mo:=res.map fun r=>Mw m t r.1 r.2.1 r.2.2

theorem Au {P:List Cs}{ab done:Nat}(hP:rk P){m:Mo}{t:Tr}(hs:eB tZ m.B)(hf:m.az=t.az){k:Nat}(ht:Ml P.length ab done k t)(ho:t.other=false):∀ (l:List Cs) (i d:Nat),P.drop i=l→∃res d',w7 m.B m.az t.call i d l res d'∧je m t i l=amQ m t res
 |[],i,d,_=>⟨none,d,.nil,by rw[je];rfl⟩
 |c::r,i,d,hi=>by
  have hmem:c∈P:=Wf (i:=i) (by rw[hi];simp);have hc:=hP.cls c hmem;have hr:P.drop (i+1)=r:=by rw[← List.drop_drop,hi];rfl
  obtain⟨g1,g2,g3,g4⟩:=Aq hs ht ho hc;rw[← hf]at g1 g2;rw[je];by_cases hh:c.head.s=t.call.s∧c.head.l.length=t.call.l.length
  ·rw [if_pos hh];obtain⟨n,X,ok,h1,h2,h3⟩:=HB hs g3 g1 g4 g2;rw[h2];cases ok with
   |true=>exact⟨_,_,.hit hh h1 h3,rfl⟩
   |false =>
    obtain⟨res,d',k1,k2⟩:=Au hP hs hf ht ho r (i+1) (X.length+d+1) hr;exact⟨res,d',.fail hh h1 h3 k1,k2⟩
  ·rw [if_neg hh];obtain⟨res,d',k1,k2⟩:=Au hP hs hf ht ho r (i+1) d hr;exact⟨res,d',.skip hh k1,k2⟩
end aw

namespace Go.Proofs.YtaagocopollacaaGreatDoor
open Go aw Go.Proofs
def xy (t:Tr)(z:D):List AV:=[iV t.mark,iV t.az,.d (.v (.int .i64 t.call.k)),.d (.v (.string t.call.s)),.d (.v (.int .i64 t.call.n)),.d (.sl (Tm.aa t.call.l)),iV t.oW,.d z,bV t.other]
def OK (c:Cs):Ob:=.box [.d (.v (.int .i64 c.head.k)),.d (.v (.string c.head.s)),.d (.v (.int .i64 c.head.n)),.d (.sl (Tm.aa c.head.l)),.d (.sl (Gl.aa c.body)),.d (.v (.int .i64 c.vars))]
def dm (P:List Cs)(hd:Tm)(ab:Nat)(m:Mo)(d v:Nat):List Ob:=sx P hd m.az v (gn m.now) ab m.done m.aD.length d m.B m.ag m.aD

def ox (P:List Cs) (hd:Tm) (ab:Nat) (m:Mo) (t:Tr) (d v:Nat):Option (Nat × Cs × ak)→List Ob
 |none=>dm P hd ab m d v
 |some (i,c,B')=>sx P hd ((m.az+c.vars.toNat:Nat):Int) (Nat.succ v) (gn (bJ c.body m.az m.ag.length t.tY)) ab m.done m.aD.length d B' (m.ag++[{ t with oW:=i+1 }]) m.aD
def amR:Nat→cC:=fun f=>bif Nat.beq f 29 then .still else bif Nat.beq f 13 then .still else .ji

theorem acS (i j k:Nat)(d:Nat)(B:ak)(n:Nat):(cv d B).map (bz (rn [i,j,k] n))=[.box [.mp j,.ow k (B.length+d)],.map (cn (ub B)),.arr 1 (B.length+d) (di (B.map (·.1)))]:=by
 have e:(bz (rn [i,j,k] n))=aQ (c8 (rn [i,j,k] n)):=by funext o;cases o<;>simp[bz,aQ,gF]
 rw[e];simp only[cv,List.map_cons,fj];rw[dJ (fun t=>rfl)];rfl
theorem mR (d:Nat)(B:ak)(n:Nat):(cv d B).map (bz (rn [1,2,3] n))=mcS d B:=acS 1 2 3 d B n
theorem tD (l:List Tr)(t:Tr):l.map Tr.row++[[.v (.int .i64 t.mark),.v (.int .i64 t.az),.v (.int .i64 t.call.k),.v (.string t.call.s),.v (.int .i64 t.call.n),.sl (Tm.aa t.call.l),.v (.int .i64 t.oW),gn t.tY,.v (.bool t.other)]]=(l++[t]).map Tr.row:=by simp[Tr.row]

theorem sJ (P:List Cs)(hd:Tm)(ab:Nat)(m:Mo)(d v:Nat)(t:Tr)(z:D):(dm P hd ab m d v++[Ob.box (xy t z)]).map (aQ (dA 7))=dm P hd ab m d v++[Ob.box (xy t z)]:=by
 rw[List.map_append];have h:(dm P hd ab m d v).map (aQ (dA 7))=dm P hd ab m d v:=tC _ P hd m.az v m.now ab m.done m.aD.length d m.B m.ag m.aD (fun _ _=>rfl) (fun _ _ _=>⟨rfl,rfl⟩) cF ⟨rfl,rfl,fun _=>⟨rfl,rfl,rfl⟩⟩ fun _=>rfl
 rw[h];rfl

theorem vk (Y:YP){P:List Cs}(hP:rk P)(hd:Tm)(ab:Nat){m:Mo}(hs:eB tZ m.B){t:Tr}(hf:m.az=t.az){done k0:Nat}(ht:Ml P.length ab done k0 t)(ho:t.other=false)(hT:m.ag.length≤1000000){res:Option (Nat × Cs × ak)}{d d':Nat}(v:Nat)(g1:Gl)(s1 o1:Int)(z1:D)(hz:gn t.tY=.bG (aX g1 s1 o1 z1))(hD:w7 m.B m.az t.call t.oW d (P.drop t.oW) res d') :
  aU Tryz.prog Y 35 [.lo 0 0,.agg (xy t (.bG (aX g1 s1 o1 z1)))] (dm P hd ab m d v) (bV res.isSome) (ox P hd ab m t d' v res):=by
 have hPl:=hP.len;have hrP:(Cs.aa P).length=P.length:=by unfold Cs.aa;rw[eS]
 refine aU.ej (pf:=amR) gK mixed Tryz.func35 rfl cX cX (by simp[Tryz.ntmps35]) (by cases res<;>simp[dm,sx,mcS,ox]) fun w S φ hg=>?_
 have hφ:φ.length=6:=hg.j5.len;refine af ?_;refine bh (fun x:Nat × Nat=>([(0,.lo 0 0),(3,.lo 6 0),(5,iV x.1)],dm P hd ab m x.2 v++[.box (xy t (.bG (aX g1 s1 o1 z1)))])) (fun x=>x.1≤P.length∧w7 m.B m.az t.call x.1 x.2 (P.drop x.1) res d') (fun x=>P.length - x.1) (t.oW,d) ⟨ht.oW,hD⟩ uC rfl ?_;rintro⟨i,d1⟩ ⟨hi,hc⟩;simp only at hi hc;show R _ _ _ _ [(0,.lo 0 0),(3,.lo 6 0),(5,iV i)] (dm P hd ab m d1 v++[.box (xy t (.bG (aX g1 s1 o1 z1)))])
 refine af ?_;refine aj (fun h=>?_) fun h=>?_
 ·have mJ:i<P.length:=bK h (by rw [hrP]);have e1:P[i]? = some P[i]:=dY mJ;have hmem:=eg mJ;have HE:=hP.cls _ hmem;have e2:P.drop i=P[i]::P.drop (i+1):=List.drop_eq_getElem_cons mJ;rw[e2]at hc;generalize P[i]=c at e1 HE hc;have hrc:=Tm.au c.head.l;have hrt:=Tm.au t.call.l;refine cW (Cs.aB e1) ?_;refine aj (fun h1=>?_) fun h1=>?_
  ·have h1:¬ c.head.s=t.call.s:=fun e=>by rw [Tm.bo.2 e] at h1; simp at h1
   cases hc with
   |skip _ hr =>
    refine adm ?_;exact aaz
   |fail hh=>exact absurd hh.1 h1
   |hit hh=>exact absurd hh.1 h1
  have h1:c.head.s=t.call.s:=Tm.bo.1 MA;refine aj (fun h2=>?_) fun h2=>?_
  ·have h2:¬ c.head.l.length=t.call.l.length:=fun e=>by rw [hrc,hrt,e] at h2; simp at h2
   cases hc with
   |skip _ hr =>
    refine adm ?_;exact aaz
   |fail hh=>exact absurd hh.2 h2
   |hit hh=>exact absurd hh.2 h2
  have h2:c.head.l.length=t.call.l.length:=by
   rw[hrc,hrt]at h2;have h3:(c.head.l.length:Int)=t.call.l.length:=by simpa using h2
   omega
  have hfr:=ht.fr;have x7:=ht.p1;rw[ho]at x7;simp only[lL,if_false]at x7;have hv:=HE.v;have hv0:=HE.v0;have eE:=lT c.head (m.az:Int) HE.head.iw.1 (HE.head.iC 1);rw[lZ HE.head HE.ho an]at eE;obtain⟨q1,q2,q3,q4⟩:=Aq hs ht ho HE;rw[← hf]at q1 q2;generalize hu0:dz m.az c.head=u at eE q1 q2;refine aF (eE) ?_;cases hc with
  |skip hh=>exact absurd ⟨h1,h2⟩ hh
  |@fail _ _ n X _ _ _ _ _ hu mn hr =>
   have aZ:=mn.len;rw[sP]at aZ;rw[hu0]at hu;refine ai hg.ok hg.cm hg.wide hg.Y [1,2,3] (dm P hd ab m (X.length+d1+1) v++[.box (xy t (.bG (aX g1 s1 o1 z1))),OK c,aP u]) (mP Y d1 DD an DD m.B X false t.call u n hu mn.ug.chain.nodup an q3.r q1.r (q3.iC 1) (q1.iC 1)) cF rfl rfl rfl rfl rfl AG rfl (by unfold Lm;rw[if_neg aC,mR];rfl) (af ?_);refine oS ?_;refine bb 7 (dm P hd ab m (X.length+d1+1) v++[Ob.box (xy t (.bG (aX g1 s1 o1 z1)))]) V3 rfl (sJ P hd ab m (X.length+d1+1) v t (.bG (aX g1 s1 o1 z1))) ?_;exact ajV
  |@hit _ _ n X _ _ _ hu mn =>
   have aZ:=mn.len;rw[sP]at aZ;rw[hu0]at hu;refine ai hg.ok hg.cm hg.wide hg.Y [1,2,3] (sx P hd m.az v (gn m.now) ab m.done m.aD.length d' (m.B++X) m.ag m.aD++[.box (xy t (.bG (aX g1 s1 o1 z1))),OK c,aP u]) (mP Y d' DD an DD m.B X true t.call u n hu mn.ug.chain.nodup an q3.r q1.r (q3.iC 1) (q1.iC 1)) cF rfl rfl rfl rfl rfl AG rfl (by unfold Lm;rw[if_pos rfl,mR];rfl) (af ?_);refine gu ?_;have xB:(m.ag.map Tr.row).length=m.ag.length:=eS _;have hwi:IntKind.i64.wrap ((i:Int)+1)=((i+1:Nat):Int):=(sK an an).trans (by push_cast;rfl);have hwf:IntKind.i64.wrap ((m.az:Int)+c.vars)=((m.az+c.vars.toNat:Nat):Int):=(sK an an).trans zu;have kh:=lu c.body m.az m.ag.length t.tY (by have:=HE.Oe;omega);rw[hz]at kh;refine Dz ?_;refine dp hg.ok ((m.ag++[{ t with oW:=i+1 }]).map Tr.row) rfl rfl rfl rfl rfl rfl rfl rfl rfl (by simp[aX]) Si ?_ zt zt ?_
   ·rw[← tD,hz,hwi]
   refine af ?_;have Fz:=gX (bJ c.body m.az m.ag.length t.tY)
   have iI:∀z,gn (bJ c.body m.az m.ag.length t.tY)=z→ox P hd ab m t d' v (some (i,c,m.B++X))=sx P hd (IntKind.i64.wrap ((m.az:Int)+c.vars)) (Nat.succ v) z ab m.done m.aD.length d' (m.B++X) (m.ag++[{ t with oW:=i+1 }]) m.aD:=fun z h=>by
    rw[hwf,← h];rfl
   rcases Fz with ⟨g2,s2,o2,z2,hp⟩ |hp
   all_goals
    rw[hp]at kh;refine aF (kh) ?_;refine PD ?_;rw[iI _ hp]
   ·exact ad2
   ·exact aeh
 ·have mJ:P.length≤i:=by
   have h:=of_decide_eq_false h;rw[hrP]at h;omega
  rw[gD mJ]at hc;cases hc;exact adL

theorem vl (Y:YP){P:List Cs}(hP:rk P)(hd:Tm)(ab:Nat){m:Mo}(hs:eB tZ m.B){t:Tr}(hf:m.az=t.az){done k0:Nat}(ht:Ml P.length ab done k0 t)(ho:t.other=false)(hT:m.ag.length≤1000000){res:Option (Nat × Cs × ak)}{d d':Nat}(v:Nat)(g1:Gl)(s1 o1:Int)(z1:D)(hz:gn t.tY=.v (.pointer none))(hD:w7 m.B m.az t.call t.oW d (P.drop t.oW) res d') :
  aU Tryz.prog Y 35 [.lo 0 0,.agg (xy t (.v (.pointer none)))] (dm P hd ab m d v) (bV res.isSome) (ox P hd ab m t d' v res):=by
 have hPl:=hP.len;have hrP:(Cs.aa P).length=P.length:=by unfold Cs.aa;rw[eS]
 refine aU.ej (pf:=amR) gK mixed Tryz.func35 rfl cX cX (by simp[Tryz.ntmps35]) (by cases res<;>simp[dm,sx,mcS,ox]) fun w S φ hg=>?_
 have hφ:φ.length=6:=hg.j5.len;refine af ?_;refine bh (fun x:Nat × Nat=>([(0,.lo 0 0),(3,.lo 6 0),(5,iV x.1)],dm P hd ab m x.2 v++[.box (xy t (.v (.pointer none)))])) (fun x=>x.1≤P.length∧w7 m.B m.az t.call x.1 x.2 (P.drop x.1) res d') (fun x=>P.length - x.1) (t.oW,d) ⟨ht.oW,hD⟩ uC rfl ?_;rintro⟨i,d1⟩ ⟨hi,hc⟩;simp only at hi hc;show R _ _ _ _ [(0,.lo 0 0),(3,.lo 6 0),(5,iV i)] (dm P hd ab m d1 v++[.box (xy t (.v (.pointer none)))])
 refine af ?_;refine aj (fun h=>?_) fun h=>?_
 ·have mJ:i<P.length:=bK h (by rw [hrP]);have e1:P[i]? = some P[i]:=dY mJ;have hmem:=eg mJ;have HE:=hP.cls _ hmem;have e2:P.drop i=P[i]::P.drop (i+1):=List.drop_eq_getElem_cons mJ;rw[e2]at hc;generalize P[i]=c at e1 HE hc;have hrc:=Tm.au c.head.l;have hrt:=Tm.au t.call.l;refine cW (Cs.aB e1) ?_;refine aj (fun h1=>?_) fun h1=>?_
  ·have h1:¬ c.head.s=t.call.s:=fun e=>by rw [Tm.bo.2 e] at h1; simp at h1
   cases hc with
   |skip _ hr =>
    refine ado ?_;exact aaz
   |fail hh=>exact absurd hh.1 h1
   |hit hh=>exact absurd hh.1 h1
  have h1:c.head.s=t.call.s:=Tm.bo.1 MA;refine aj (fun h2=>?_) fun h2=>?_
  ·have h2:¬ c.head.l.length=t.call.l.length:=fun e=>by rw [hrc,hrt,e] at h2; simp at h2
   cases hc with
   |skip _ hr =>
    refine ado ?_;exact aaz
   |fail hh=>exact absurd hh.2 h2
   |hit hh=>exact absurd hh.2 h2
  have h2:c.head.l.length=t.call.l.length:=by
   rw[hrc,hrt]at h2;have h3:(c.head.l.length:Int)=t.call.l.length:=by simpa using h2
   omega
  have hfr:=ht.fr;have x7:=ht.p1;rw[ho]at x7;simp only[lL,if_false]at x7;have hv:=HE.v;have hv0:=HE.v0;have eE:=lT c.head (m.az:Int) HE.head.iw.1 (HE.head.iC 1);rw[lZ HE.head HE.ho an]at eE;obtain⟨q1,q2,q3,q4⟩:=Aq hs ht ho HE;rw[← hf]at q1 q2;generalize hu0:dz m.az c.head=u at eE q1 q2;refine aF (eE) ?_;cases hc with
  |skip hh=>exact absurd ⟨h1,h2⟩ hh
  |@fail _ _ n X _ _ _ _ _ hu mn hr =>
   have aZ:=mn.len;rw[sP]at aZ;rw[hu0]at hu;refine ai hg.ok hg.cm hg.wide hg.Y [1,2,3] (dm P hd ab m (X.length+d1+1) v++[.box (xy t (.v (.pointer none))),OK c,aP u]) (mP Y d1 DD an DD m.B X false t.call u n hu mn.ug.chain.nodup an q3.r q1.r (q3.iC 1) (q1.iC 1)) cF rfl rfl rfl rfl rfl AG rfl (by unfold Lm;rw[if_neg aC,mR];rfl) (af ?_);refine oS ?_;refine bb 7 (dm P hd ab m (X.length+d1+1) v++[Ob.box (xy t (.v (.pointer none)))]) V3 rfl (sJ P hd ab m (X.length+d1+1) v t (.v (.pointer none))) ?_;exact ajV
  |@hit _ _ n X _ _ _ hu mn =>
   have aZ:=mn.len;rw[sP]at aZ;rw[hu0]at hu;refine ai hg.ok hg.cm hg.wide hg.Y [1,2,3] (sx P hd m.az v (gn m.now) ab m.done m.aD.length d' (m.B++X) m.ag m.aD++[.box (xy t (.v (.pointer none))),OK c,aP u]) (mP Y d' DD an DD m.B X true t.call u n hu mn.ug.chain.nodup an q3.r q1.r (q3.iC 1) (q1.iC 1)) cF rfl rfl rfl rfl rfl AG rfl (by unfold Lm;rw[if_pos rfl,mR];rfl) (af ?_);refine gu ?_;have xB:(m.ag.map Tr.row).length=m.ag.length:=eS _;have hwi:IntKind.i64.wrap ((i:Int)+1)=((i+1:Nat):Int):=(sK an an).trans (by push_cast;rfl);have hwf:IntKind.i64.wrap ((m.az:Int)+c.vars)=((m.az+c.vars.toNat:Nat):Int):=(sK an an).trans zu;have kh:=lu c.body m.az m.ag.length t.tY (by have:=HE.Oe;omega);rw[hz]at kh;refine Dz ?_;refine dp hg.ok ((m.ag++[{ t with oW:=i+1 }]).map Tr.row) rfl rfl rfl rfl rfl rfl rfl rfl rfl (by simp[aX]) Si ?_ zt zt ?_
   ·rw[← tD,hz,hwi]
   refine af ?_;have Fz:=gX (bJ c.body m.az m.ag.length t.tY)
   have iI:∀z,gn (bJ c.body m.az m.ag.length t.tY)=z→ox P hd ab m t d' v (some (i,c,m.B++X))=sx P hd (IntKind.i64.wrap ((m.az:Int)+c.vars)) (Nat.succ v) z ab m.done m.aD.length d' (m.B++X) (m.ag++[{ t with oW:=i+1 }]) m.aD:=fun z h=>by
    rw[hwf,← h];rfl
   rcases Fz with ⟨g2,s2,o2,z2,hp⟩ |hp
   all_goals
    rw[hp]at kh;refine aF (kh) ?_;refine PD ?_;rw[iI _ hp]
   ·exact ad2
   ·exact aeh
 ·have mJ:P.length≤i:=by
   have h:=of_decide_eq_false h;rw[hrP]at h;omega
  rw[gD mJ]at hc;cases hc;exact adL
end Go.Proofs.YtaagocopollacaaGreatDoor

namespace aw
open Go Tm
def kP (m:Mo)(t:Tr):Mo:={ m with ag:=m.ag.dropLast,B:=m.B.take t.mark,az:=t.az }
def D7 (m:Mo)(t:Tr)(d:Nat):Nat:=(m.B.drop t.mark).length+d+1

inductive sy (P:List Cs):Mo→Nat→Nat→Bool→Mo→Nat→Nat→Prop
 |last {m:Mo} {d v:Nat} (h:m.ag=[]):sy P m d v false { m with aD:=m.aD++[r8] } d v
 |other {m:Mo} {d v:Nat} {t:Tr} (hl:m.ag.getLast? = some t) (ho:t.other=true):sy P m d v true { kP m t with now:=t.tY } (D7 m t d) (v+1)
 |hit {m:Mo} {d v d' i:Nat} {t:Tr} {c:Cs} {B':ak} (hl:m.ag.getLast? = some t) (ho:t.other=false) (hc:w7 (kP m t).B (kP m t).az t.call t.oW (D7 m t d) (P.drop t.oW) (some (i,c,B')) d'):sy P m d v true (Mw (kP m t) t i c B') d' (v+2)
 |UJ {m m':Mo} {d v d' d'' v'':Nat} {t:Tr} {r:Bool} (hl:m.ag.getLast? = some t) (ho:t.other=false) (hc:w7 (kP m t).B (kP m t).az t.call t.oW (D7 m t d) (P.drop t.oW) none d') (hr:sy P (kP m t) d' (v+1) r m' d'' v''):sy P m d v r m' d'' v''

theorem LB {P:List Cs}{ab:Nat}(hP:rk P):∀ (k:Nat) (m:Mo) (d v:Nat),m.ag.length=k→BI P.length ab m→∃d' v',sy P m d v (jh P k m).2 (jh P k m).1 d' v'
 |0,m,d,v,hk,_=>⟨d,v,by rw[jh];exact .last (jy.1 hk)⟩
 |k+1,m,d,v,hk,hb=>by
  have eo:m.ag≠[]:=fun e=>by rw[e]at hk;cases hk
  cases hl:m.ag.getLast? with
  |none=>exact absurd (List.getLast?_eq_none_iff.1 hl) eo
  |some t =>
   have hp:=hb.pop hl;rw[jh,hl];simp only;by_cases ho:t.other=true
   ·rw [if_pos ho];exact⟨_,_,.other hl ho⟩
   ·rw [if_neg ho];have ho:t.other=false:=by simpa using ho
    obtain⟨res,d',h1,h2⟩:=Au hP (m:=kP m t) hp.b.sv rfl hp.tg ho (P.drop t.oW) t.oW (D7 m t d) rfl;have h2:je { m with ag:=m.ag.dropLast,B:=m.B.take t.mark,az:=t.az } t t.oW (P.drop t.oW)=amQ (kP m t) t res:=h2;rw[h2];cases res with
    |some x =>
     obtain⟨i,c,B'⟩:=x;exact⟨_,_,.hit hl ho h1⟩
    |none =>
     obtain⟨d2,v2,h3⟩:=LB hP k (kP m t) d' (v+1) (by show m.ag.dropLast.length=k;rw[P3];omega) hp.b;exact⟨d2,v2,.UJ hl ho h1 h3⟩
theorem HF {P:List Cs}{ab:Nat}(hP:rk P){m:Mo}(d v:Nat)(hb:BI P.length ab m):∃d' v',sy P m d v (ep P m).2 (ep P m).1 d' v':=LB hP _ m d v rfl hb
end aw

namespace Go.Proofs.YtaagocopollacaaGreatDoor
open Go aw Go.Proofs

theorem acT (n:Nat)(P:List Cs)(hd:Tm)(fr:Int)(v:Nat)(l:List Td)(ab:Nat)(dn:Int)(sl:Nat)(d:Nat)(B:ak)(T:List Tr)(S:List Ev):(sx P hd fr v (gn l) ab dn sl d B T S).map (bz (rn [0,1,2,3,4,5] n))=sx P hd fr v (gn l) ab dn sl d B T S:=by
 have e:(bz (rn [0,1,2,3,4,5] n))=aQ (c8 (rn [0,1,2,3,4,5] n)):=by funext o;cases o<;>simp[bz,aQ,gF]
 rw[e];exact tC _ P hd fr v l ab dn sl d B T S (fun z h=>by rcases h with ⟨_,_,_,_,rfl⟩ |rfl<;>rfl) (fun _ _ _=>⟨rfl,rfl⟩) cF ⟨rfl,rfl,fun _=>⟨rfl,rfl,rfl⟩⟩ fun _=>rfl
theorem dP (n:Nat)(P:List Cs)(hd:Tm)(ab:Nat)(m:Mo)(d v:Nat):(dm P hd ab m d v).map (bz (rn [0,1,2,3,4,5] n))=dm P hd ab m d v:=acT n P hd m.az v m.now ab m.done m.aD.length d m.B m.ag m.aD
theorem VI (P:List Cs)(hd:Tm)(ab:Nat)(m:Mo)(d v:Nat):(dm P hd ab m d v).map (aQ (dA 6))=dm P hd ab m d v:=Zu P hd m.az v m.now ab m.done m.aD.length d m.B m.ag m.aD
theorem kn (P:List Cs)(hd:Tm)(ab:Nat)(m:Mo)(d v:Nat)(o:List Ob):(dm P hd ab m d v).map (aQ (bQ false 6 o 5))=dm P hd ab m d v:=vE P hd m.az v m.now ab m.done m.aD.length d m.B m.ag m.aD o
theorem sH (Y:YP)(P:List Cs)(hd:Tm)(ab:Nat)(m:Mo)(hm:m.aD.length<1000000000000)(d v:Nat)(e:Ev):aU Tryz.prog Y 33 [.lo 0 0,evA e] (dm P hd ab m d v) (bV (e.k==1 || e.k==2)) (dm P hd ab { m with aD:=m.aD++[e] } d v):=Zw Y P hd ab m hm d v e
theorem CX (P:List Cs)(hd:Tm)(ab:Nat)(m:Mo)(t:Tr)(d v i:Nat)(c:Cs)(B':ak):ox P hd ab m t d v (some (i,c,B'))=dm P hd ab (Mw m t i c B') d (v+1):=rfl
theorem tE (k c:Int)(s:ByteArray):bM (.agg [.d (.v (.int .i64 k)),.d (.v (.string s)),.d (.v (.slice none 0 0)),.d (.v (.int .i64 c))]) (evA ⟨k,s,[],c⟩):=bM.agg ⟨.refl _,.refl _,bM.nil,.refl _,trivial⟩
def apG:Nat→cC:=fun f=>bif Nat.beq f 4000000004 then .bO 1 else .ji

theorem LC (Y:YP)(d:Nat){B:ak}(k:Nat)(hk:k≤B.length)(hs:eB tZ B):aU Tryz.prog Y 61 [.lo 0 0,iV k] (cv d B) (iV 0) (cv ((B.drop k).length+d+1) (B.take k)):=by
 have hl:=hs.len;rw[sP]at hl;have h:=vj Y d (B.take k) (B.drop k) (by rw[List.take_append_drop];exact hs.ug.chain.nodup) (by rw[List.take_append_drop];omega);rw[List.take_append_drop,show (B.take k).length=k by rw[zz];omega]at h;exact h

theorem HG (Y:YP){P:List Cs}(hP:rk P)(hd:Tm)(ab:Nat){m0 m':Mo}(hb0:BI P.length ab m0)(hT0:m0.ag.length≤1000000)(hS0:m0.aD.length<1000000000000){d0 v0 d' v':Nat}{r:Bool}(hD0:sy P m0 d0 v0 r m' d' v') :
  aU Tryz.prog Y 37 [.lo 0 0] (dm P hd ab m0 d0 v0) (bV r) (dm P hd ab m' d' v'):=by
 refine aU.ej (pf:=apG) gK mixed Tryz.func37 rfl cX cX (by simp[Tryz.ntmps37]) (by simp[dm,sx,mcS]) fun w S φ hg=>?_
 have hφ:φ.length=6:=hg.j5.len;refine af ?_;refine bh (fun x:Mo × Nat × Nat=>([(0,.lo 0 0)],dm P hd ab x.1 x.2.1 x.2.2)) (fun x=>BI P.length ab x.1∧x.1.ag.length≤1000000∧x.1.aD.length<1000000000000∧sy P x.1 x.2.1 x.2.2 r m' d' v') (fun x=>x.1.ag.length) (m0,d0,v0) ⟨hb0,hT0,hS0,hD0⟩ Sf rfl ?_;rintro⟨m,d,v⟩ ⟨hb,hT,hS,hD⟩;simp only at hb hT hS hD;show R _ _ _ _ [(0,.lo 0 0)] (dm P hd ab m d v)
 have xB:(m.ag.map Tr.row).length=m.ag.length:=eS _;refine af ?_;refine Dz ?_;refine aj (fun h=>?_) fun h=>?_
 ·have h0:0<m.ag.length:=by have:=of_decide_eq_true h; omega
  have eo:m.ag≠[]:=fun e=>by rw[e]at h0;simp at h0
  obtain⟨t,hl⟩:∃t,m.ag.getLast? = some t:=by
   cases hl:m.ag.getLast? with
   |none=>exact absurd (List.getLast?_eq_none_iff.1 hl) eo
   |some t=>exact⟨t,rfl⟩
  have hp:=hb.pop hl
  have gL:(m.ag.map Tr.row)[m.ag.length - 1]? = some (Tr.row t):=by
   rw[eU,← List.getLast?_eq_getElem?,hl];rfl
  have mJ:((m.ag.length:Int) - 1).toNat=m.ag.length - 1:=by omega
  have P7:IntKind.i64.wrap ((m.ag.length:Int) - 1)=(m.ag.length:Int) - 1:=sK an an;have hmk:t.mark≤m.B.length:=by have:=hp.mrk;rw[zz]at this;omega
  refine Dz ?_;refine gN 19 rfl (bM.wrap (n:=((m.ag.length:Int) - 1)) rfl an an) ?_;refine ry hg.ok rfl rfl rfl rfl rfl rfl rfl rfl rfl an (by rw[xB,mJ];omega) (af ?_);rw[mJ];rcases gX t.tY with ⟨g1,s1,o1,z1,hz⟩ |hz
  ·have gL:(m.ag.map Tr.row)[m.ag.length - 1]? = some [.v (.int .i64 t.mark),.v (.int .i64 t.az),.v (.int .i64 t.call.k),.v (.string t.call.s),.v (.int .i64 t.call.n),.sl (Tm.aa t.call.l),.v (.int .i64 t.oW),.bG (aX g1 s1 o1 z1),.v (.bool t.other)]:=by rw [gL,Tr.row,hz]
   refine Py ?_;refine Dz ?_;refine aef ?_;refine adh ?_;refine ai hg.ok hg.cm hg.wide hg.Y [1,2,3] (sx P hd m.az (v+1) (gn m.now) ab m.done m.aD.length (D7 m t d) (m.B.take t.mark) m.ag.dropLast m.aD++[Ob.box (xy t (.bG (aX g1 s1 o1 z1)))]) (LC Y d t.mark hmk hb.sv) cF rfl rfl rfl rfl rfl AG rfl AG (af ?_);refine aj (fun ho=>?_) fun ho=>?_
   ·cases hD with
    |last h=>exact absurd h eo
    |@other _ _ _ t2 j3 rM =>
     obtain rfl:t=t2:=by rw[hl]at j3;exact Option.some.inj j3
     refine PD ?_;have e:dm P hd ab { kP m t with now:=t.tY } (D7 m t d) (v+1)=sx P hd t.az (v+1) (.bG (aX g1 s1 o1 z1)) ab m.done m.aD.length (D7 m t d) (m.B.take t.mark) m.ag.dropLast m.aD:=by rw[← hz];rfl
     rw[e];exact im P hd t.az (v+1) (.bG (aX g1 s1 o1 z1)) (.inl ⟨_,_,_,_,rfl⟩) ab m.done m.aD.length _ _ _ m.aD _
    |hit j3 rM=>rw[hl]at j3;cases j3;rw[ho]at rM;cases rM
    |UJ j3 rM=>rw[hl]at j3;cases j3;rw[ho]at rM;cases rM
   ·have hTp:(kP m t).ag.length≤1000000:=by show m.ag.dropLast.length≤_; rw [P3]; omega
    cases hD with
    |last h=>exact absurd h eo
    |other j3 rM=>rw[hl]at j3;cases j3;rw[ho]at rM;cases rM
    |@hit _ _ _ d2 i t2 c B2 j3 rM hc =>
     obtain rfl:t=t2:=by rw[hl]at j3;exact Option.some.inj j3
     refine ai hg.ok hg.cm hg.wide hg.Y [0,1,2,3,4,5] (dm P hd ab (Mw (kP m t) t i c B2) d' (v+2)++[Ob.box (xy t (.bG (aX g1 s1 o1 z1)))]) (vk Y hP hd ab (m:=kP m t) hp.b.sv rfl hp.tg ho hTp (v+1) g1 s1 o1 z1 hz hc) cF rfl rfl rfl rfl rfl p9 rfl (by rw[CX,dP];rfl) (af ?_);refine oS ?_;exact ad0
    |@UJ _ _ _ _ d2 _ _ t2 _ j3 rM hc hr =>
     obtain rfl:t=t2:=by rw[hl]at j3;exact Option.some.inj j3
     refine ai hg.ok hg.cm hg.wide hg.Y [0,1,2,3,4,5] (dm P hd ab (kP m t) d2 (v+1)++[Ob.box (xy t (.bG (aX g1 s1 o1 z1)))]) (vk Y hP hd ab (m:=kP m t) hp.b.sv rfl hp.tg ho hTp (v+1) g1 s1 o1 z1 hz hc) cF rfl rfl rfl rfl rfl p9 rfl ajZ (af ?_);refine gu ?_;refine adJ ?_;exact adw
  ·have gL:(m.ag.map Tr.row)[m.ag.length - 1]? = some [.v (.int .i64 t.mark),.v (.int .i64 t.az),.v (.int .i64 t.call.k),.v (.string t.call.s),.v (.int .i64 t.call.n),.sl (Tm.aa t.call.l),.v (.int .i64 t.oW),.v (.pointer none),.v (.bool t.other)]:=by rw [gL,Tr.row,hz]
   refine Py ?_;refine Dz ?_;refine aef ?_;refine adh ?_;refine ai hg.ok hg.cm hg.wide hg.Y [1,2,3] (sx P hd m.az (v+1) (gn m.now) ab m.done m.aD.length (D7 m t d) (m.B.take t.mark) m.ag.dropLast m.aD++[Ob.box (xy t (.v (.pointer none)))]) (LC Y d t.mark hmk hb.sv) cF rfl rfl rfl rfl rfl AG rfl AG (af ?_);refine aj (fun ho=>?_) fun ho=>?_
   ·cases hD with
    |last h=>exact absurd h eo
    |@other _ _ _ t2 j3 rM =>
     obtain rfl:t=t2:=by rw[hl]at j3;exact Option.some.inj j3
     refine PD ?_;have e:dm P hd ab { kP m t with now:=t.tY } (D7 m t d) (v+1)=sx P hd t.az (v+1) (.v (.pointer none)) ab m.done m.aD.length (D7 m t d) (m.B.take t.mark) m.ag.dropLast m.aD:=by rw[← hz];rfl
     rw[e];exact im P hd t.az (v+1) (.v (.pointer none)) (.inr rfl) ab m.done m.aD.length _ _ _ m.aD _
    |hit j3 rM=>rw[hl]at j3;cases j3;rw[ho]at rM;cases rM
    |UJ j3 rM=>rw[hl]at j3;cases j3;rw[ho]at rM;cases rM
   ·have hTp:(kP m t).ag.length≤1000000:=by show m.ag.dropLast.length≤_; rw [P3]; omega
    cases hD with
    |last h=>exact absurd h eo
    |other j3 rM=>rw[hl]at j3;cases j3;rw[ho]at rM;cases rM
    |@hit _ _ _ d2 i t2 c B2 j3 rM hc =>
     obtain rfl:t=t2:=by rw[hl]at j3;exact Option.some.inj j3
     refine ai hg.ok hg.cm hg.wide hg.Y [0,1,2,3,4,5] (dm P hd ab (Mw (kP m t) t i c B2) d' (v+2)++[Ob.box (xy t (.v (.pointer none)))]) (vl Y hP hd ab (m:=kP m t) hp.b.sv rfl hp.tg ho hTp (v+1) aM 0 0 (.v (.pointer none)) hz hc) cF rfl rfl rfl rfl rfl p9 rfl (by rw[CX,dP];rfl) (af ?_);refine oS ?_;exact ad0
    |@UJ _ _ _ _ d2 _ _ t2 _ j3 rM hc hr =>
     obtain rfl:t=t2:=by rw[hl]at j3;exact Option.some.inj j3
     refine ai hg.ok hg.cm hg.wide hg.Y [0,1,2,3,4,5] (dm P hd ab (kP m t) d2 (v+1)++[Ob.box (xy t (.v (.pointer none)))]) (vl Y hP hd ab (m:=kP m t) hp.b.sv rfl hp.tg ho hTp (v+1) aM 0 0 (.v (.pointer none)) hz hc) cF rfl rfl rfl rfl rfl p9 rfl ajZ (af ?_);refine gu ?_;refine adJ ?_;exact adw
 ·have h0:m.ag=[]:=jy.1 (by have:=of_decide_eq_false h; omega);refine gN 59 rfl (tE 4 0 ByteArray.empty) ?_;refine ai hg.ok hg.cm hg.wide hg.Y [0,1,2,3,4,5] (dm P hd ab { m with aD:=m.aD++[r8] } d v) (sH Y P hd ab m hS d v r8) cF rfl rfl rfl rfl rfl p9 rfl p9 (af ?_);cases hD with
  |last _=>exact aK hg 6 5 cP rfl rfl (kn P hd ab { m with aD:=m.aD++[r8] } _ _ _)
  |other j3=>rw[h0]at j3;cases j3
  |hit j3=>rw[h0]at j3;cases j3
  |UJ j3=>rw[h0]at j3;cases j3
end Go.Proofs.YtaagocopollacaaGreatDoor

namespace aw
open Go Go.RowKit
section
variable {g:G} {pf:Nat→cC} {ad:Array Oper} {Fin:Exit→Act→World→Prop}

theorem CY {α:Type}{l m:List α}:∀ {is:List Nat},(∀i∈is,dk l i=dk m i)→fE l is=fE m is
 |[],_=>rfl
 |i::is,h=>by
  rw[fE,fE,h i aC,CY (is:=is) fun j hj=>h j (by simp[hj])]

theorem zi {α:Type}:∀ {is:List Nat} {new l:List α},fE l is=some new→cZ is new l=l
 |[],new,l,h=>by
  rw[fE]at h;cases h;rw[cZ,vJ]
 |i::is,new,l,h=>by
  rw[fE]at h;cases hi:dk l i with
  |none=>rw[hi]at h;cases h
  |some x =>
   rw[hi]at h;cases hp:fE l is with
   |none=>rw[hp]at h;cases h
   |some r =>
    rw[hp]at h;cases h
    have e:da l i x=l:=by
     rw[bq];rw[bu]at hi
     exact Sv fun j=>by
      by_cases hj:i=j
      ·subst hj;rw[qc (bC.1 hi).1,hi]
      ·rw[q6 hj]
    rw[cZ,e];exact zi hp

theorem FV {n m:Nat}:∀ {is:List Nat},isOk n is=true→(∀i∈is,i<m)→isOk m is=true
 |[],_,_=>rfl
 |i::is,h,hm=>by
  rw[isOk]at h ⊢;have h1:Nat.ble (Nat.succ i) m=true:=Wa (hm i aC);rw[h1];simp only[cond_true];cases hb:Nat.ble (Nat.succ i) n with
  |false=>rw[hb]at h;cases h
  |true =>
   rw[hb]at h;simp only[cond_true]at h;cases Iy:GH i is with
   |true=>rw[Iy]at h;cases h
   |false =>
    rw[Iy]at h;simp only[cond_false]at h ⊢;exact FV h fun j hj=>hm j (by simp[hj])

theorem acU (hg:c9 g)(hu:Iu g)(hF:g.F=Fence.wide∧g.dep=0)(hY:∀ (i l:Nat) (I:Nat→(Nat→Prop)→(Nat→Prop)→World→Prop) (B:Nat→Prop),g.φ0[i]? = some (bB.ext l I B)→lQ g.P Fence.wide 0 g.Y l I g.S0)(is:List Nat){Y:YP}{f:Nat}{dM:List AV}{bT:List Ob}{r r':AV}(hc:aU g.P Y f dM bT r bT)(uH:(∃ (i l:Nat) (I:Nat→(Nat→Prop)→(Nat→Prop)→World→Prop) (B:Nat→Prop),g.φ0[i]? = some (bB.ext l I B))→Y=g.Y){dst:Option Nat}{x:Operand}{args:Array Operand}{ts:Array Nat}{ty:Nat}{pos:String}{after:Array Edge}{gd:Option (Nat × Bool)}
  {ax:List Oper} {k:List It} {E:bk} {objs:List Ob} {fs cs:List AV} (fu:∀i∈is,i<g.φ0.length)
  (bm:aG ad.toList E gd=some true) (hd:aO ⟨g.ty,g.N⟩ dst=true) (dV:bI pf (.call { callee:=.value x,args:=args,argTypes:=ts })=.look 1) (hx:ev E x=.bU f fs cs) (dw:isOk (len objs) is=true) (jE:∀n,fE objs is=some (bT.map (bz (rn is n))))
  (has:∀n,(fs++args.toList.map (ev E)++cs).map lB=iu (rn is n) dM) (mZ:∀n,c8 (rn is n) r=r')
  (hr:R g pf Fin (.dr ad ax::k) (bf E dst r') objs) :
  R g pf Fin (.dr ad (⟨dst,.call { callee:=.value x,args:=args,argTypes:=ts },ty,pos,after,gd⟩::ax)::k) E objs:=by
 refine cL ?_ hr;show aI g ad _ E objs (bI pf (.call { callee:=.value x,args:=args,argTypes:=ts })) _ _
 rw[dV];refine⟨fun _=>rfl,(fun b hb _=>by cases hb),fun E₁ o₁ jl a w h1 h2 h3=>?_⟩
 have key:(∀i∈is,dk o₁ i=dk objs i)→(∀i∈is,i<o₁.length)→jl=o₁→WI g ad ⟨dst,.call { callee:=.value x,args:=args,argTypes:=ts },ty,pos,after,gd⟩ (fun a' w'=>fe g (bf E₁ dst r') jl a' w') a w:=fun hs Qp he=>by
  subst he;have x7:fE jl is=some (bT.map (bz (rn is (len jl)))):=by rw[CY hs];exact jE _
  have h:=mM (ad:=ad) (after:=after) (pos:=pos) (ty:=ty) (ts:=ts) (dst:=dst) hg hu hF hY is hc uH bm hd hx (FV dw (by rw[bj];exact Qp)) x7 (has _);rw[mZ,zi x7]at h;exact h.step E₁ jl jl a w h1 (.inr (.inr ⟨rfl,rfl⟩)) h3
 have aZ:∀i∈is,i<o₁.length:=fun i hi=>by
  obtain⟨φ,k1,_,_,_,_,k6⟩:=h3;have:=fu i hi;have hl:=k1.len;obtain⟨p',Mi,_⟩:=k6.le i _ (dY this);have:=(bC.1 Mi).1;omega
 rcases h2 with ⟨h2,_⟩ |⟨m,h2,hgr,he⟩ |⟨he,zD⟩
 ·cases h2
 ·cases h2;refine key (fun i hi=>?_) aZ he;rw[bu,bu]
  have no:∀ (j:Nat) (y:Ob),¬ o4 g.φ0.length 0 j y:=fun j y h=>by
   have:=y.Gv g.φ0.length j;unfold o4 at h;omega
  rcases hgr with hgr |hgr
  ·obtain ⟨y,hy⟩:∃ y,o₁[i]? = some y:=⟨_,dY (aZ i hi)⟩;exact akF
  ·have Qp:=(s6 dw).2;rw[bj]at Qp;obtain⟨y,hy⟩:∃y,objs[i]? = some y:=⟨_,dY (Qp i hi)⟩;exact akF
 ·subst he;exact key (fun _ _=>rfl) aZ zD
end
end aw
namespace aw
open Go Go.RowKit
section
variable {g:G} {pf:Nat→cC} {ad:Array Oper} {Fin:Exit→Act→World→Prop}

theorem VK (hg:c9 g){dst:Option Nat}{T:Nat}{x:Operand}{ty:Nat}{pos:String}{after:Array Edge}{gd:Option (Nat × Bool)}{ax:List Oper}{k:List It}{E:bk}{objs:List Ob}
  {l:List AV} (ds:List D) (bm:aG ad.toList E gd=some true) (hd:aO ⟨g.ty,g.N⟩ dst=true) (hc:fU (ev E x)=some l) (hl:l.map lB=ds.map AV.d)
  (hr:R g pf Fin (.dr ad ax::k) (bf E dst (.d (.bG ds))) objs):R g pf Fin (.dr ad (⟨dst,.box T x,ty,pos,after,gd⟩::ax)::k) E objs:=by
 refine cL (aI.eT hg (b:=0) (.refl _) bm hd aC fun φ a w hρ hs=>?_) hr;simp only[Op.operands]at hρ;have aN:=hρ x aC;obtain⟨h1,h2⟩:=gU aN hc;have h1':aW (SS g.S0 φ) w φ (ds.map AV.d) (a.eval x).cells.toList:=by rw[← hl];exact h1.qi lB bM.lB
 have qf:SS g.S0 φ w.heap.size:=⟨hs.up _ cP,fun hc=>absurd (hs.lt _ hc) (aa3 _)⟩;refine⟨.value (.pointer (some ⟨w.heap.size,0,none⟩)),.pointer (some ⟨w.heap.size,0,none⟩),w.alloc (.cells (a.eval x).cells T),φ,?_,.inl rfl,?_,?_⟩
 ·simp only [execOp,Instr.box,Sem.run_bind,Result.andThen_ok,newVar,newRow,run_newObj,Sem.run_pure];rfl
 ·simp only [RV];have hk:dE (SS g.S0 φ) w (SS g.S0 φ) (w.alloc (.cells (a.eval x).cells T)):=mU _ w _
  have get:∀ (j:Nat) (y:D),ds[j]? = some y→∃v,(a.eval x).cells[j]? = some v∧Rd (SS g.S0 φ) (w.alloc (.cells (a.eval x).cells T)) y v:=fun j y hj=>by
   obtain⟨v,h3,h4⟩:=h1'.get j (x:=.d y) (by rw[eU,hj];rfl);simp only[RV]at h4;exact⟨v,by simpa using h3,h4.mono hk⟩
  refine Rd.bG (fun j=>((a.eval x).cells[j]?).getD undef) qf (heap_alloc_new w _) (fun j y hj=>?_) (fun j y hj=>?_)
  ·obtain ⟨v,h3,_⟩:=get j y hj;simp only[MF,h3,Option.getD_some]
  ·obtain ⟨v,h3,h4⟩:=get j y hj;simp only[h3,Option.getD_some];exact h4
 ·exact⟨hs.alloc _,mU _ w _,.refl _,by show w.heap.size≤(w.heap.push _).size;simp,rfl,rfl,rfl,fun b hb _=>fD hb,fun _ h=>.inl h,fun _ _ _ B h=>⟨B,h⟩⟩
end
end aw

namespace Go.Proofs.YtaagocopollacaaGreatDoor
open Go aw Go.Proofs

inductive acV (P:List Cs) (hd:Tm):Mo→Nat→Nat→Bool→Mo→Nat→Nat→Prop
 |bad {m:Mo} {d v:Nat} (h:oP m.B hd.l=true):acV P hd m d v false { m with aD:=m.aD++[kJ 3] } d v
 |ok {m m':Mo} {d v d' v':Nat} {r:Bool} (h:oP m.B hd.l=false) (hb:sy P { m with aD:=m.aD++[nI (dH (bL m.B hd.l)).1] } d v r m' d' v'):acV P hd m d v r m' d' v'
def apH:Nat→cC:=fun f=>bif Nat.beq f 53 then .look 1 else .ji

theorem UK (P:List Cs)(hd:Tm)(ab:Nat)(m:Mo)(d v k:Nat)(aa:List (List D)):(dm P hd ab m d v++[Ob.arr 4 k aa]).map (aQ (dA 7))=dm P hd ab m d v++[Ob.arr 4 k aa]:=by
 rw[List.map_append];have h:(dm P hd ab m d v).map (aQ (dA 7))=dm P hd ab m d v:=tC _ P hd m.az v m.now ab m.done m.aD.length d m.B m.ag m.aD (fun _ _=>rfl) (fun _ _ _=>⟨rfl,rfl⟩) cF ⟨rfl,rfl,fun _=>⟨rfl,rfl,rfl⟩⟩ fun _=>rfl
 rw[h];rfl

theorem acW (P:List Cs)(hd:Tm)(ab:Nat)(m:Mo)(d v k:Nat)(aa:List (List D)):(dm P hd ab m d v).map (aQ (kg 6 k aa))=dm P hd ab m d v :=
 tC _ P hd m.az v m.now ab m.done m.aD.length d m.B m.ag m.aD (fun z h=>by rcases h with ⟨_,_,_,_,rfl⟩ |rfl<;>rfl) (fun _ _ _=>⟨rfl,rfl⟩) cF ⟨rfl,rfl,fun _=>⟨rfl,rfl,rfl⟩⟩ fun _=>rfl

theorem UL (Y:YP){P:List Cs}(hP:rk P){hd:Tm}(hh:∀x∈hd.l,GT x∧∀u∈Tm.cz x,u∈tZ)(hl8:hd.l.length≤8)(ab:Nat){m m':Mo}(hb:BI P.length ab m)(hT:m.ag.length≤1000000)(hS:m.aD.length+1<1000000000000){d v d' v':Nat}{r:Bool}(hD:acV P hd m d v r m' d' v') :
  aU Tryz.prog Y 28 [.lo 0 0] (dm P hd ab m d v) (bV r) (dm P hd ab m' d' v'):=by
 have kQ:=Tm.au hd.l;have hr:=fun b h=>(hb.sv.gt b h).r
 refine aU.ej (pf:=apH) gK mixed Tryz.func28 rfl cX cX (by simp[Tryz.ntmps28]) (by simp[dm,sx,mcS]) fun w S φ hg=>?_
 have hφ:φ.length=6:=hg.j5.len;refine gv hg.ok 6 rfl rfl ?_;refine JL 3 4 rfl rfl (af ?_);refine bh (fun k:Nat=>([(0,.lo 0 0),(3,.ow 6 k),(12,.d (.sl (Tm.aa hd.l))),(13,iV hd.l.length),(14,iV k)],dm P hd ab m d v++[.arr 4 k (Tm.aa (bL m.B (hd.l.take k)))])) (fun k=>k≤hd.l.length∧oP m.B (hd.l.take k)=false) (fun k=>hd.l.length - k) 0 ⟨cT _,by simp[oP]⟩ ⟨.refl _,.refl _,.refl _,by rw[kQ];exact .refl _,.refl _,trivial⟩ rfl ?_;rintro k ⟨hk,he⟩;have Qx:(bL m.B (hd.l.take k)).length=k:=by unfold bL;rw[eS,zz];omega
 have hrk:(Tm.aa (bL m.B (hd.l.take k))).length=k:=by rw[Tm.au,Qx]
 refine af ?_;refine iD (fun h=>?_) fun h=>?_
 ·refine af ?_;have aR:k<hd.l.length:=bK h rfl;have e1:hd.l[k]? = some hd.l[k]:=dY aR;have hmem:=eg aR;have hm:=hh _ hmem;generalize hd.l[k]=x at e1 hm hmem;refine cW (Tm.aB e1) ?_;refine acU hg.ok hg.cm hg.wide hg.Y [1,2,3] (r':=.cH [(eH m.B x).1.av,iV (eH m.B x).2]) (wU Y d DD cP m.B hr hb.sv.ug x hm.1.r hm.1.iC) cF (fun i hi=>by show i<φ.length;simp at hi;omega) rfl rfl rfl rfl rfl (fun n=>by rw[mR];rfl) cF cF ?_;have e3:(eH m.B x).2≠0→(eH m.B x).2=3:=Lw;have e4:=FQ (B:=m.B) e1;have e5:=FR (B:=m.B) e1;have e6:=Rq (B:=m.B) hmem;generalize eH m.B x=v1 at e3 e4 e5 e6;obtain⟨v1,ve⟩:=v1;simp only at e3 e4 e5 e6;refine af ?_;refine aj (fun h2=>?_) fun h2=>?_
  ·have h2:ve≠0:=by simpa using h2
   have eV:=e6 h2;refine gN 30 rfl (tE 3 3 ByteArray.empty) ?_;refine ai hg.ok hg.cm hg.wide hg.Y [0,1,2,3,4,5] (dm P hd ab { m with aD:=m.aD++[kJ 3] } d v++[.arr 4 k (Tm.aa (bL m.B (hd.l.take k))),aP x,aP v1]) (sH Y P hd ab m an d v (kJ 3)) cF rfl rfl rfl rfl rfl p9 rfl p9 (af ?_);cases hD with
   |bad _=>exact aK hg 6 5 cP rfl rfl (kn P hd ab { m with aD:=m.aD++[kJ 3] } _ _ _)
   |ok h=>rw[eV]at h;cases h
  ·have h2:ve=0:=by simpa using h2
   refine dp hg.ok (Tm.aa (bL m.B (hd.l.take (k+1)))) rfl rfl rfl rfl rfl rfl rfl rfl rfl (by simp[Tm.row]) PO (by rw[e4,← oh]) PN PN (af ?_);refine bb 7 (dm P hd ab m d v++[Ob.arr 4 (k+1) (Tm.aa (bL m.B (hd.l.take (k+1))))]) V3 rfl (UK P hd ab m d v _ _) ?_;exact bp (k+1) ⟨aR,by rw[e5,he,h2];rfl⟩ an IV rfl
 ·have aR:hd.l.length≤k:=cf h rfl;rw[Ih aR]at he hrk Qx ⊢;refine FP hg.cm 6 [(0,.lo 0 0),(3,.d (.sl (Tm.aa (bL m.B hd.l)))),(15,.ff)] (dm P hd ab m d v++[Ob.dead]) rfl rfl ⟨.refl _,bM.frz 6 _ _,.refl _,trivial⟩ ?_ ?_
  ·show da (List.map _ (dm P hd ab m d v++[_])) 6 Ob.dead=_
   rw[List.map_append,acW];rfl
  refine af ?_;have hG:=OH hb.sv hh he
  have hsz:Tm.ay (bL m.B hd.l)<1000000000:=by
   have key:∀l:List Tm,(∀x∈l,x.size≤3000)→Tm.ay l≤3000 * l.length:=fun l=>by
    induction l with
    |nil=>intro _;simp[Tm.ay]
    |cons a l ih =>
     intro h;have:=ih fun x hx=>h x tM
     have:=h a aC;simp only[Tm.ay,dv];omega
   have:=key _ fun x hx=>(hG x hx).1.size
   omega
  refine aF (uh (bL m.B hd.l) hsz (fun x hx=>(hG x hx).1.iC 1)) ?_;refine ai hg.ok hg.cm hg.wide hg.Y [0,1,2,3,4,5] (dm P hd ab { m with aD:=m.aD++[nI (dH (bL m.B hd.l)).1] } d v++[Ob.dead]) (sH Y P hd ab m an d v (nI (dH (bL m.B hd.l)).1)) cF rfl rfl rfl rfl rfl p9 rfl p9 (af ?_);cases hD with
  |bad h=>rw[he]at h;cases h
  |ok _ U9 =>
   refine ai hg.ok hg.cm hg.wide hg.Y [0,1,2,3,4,5] (dm P hd ab m' d' v'++[Ob.dead]) (HG Y hP hd ab (m0:={ m with aD:=m.aD++[nI (dH (bL m.B hd.l)).1] }) ⟨hb.sv,hb.tr⟩ hT (by show (m.aD++[_]).length<_;rw[List.length_append];exact hS) U9) cF rfl rfl rfl rfl rfl p9 rfl p9 (af ?_);exact F8
end Go.Proofs.YtaagocopollacaaGreatDoor

namespace Go.Proofs.YtaagocopollacaaGreatDoor
open Go aw Go.Proofs

variable{t:Tm}
inductive DoD (P:List Cs) (t:Tm):Mo→Nat→Nat→Bool→Mo→Nat→Nat→Prop
 |bad {m:Mo} {d v dd:Nat} {e:Int} (hd:w5 tZ m.B d t m.az dd) (h:Am.oL m.B m.az t=.bad e) (he:e≠0):DoD P t m d v false { m with aD:=m.aD++[kJ e] } dd v
 |no {m m':Mo} {d v dd d' v':Nat} {r:Bool} (hd:w5 tZ m.B d t m.az dd) (h:Am.oL m.B m.az t=.no) (hb:sy P m dd v r m' d' v'):DoD P t m d v r m' d' v'
 |yes {m:Mo} {d v dd f':Nat} {B':ak} {tx:Bs} (hd:w5 tZ m.B d t m.az dd) (h:Am.oL m.B m.az t=.yes B' f' tx):DoD P t m d v true { m with B:=B',az:=f',aD:=if tx=[] then m.aD else m.aD++[r9 tx] } dd v

theorem ait{tx:Bs}:bE (Tx tx) ⟨#[]⟩=decide (tx=[]):=by
 rw[vK,Tm.bo,decide_eq_true_eq];unfold Tx;constructor
 ·intro h;have:=congrArg (fun b=>b.data.toList) h;simpa using this
 ·intro h;subst h;rfl

theorem LD{B:ak}{f:Nat}{e:Int}(h:Am.oL B f t=.bad e):e≠0:=by
 cases he:oP B t.l with
 |true=>rw[Rp he]at h;cases h;omega
 |false =>
  rw[Zp he]at h;split at h
  ·rename_i eo;cases h;exact eo
  ·split at h
   ·cases h
   ·unfold uq at h;split at h
    ·split at h<;>cases h
    ·split at h<;>cases h

theorem aiu{P:List Cs}{ab:Nat}(hP:rk P){m:Mo}(d v:Nat)(hb:BI P.length ab m)(hl:∀x∈t.l,GT x∧∀u∈Tm.cz x,u∈tZ)(hf:m.az≤110000 - 8):∃d' v',DoD P t m d v (oo P m t).2 (oo P m t).1 d' v':=by
 obtain⟨dd,hd⟩:=Zq (S:=tZ) (B:=m.B) d (t:=t) (f:=m.az) hb.sv hl an (fun i h1 h2=>Ao an an);rw[wW];cases h:Am.oL m.B m.az t with
 |bad e=>exact⟨_,_,.bad hd h (LD h)⟩
 |no =>
  obtain⟨d',v',hk⟩:=HF hP dd v hb;exact⟨d',v',.no hd h hk⟩
 |yes B' f' tx=>exact⟨_,_,.yes hd h⟩

theorem Zx(Y:YP){P:List Cs}(hP:rk P)(hd:Tm)(ab:Nat)(ht:GT t)(hk:t.k=3)(gQ:mf (t.s,(t.l.length:Int))=true)(hl:∀x∈t.l,GT x∧∀u∈Tm.cz x,u∈tZ){m m':Mo}(hb:BI P.length ab m)(hf:m.az≤110000 - 8)(hT:m.ag.length≤1000000)(hS:m.aD.length+1<1000000000000){d v d' v':Nat}{r:Bool}(hD:DoD P t m d v r m' d' v') :
  aU Tryz.prog Y 30 [.lo 0 0,t.av] (dm P hd ab m d v) (bV r) (dm P hd ab m' d' v'):=by
 refine Ph Tryz.func30 fun w S φ hg=>?_
 have hφ:φ.length=6:=hg.j5.len;have Ga:∀dd,w5 tZ m.B d t m.az dd→aU Tryz.prog Y 57 [t.av,.lo 0 0,iV m.az] (cv d m.B) (afv (Am.oL m.B m.az t) m.az) (cv dd (Zo (Am.oL m.B m.az t) m.B)):=fun dd h=>acM Y DD hb.sv ht hk gQ hl an (fun i h1 h2=>Ao an an) h
 refine af ?_;cases hD with
 |@bad _ _ _ e Vh h he =>
  have hc:=Ga _ Vh;rw[h]at hc;refine ai hg.ok hg.cm hg.wide hg.Y [1,2,3] (dm P hd ab m d' v++[aP t]) hc cF rfl rfl rfl rfl rfl AG rfl (by rw[show Zo (Dn.bad e) m.B=m.B from rfl,mR];rfl) (af ?_);refine cQ hg.ok rfl rfl (by simp[he]) rfl rfl ?_;refine gN 28 rfl (tE 3 e ByteArray.empty) ?_;refine ai hg.ok hg.cm hg.wide hg.Y [0,1,2,3,4,5] (dm P hd ab { m with aD:=m.aD++[kJ e] } d' v++[aP t]) (sH Y P hd ab m an d' v (kJ e)) cF rfl rfl rfl rfl rfl p9 rfl p9 (af ?_);exact aK hg 6 5 cP rfl rfl (kn P hd ab { m with aD:=m.aD++[kJ e] } _ _ _)
 |@no _ _ _ dd _ _ _ Vh h U9 =>
  have hc:=Ga _ Vh;rw[h]at hc;refine ai hg.ok hg.cm hg.wide hg.Y [1,2,3] (dm P hd ab m dd v++[aP t]) hc cF rfl rfl rfl rfl rfl AG rfl (by rw[show Zo Dn.no m.B=m.B from rfl,mR];rfl) (af ?_);refine gu ?_;refine en hg.ok rfl rfl (by rw[show bE ByteArray.empty ⟨#[]⟩=true from by kernel_rfl];simp) rfl rfl ?_;refine gu ?_;refine ai hg.ok hg.cm hg.wide hg.Y [0,1,2,3,4,5] (dm P hd ab m' d' v'++[aP t]) (HG Y hP hd ab hb hT an U9) cF rfl rfl rfl rfl rfl p9 rfl p9 (af ?_);exact F8
 |@yes _ _ _ f' B' tx Vh h =>
  have hc:=Ga _ Vh;rw[h]at hc;refine ai hg.ok hg.cm hg.wide hg.Y [1,2,3] (dm P hd ab { m with B:=B' } d' v++[aP t]) hc cF rfl rfl rfl rfl rfl AG rfl (by rw[show Zo (Dn.yes B' f' tx) m.B=B' from rfl,mR];rfl) (af ?_);refine gu ?_;have hx:=ait (tx:=tx);by_cases htx:tx=[]
  ·rw [decide_eq_true htx] at hx;rw[if_pos htx];refine en hg.ok rfl rfl tM rfl rfl ?_;refine oX ?_;exact aK hg 6 5 cP rfl rfl (kn P hd ab { m with B:=B',az:=f' } d' v _)
  ·rw [decide_eq_false htx] at hx;rw[if_neg htx];refine cQ hg.ok rfl rfl tM rfl rfl ?_;refine gN 34 rfl (tE 2 0 (Tx tx)) ?_;refine ai hg.ok hg.cm hg.wide hg.Y [0,1,2,3,4,5] (dm P hd ab { m with B:=B',aD:=m.aD++[r9 tx] } d' v++[aP t]) (sH Y P hd ab { m with B:=B' } (by show m.aD.length<_;omega) d' v (r9 tx)) cF rfl rfl rfl rfl rfl p9 rfl p9 (af ?_);refine oX ?_;exact aK hg 6 5 cP rfl rfl (kn P hd ab { m with B:=B',az:=f',aD:=m.aD++[r9 tx] } d' v _)
end Go.Proofs.YtaagocopollacaaGreatDoor

namespace Go.Proofs.YtaagocopollacaaGreatDoor
open Go aw Go.Proofs
variable{m:Mo}
def anR:Nat→cC:=fun f=>bif Nat.beq f 36 then .look 0 else bif Nat.beq f 4000100042 then .look 4 else .ji
def gT (P:List Cs)(hd:Tm)(ab:Nat)(m:Mo)(x:Td)(other cE:List Td)(d v:Nat):List Ob:=dm P hd ab (Hr m x other cE) d (v+1)
theorem Sa(mk fr:Int)(z:D):bM (.fs [[.v (.int .i64 mk),.v (.int .i64 fr),.v (.int .i64 0),.v (.string ByteArray.empty),.v (.int .i64 0),.v (.slice none 0 0),.v (.int .i64 0),z,.v (.bool true)]]) (.d (.sl [[.v (.int .i64 mk),.v (.int .i64 fr),.v (.int .i64 0),.v (.string ByteArray.empty),.v (.int .i64 0),.sl [],.v (.int .i64 0),z,.v (.bool true)]])):=bM.aa ⟨⟨.refl _,.refl _,.refl _,.refl _,.refl _,.nil,.refl _,.refl _,.refl _,trivial⟩,trivial⟩

theorem LF(Y:YP)(P:List Cs)(hd:Tm)(ab:Nat)(hT:m.ag.length≤1000000)(d v:Nat)(x:Td)(Aa:x.g.a.length≤1000000)(z0:D)(other cE:List Td)(gO gB:Gl)(sO oO sB oB:Int)(zO zB:D)(hO:gn other=.bG (aX gO sO oO zO))(hB:gn cE=.bG (aX gB sB oB zB)) :
  aU Tryz.prog Y 31 [.lo 0 0,.d (.bG (aX x.g x.sh x.to z0)),.d (.bG (aX gO sO oO zO)),.d (.bG (aX gB sB oB zB))] (dm P hd ab m d v) (.cH []) (gT P hd ab m x other cE d v):=by
 have xB:(m.ag.map Tr.row).length=m.ag.length:=eS _;refine PG fun w S φ hg=>?_
 have hφ:φ.length=6:=hg.j5.len;refine af ?_;refine Dz ?_;refine IC ?_;refine PH ?_;refine dp hg.ok ((m.ag++[(⟨m.B.length,m.az,aJ,0,other,true⟩:Tr)]).map Tr.row) rfl rfl rfl rfl rfl rfl rfl rfl rfl aC Si ?_ zt zt ?_
 ·rw[← tD,hO];rfl
 refine af ?_;refine PF ?_;refine ov ?_;refine ov ?_;refine ov ?_;refine ov ?_;refine ov ?_;refine ad3 ?_;have kh:=lu x.g.a x.sh m.ag.length (⟨aM,0,m.ag.length⟩::cE) Aa;rw[show gn (⟨aM,0,m.ag.length⟩::cE)=.bG (aX aM 0 m.ag.length (.bG (aX gB sB oB zB))) from by rw[gn,hB];rfl]at kh;have Fz:=gX (bJ x.g.a x.sh m.ag.length (⟨aM,0,m.ag.length⟩::cE))
 have iI:∀z,gn (bJ x.g.a x.sh m.ag.length (⟨aM,0,m.ag.length⟩::cE))=z→gT P hd ab m x other cE d v=sx P hd m.az (Nat.succ v) z ab m.done m.aD.length d m.B (m.ag++[⟨m.B.length,m.az,aJ,0,other,true⟩]) m.aD:=fun z h=>by
  rw[← h];rfl
 rcases Fz with ⟨g2,s2,o2,z2,hp⟩ |hp
 all_goals
  rw[hp]at kh;refine aF (kh) ?_;refine PE ?_;rw[iI _ hp]
 ·exact Pl
 ·exact Ps

theorem LG(Y:YP)(P:List Cs)(hd:Tm)(ab:Nat)(hT:m.ag.length≤1000000)(d v:Nat)(x:Td)(Aa:x.g.a.length≤1000000)(z0:D)(other cE:List Td)(gO gB:Gl)(sO oO sB oB:Int)(zO zB:D)(hO:gn other=.bG (aX gO sO oO zO))(hB:gn cE=.v (.pointer none)) :
  aU Tryz.prog Y 31 [.lo 0 0,.d (.bG (aX x.g x.sh x.to z0)),.d (.bG (aX gO sO oO zO)),.d (.v (.pointer none))] (dm P hd ab m d v) (.cH []) (gT P hd ab m x other cE d v):=by
 have xB:(m.ag.map Tr.row).length=m.ag.length:=eS _;refine PG fun w S φ hg=>?_
 have hφ:φ.length=6:=hg.j5.len;refine af ?_;refine Dz ?_;refine IC ?_;refine PH ?_;refine dp hg.ok ((m.ag++[(⟨m.B.length,m.az,aJ,0,other,true⟩:Tr)]).map Tr.row) rfl rfl rfl rfl rfl rfl rfl rfl rfl aC Si ?_ zt zt ?_
 ·rw[← tD,hO];rfl
 refine af ?_;refine PF ?_;refine ov ?_;refine ov ?_;refine ov ?_;refine ov ?_;refine ov ?_;refine aee ?_;have kh:=lu x.g.a x.sh m.ag.length (⟨aM,0,m.ag.length⟩::cE) Aa;rw[show gn (⟨aM,0,m.ag.length⟩::cE)=.bG (aX aM 0 m.ag.length (.v (.pointer none))) from by rw[gn,hB];rfl]at kh;have Fz:=gX (bJ x.g.a x.sh m.ag.length (⟨aM,0,m.ag.length⟩::cE))
 have iI:∀z,gn (bJ x.g.a x.sh m.ag.length (⟨aM,0,m.ag.length⟩::cE))=z→gT P hd ab m x other cE d v=sx P hd m.az (Nat.succ v) z ab m.done m.aD.length d m.B (m.ag++[⟨m.B.length,m.az,aJ,0,other,true⟩]) m.aD:=fun z h=>by
  rw[← h];rfl
 rcases Fz with ⟨g2,s2,o2,z2,hp⟩ |hp
 all_goals
  rw[hp]at kh;refine aF (kh) ?_;refine PE ?_;rw[iI _ hp]
 ·exact Pl
 ·exact Ps

theorem LH(Y:YP)(P:List Cs)(hd:Tm)(ab:Nat)(hT:m.ag.length≤1000000)(d v:Nat)(x:Td)(Aa:x.g.a.length≤1000000)(z0:D)(other cE:List Td)(gO gB:Gl)(sO oO sB oB:Int)(zO zB:D)(hO:gn other=.v (.pointer none))(hB:gn cE=.bG (aX gB sB oB zB)) :
  aU Tryz.prog Y 31 [.lo 0 0,.d (.bG (aX x.g x.sh x.to z0)),.d (.v (.pointer none)),.d (.bG (aX gB sB oB zB))] (dm P hd ab m d v) (.cH []) (gT P hd ab m x other cE d v):=by
 have xB:(m.ag.map Tr.row).length=m.ag.length:=eS _;refine PG fun w S φ hg=>?_
 have hφ:φ.length=6:=hg.j5.len;refine af ?_;refine Dz ?_;refine IC ?_;refine PH ?_;refine dp hg.ok ((m.ag++[(⟨m.B.length,m.az,aJ,0,other,true⟩:Tr)]).map Tr.row) rfl rfl rfl rfl rfl rfl rfl rfl rfl aC Si ?_ zt zt ?_
 ·rw[← tD,hO];rfl
 refine af ?_;refine PF ?_;refine ov ?_;refine ov ?_;refine ov ?_;refine ov ?_;refine ov ?_;refine ad3 ?_;have kh:=lu x.g.a x.sh m.ag.length (⟨aM,0,m.ag.length⟩::cE) Aa;rw[show gn (⟨aM,0,m.ag.length⟩::cE)=.bG (aX aM 0 m.ag.length (.bG (aX gB sB oB zB))) from by rw[gn,hB];rfl]at kh;have Fz:=gX (bJ x.g.a x.sh m.ag.length (⟨aM,0,m.ag.length⟩::cE))
 have iI:∀z,gn (bJ x.g.a x.sh m.ag.length (⟨aM,0,m.ag.length⟩::cE))=z→gT P hd ab m x other cE d v=sx P hd m.az (Nat.succ v) z ab m.done m.aD.length d m.B (m.ag++[⟨m.B.length,m.az,aJ,0,other,true⟩]) m.aD:=fun z h=>by
  rw[← h];rfl
 rcases Fz with ⟨g2,s2,o2,z2,hp⟩ |hp
 all_goals
  rw[hp]at kh;refine aF (kh) ?_;refine PE ?_;rw[iI _ hp]
 ·exact Pl
 ·exact Ps

theorem LI(Y:YP)(P:List Cs)(hd:Tm)(ab:Nat)(hT:m.ag.length≤1000000)(d v:Nat)(x:Td)(Aa:x.g.a.length≤1000000)(z0:D)(other cE:List Td)(gO gB:Gl)(sO oO sB oB:Int)(zO zB:D)(hO:gn other=.v (.pointer none))(hB:gn cE=.v (.pointer none)) :
  aU Tryz.prog Y 31 [.lo 0 0,.d (.bG (aX x.g x.sh x.to z0)),.d (.v (.pointer none)),.d (.v (.pointer none))] (dm P hd ab m d v) (.cH []) (gT P hd ab m x other cE d v):=by
 have xB:(m.ag.map Tr.row).length=m.ag.length:=eS _;refine PG fun w S φ hg=>?_
 have hφ:φ.length=6:=hg.j5.len;refine af ?_;refine Dz ?_;refine IC ?_;refine PH ?_;refine dp hg.ok ((m.ag++[(⟨m.B.length,m.az,aJ,0,other,true⟩:Tr)]).map Tr.row) rfl rfl rfl rfl rfl rfl rfl rfl rfl aC Si ?_ zt zt ?_
 ·rw[← tD,hO];rfl
 refine af ?_;refine PF ?_;refine ov ?_;refine ov ?_;refine ov ?_;refine ov ?_;refine ov ?_;refine aee ?_;have kh:=lu x.g.a x.sh m.ag.length (⟨aM,0,m.ag.length⟩::cE) Aa;rw[show gn (⟨aM,0,m.ag.length⟩::cE)=.bG (aX aM 0 m.ag.length (.v (.pointer none))) from by rw[gn,hB];rfl]at kh;have Fz:=gX (bJ x.g.a x.sh m.ag.length (⟨aM,0,m.ag.length⟩::cE))
 have iI:∀z,gn (bJ x.g.a x.sh m.ag.length (⟨aM,0,m.ag.length⟩::cE))=z→gT P hd ab m x other cE d v=sx P hd m.az (Nat.succ v) z ab m.done m.aD.length d m.B (m.ag++[⟨m.B.length,m.az,aJ,0,other,true⟩]) m.aD:=fun z h=>by
  rw[← h];rfl
 rcases Fz with ⟨g2,s2,o2,z2,hp⟩ |hp
 all_goals
  rw[hp]at kh;refine aF (kh) ?_;refine PE ?_;rw[iI _ hp]
 ·exact Pl
 ·exact Ps

theorem tF(Y:YP)(P:List Cs)(hd:Tm)(ab:Nat)(hT:m.ag.length≤1000000)(d v:Nat)(x:Td)(Aa:x.g.a.length≤1000000)(z0:D)(other cE:List Td):aU Tryz.prog Y 31 [.lo 0 0,.d (.bG (aX x.g x.sh x.to z0)),.d (gn other),.d (gn cE)] (dm P hd ab m d v) (.cH []) (gT P hd ab m x other cE d v):=by
 rcases gX other with ⟨a1,a2,a3,a4,ha⟩ |ha<;>rcases gX cE with ⟨b1,b2,b3,b4,hb⟩ |hb<;>rw[ha,hb]
 ·exact LF Y P hd ab hT d v x Aa z0 other cE a1 b1 a2 a3 b2 b3 a4 b4 ha hb
 ·exact LG Y P hd ab hT d v x Aa z0 other cE a1 a1 a2 a3 0 0 a4 a4 ha hb
 ·exact LH Y P hd ab hT d v x Aa z0 other cE b1 b1 0 0 b2 b3 b4 b4 ha hb
 ·exact LI Y P hd ab hT d v x Aa z0 other cE aM aM 0 0 0 0 z0 z0 ha hb
end Go.Proofs.YtaagocopollacaaGreatDoor

namespace aw
open Go Go.RowKit
section
variable {g:G} {pf:Nat→cC} {ad:Array Oper} {Fin:Exit→Act→World→Prop}

theorem Vr (hg:c9 g){dst:Option Nat}{T T':Nat}{x:Operand}{ty:Nat}{pos:String}{after:Array Edge}{gd:Option (Nat × Bool)}{ax:List Oper}{k:List It}{E:bk}{objs:List Ob}{e:TypeId}{l:List D}
  (hu:g.P.underlying T=some (.pointer e)) (bm:aG ad.toList E gd=some true) (hd:aO ⟨g.ty,g.N⟩ dst=true) (hx:ev E x=.d (.bG l))
  (hr:R g pf Fin (.dr ad ax::k) (bf E dst (.d (.v (.bool false)))) objs):R g pf Fin (.dr ad (⟨dst,.binOp .eql T x (.const (.pointer none)) T',ty,pos,after,gd⟩::ax)::k) E objs:=by
 refine cL (aI.up (aI.quiet hg bm hd aC fun φ objs w' w hρ fh=>?_)) hr;simp only[Op.operands]at hρ;have aN:=hρ x aC;rw[hx]at aN;simp only[RV]at aN;generalize kU:w'.eval x=vx at aN;cases aN;rename_i b off _ _ _ _ _ _ _ _;refine aY fh (vv:=.bool false) ?_ xH
 have h1:∀d,(Op.equalIn (d+1) T (.pointer (some ⟨b,off,none⟩)) (.pointer none)).run g.P w=.ok false w:=fun d=>by
  simp[Op.equalIn,run_underlying hu]
 have h2:(Op.equal T (.pointer (some ⟨b,off,none⟩)) (.pointer none)).run g.P w=.ok false w:=h1 9999;have h3:(eqGuard .eql T x (.const (.pointer none)) (.pointer (some ⟨b,off,none⟩)) (.pointer none)).run g.P w=.ok () w:=by simp[eqGuard]
 have h4:w'.eval (.const (.pointer none))=.pointer none:=rfl;simp only[execOp,Sem.run_bind,kU,h4,h3,Result.andThen_ok,binOp,h2,Sem.run_pure]
end
end aw

namespace Go.Proofs.YtaagocopollacaaGreatDoor
open Go aw Go.Proofs
variable{P:List Cs}{r:List Td}{m m':Mo}{x:Td}{V d' v':Nat}{b:Bool}
def anT:Nat→cC:=fun f=>bif Nat.beq f 29 then .still else bif Nat.beq f 13 then .still else bif Nat.beq f 36 then .look 0 else bif Nat.beq f 32 then .look 0 else bif Nat.beq f 4000000004 then .bO 1 else .ji

def kW (P:List Cs)(hd:Tm)(ab:Nat)(m:Mo)(d v:Nat)(z:D):List Ob:=sx P hd m.az v z ab m.done m.aD.length d m.B m.ag m.aD

theorem Zy(Y:YP)(hd:Tm)(ab:Nat)(zQ:m.now=[]){d v d' v':Nat}(acX:aU Tryz.prog Y 28 [.lo 0 0] (dm P hd ab m d v) (bV b) (dm P hd ab m' d' v')):aU Tryz.prog Y 14 [.lo 0 0] (dm P hd ab m d v) (bV b) (dm P hd ab m' d' v'):=by
 have e:dm P hd ab m d v=kW P hd ab m d v (.v (.pointer none)):=by unfold dm kW;rw[zQ];rfl
 rw[e]at acX ⊢;refine ru fun w S φ hg=>?_
 have hφ:φ.length=6:=hg.j5.len;refine af ?_;refine KD hg.ok Tryz.underlying52 rfl rfl rfl (af ?_);refine oS ?_;refine ai hg.ok hg.cm hg.wide hg.Y [0,1,2,3,4,5] (dm P hd ab m' d' v') acX cF rfl rfl rfl rfl rfl (by rw[← e,dP,e];rfl) rfl p9 (af ?_);exact F8

theorem LJ(Y:YP)(hd:Tm)(ab:Nat)(g1:Gl)(s1 o1:Int)(z1:D)(hz:gn r=.bG (aX g1 s1 o1 z1))(hk:x.g.k=0∨x.g.k=3)(Vk:x.to≤m.ag.length)(d v:Nat):aU Tryz.prog Y 14 [.lo 0 0] (kW P hd ab m d v (.bG (aX x.g x.sh x.to (.bG (aX g1 s1 o1 z1))))) (bV true) (kW P hd ab { m with ag:=m.ag.take x.to } d (v+1) (.bG (aX g1 s1 o1 z1))):=by
 have xB:(m.ag.map Tr.row).length=m.ag.length:=eS _;have e:kW P hd ab m d v (.bG (aX g1 s1 o1 z1))=dm P hd ab { m with now:=r } d v:=by rw[← hz];rfl
 refine ru fun w S φ hg=>?_
 have hφ:φ.length=6:=hg.j5.len;refine af ?_;refine tH ?_;refine gu ?_;by_cases h0:x.g.k=0
 ·refine cQ hg.ok rfl rfl (by simp [h0]) rfl rfl ?_;refine aay ?_;exact ady
 ·have h3:x.g.k=3:=hk.resolve_left h0;refine en hg.ok rfl rfl (by simp[h0]) rfl rfl ?_;refine cQ hg.ok rfl rfl (by simp[h3]) rfl rfl ?_;refine aay ?_;exact ady

theorem LK(Y:YP)(hd:Tm)(ab:Nat)(g1:Gl)(s1 o1:Int)(z1:D)(hz:gn r=.v (.pointer none))(hk:x.g.k=0∨x.g.k=3)(Vk:x.to≤m.ag.length)(d v:Nat):aU Tryz.prog Y 14 [.lo 0 0] (kW P hd ab m d v (.bG (aX x.g x.sh x.to (.v (.pointer none))))) (bV true) (kW P hd ab { m with ag:=m.ag.take x.to } d (v+1) (.v (.pointer none))):=by
 have xB:(m.ag.map Tr.row).length=m.ag.length:=eS _;have e:kW P hd ab m d v (.v (.pointer none))=dm P hd ab { m with now:=r } d v:=by rw[← hz];rfl
 refine ru fun w S φ hg=>?_
 have hφ:φ.length=6:=hg.j5.len;refine af ?_;refine tH ?_;refine gu ?_;by_cases h0:x.g.k=0
 ·refine cQ hg.ok rfl rfl (by simp [h0]) rfl rfl ?_;refine aay ?_;exact adE
 ·have h3:x.g.k=3:=hk.resolve_left h0;refine en hg.ok rfl rfl (by simp[h0]) rfl rfl ?_;refine cQ hg.ok rfl rfl (by simp[h3]) rfl rfl ?_;refine aay ?_;exact adE

theorem HH(Y:YP)(hd:Tm)(ab:Nat)(g1:Gl)(s1 o1:Int)(z1:D)(hz:gn r=.bG (aX g1 s1 o1 z1))(k0:x.g.k≠0)(k1:x.g.k≠1)(k2:x.g.k≠2)(k3:x.g.k≠3)(k4:x.g.k≠4)(k5:x.g.k≠5)(d v:Nat):aU Tryz.prog Y 14 [.lo 0 0] (kW P hd ab m d v (.bG (aX x.g x.sh x.to (.bG (aX g1 s1 o1 z1))))) (bV true) (kW P hd ab m d v (.bG (aX g1 s1 o1 z1))):=by
 have xB:(m.ag.map Tr.row).length=m.ag.length:=eS _;have e:kW P hd ab m d v (.bG (aX g1 s1 o1 z1))=dm P hd ab { m with now:=r } d v:=by rw[← hz];rfl
 refine ru fun w S φ hg=>?_
 have hφ:φ.length=6:=hg.j5.len;refine af ?_;refine tH ?_;refine gu ?_;refine en hg.ok rfl rfl (by simp[k0]) rfl rfl ?_;refine en hg.ok rfl rfl (by simp[k3]) rfl rfl ?_;refine en hg.ok rfl rfl (by simp[k2]) rfl rfl ?_;refine en hg.ok rfl rfl (by simp[k4]) rfl rfl ?_;refine en hg.ok rfl rfl (by simp[k5]) rfl rfl ?_;refine en hg.ok rfl rfl (by simp[k1]) rfl rfl ?_;exact aK hg 6 5 cP rfl rfl (im P hd _ _ _ (.inl ⟨_,_,_,_,rfl⟩) ab m.done m.aD.length d m.B m.ag m.aD _)

theorem HI(Y:YP)(hd:Tm)(ab:Nat)(g1:Gl)(s1 o1:Int)(z1:D)(hz:gn r=.v (.pointer none))(k0:x.g.k≠0)(k1:x.g.k≠1)(k2:x.g.k≠2)(k3:x.g.k≠3)(k4:x.g.k≠4)(k5:x.g.k≠5)(d v:Nat):aU Tryz.prog Y 14 [.lo 0 0] (kW P hd ab m d v (.bG (aX x.g x.sh x.to (.v (.pointer none))))) (bV true) (kW P hd ab m d v (.v (.pointer none))):=by
 have xB:(m.ag.map Tr.row).length=m.ag.length:=eS _;have e:kW P hd ab m d v (.v (.pointer none))=dm P hd ab { m with now:=r } d v:=by rw[← hz];rfl
 refine ru fun w S φ hg=>?_
 have hφ:φ.length=6:=hg.j5.len;refine af ?_;refine tH ?_;refine gu ?_;refine en hg.ok rfl rfl (by simp[k0]) rfl rfl ?_;refine en hg.ok rfl rfl (by simp[k3]) rfl rfl ?_;refine en hg.ok rfl rfl (by simp[k2]) rfl rfl ?_;refine en hg.ok rfl rfl (by simp[k4]) rfl rfl ?_;refine en hg.ok rfl rfl (by simp[k5]) rfl rfl ?_;refine en hg.ok rfl rfl (by simp[k1]) rfl rfl ?_;exact aK hg 6 5 cP rfl rfl (im P hd _ _ _ (.inr rfl) ab m.done m.aD.length d m.B m.ag m.aD _)

theorem HJ(Y:YP)(hd:Tm)(ab:Nat)(g1:Gl)(s1 o1:Int)(z1:D)(hz:gn r=.bG (aX g1 s1 o1 z1))(hk:x.g.k=2)(gt:GT x.g.t)(ho:∀u∈Tm.cz x.g.t,0≤u∧u<V)(hV:x.sh+V≤110000)(d v:Nat)(Ga:aU Tryz.prog Y 30 [.lo 0 0,(dz x.sh x.g.t).av] (dm P hd ab { m with now:=r } d v) (bV b) (dm P hd ab m' d' v')):aU Tryz.prog Y 14 [.lo 0 0] (kW P hd ab m d v (.bG (aX x.g x.sh x.to (.bG (aX g1 s1 o1 z1))))) (bV b) (dm P hd ab m' d' v'):=by
 have xB:(m.ag.map Tr.row).length=m.ag.length:=eS _;have e:kW P hd ab m d v (.bG (aX g1 s1 o1 z1))=dm P hd ab { m with now:=r } d v:=by rw[← hz];rfl
 refine ru fun w S φ hg=>?_
 have hφ:φ.length=6:=hg.j5.len;refine af ?_;refine tH ?_;refine gu ?_;refine mw ?_;refine mw ?_;refine zr ?_;have eE:=lT x.g.t (x.sh:Int) gt.iw.1 (gt.iC 1);rw[lZ gt ho hV]at eE;generalize dz x.sh x.g.t=u at eE Ga;refine aF (eE) ?_;refine adi ?_;exact F8

theorem HK(Y:YP)(hd:Tm)(ab:Nat)(g1:Gl)(s1 o1:Int)(z1:D)(hz:gn r=.v (.pointer none))(hk:x.g.k=2)(gt:GT x.g.t)(ho:∀u∈Tm.cz x.g.t,0≤u∧u<V)(hV:x.sh+V≤110000)(d v:Nat)(Ga:aU Tryz.prog Y 30 [.lo 0 0,(dz x.sh x.g.t).av] (dm P hd ab { m with now:=r } d v) (bV b) (dm P hd ab m' d' v')):aU Tryz.prog Y 14 [.lo 0 0] (kW P hd ab m d v (.bG (aX x.g x.sh x.to (.v (.pointer none))))) (bV b) (dm P hd ab m' d' v'):=by
 have xB:(m.ag.map Tr.row).length=m.ag.length:=eS _;have e:kW P hd ab m d v (.v (.pointer none))=dm P hd ab { m with now:=r } d v:=by rw[← hz];rfl
 refine ru fun w S φ hg=>?_
 have hφ:φ.length=6:=hg.j5.len;refine af ?_;refine tH ?_;refine gu ?_;refine mw ?_;refine mw ?_;refine zr ?_;have eE:=lT x.g.t (x.sh:Int) gt.iw.1 (gt.iC 1);rw[lZ gt ho hV]at eE;generalize dz x.sh x.g.t=u at eE Ga;refine aF (eE) ?_;refine adi ?_;exact F8

theorem OL(Y:YP)(hd:Tm)(ab:Nat)(g1:Gl)(s1 o1:Int)(z1:D)(hz:gn r=.bG (aX g1 s1 o1 z1))(hk:x.g.k=4)(hT:m.ag.length≤1000000)(Aa:x.g.a.length≤1000000)(hxb:x.g.b.length≤1000000)(hxc:x.g.c.length≤1000000)(d v:Nat):aU Tryz.prog Y 14 [.lo 0 0] (kW P hd ab m d v (.bG (aX x.g x.sh x.to (.bG (aX g1 s1 o1 z1))))) (bV true) (gT P hd ab { m with now:=r } x (bJ x.g.c x.sh x.to r) (bJ x.g.b x.sh x.to r) d v):=by
 have xB:(m.ag.map Tr.row).length=m.ag.length:=eS _;have e:kW P hd ab m d v (.bG (aX g1 s1 o1 z1))=dm P hd ab { m with now:=r } d v:=by rw[← hz];rfl
 refine ru fun w S φ hg=>?_
 have hφ:φ.length=6:=hg.j5.len;refine af ?_;refine tH ?_;refine gu ?_;refine mw ?_;refine mw ?_;refine mw ?_;refine zr ?_;have hpc:=lu x.g.c x.sh x.to r hxc;have hpb:=lu x.g.b x.sh x.to r hxb;rw[hz]at hpc hpb;have R6:=tF Y P hd ab (m:={ m with now:=r }) hT d v x Aa (.bG (aX g1 s1 o1 z1)) (bJ x.g.c x.sh x.to r) (bJ x.g.b x.sh x.to r);rcases gX (bJ x.g.c x.sh x.to r) with ⟨c1,c2,c3,c4,hc⟩ |hc<;>rcases gX (bJ x.g.b x.sh x.to r) with ⟨b1,b2,b3,b4,hb⟩ |hb
 all_goals
  rw[hc]at hpc R6;rw[hb]at hpb R6;refine aF (hpc) ?_;refine aF (hpb) ?_;refine ajL ?_;exact Pv

theorem OM(Y:YP)(hd:Tm)(ab:Nat)(g1:Gl)(s1 o1:Int)(z1:D)(hz:gn r=.v (.pointer none))(hk:x.g.k=4)(hT:m.ag.length≤1000000)(Aa:x.g.a.length≤1000000)(hxb:x.g.b.length≤1000000)(hxc:x.g.c.length≤1000000)(d v:Nat):aU Tryz.prog Y 14 [.lo 0 0] (kW P hd ab m d v (.bG (aX x.g x.sh x.to (.v (.pointer none))))) (bV true) (gT P hd ab { m with now:=r } x (bJ x.g.c x.sh x.to r) (bJ x.g.b x.sh x.to r) d v):=by
 have xB:(m.ag.map Tr.row).length=m.ag.length:=eS _;have e:kW P hd ab m d v (.v (.pointer none))=dm P hd ab { m with now:=r } d v:=by rw[← hz];rfl
 refine ru fun w S φ hg=>?_
 have hφ:φ.length=6:=hg.j5.len;refine af ?_;refine tH ?_;refine gu ?_;refine mw ?_;refine mw ?_;refine mw ?_;refine zr ?_;have hpc:=lu x.g.c x.sh x.to r hxc;have hpb:=lu x.g.b x.sh x.to r hxb;rw[hz]at hpc hpb;have R6:=tF Y P hd ab (m:={ m with now:=r }) hT d v x Aa (.v (.pointer none)) (bJ x.g.c x.sh x.to r) (bJ x.g.b x.sh x.to r);rcases gX (bJ x.g.c x.sh x.to r) with ⟨c1,c2,c3,c4,hc⟩ |hc<;>rcases gX (bJ x.g.b x.sh x.to r) with ⟨b1,b2,b3,b4,hb⟩ |hb
 all_goals
  rw[hc]at hpc R6;rw[hb]at hpb R6;refine aF (hpc) ?_;refine aF (hpb) ?_;refine ajL ?_;exact Pv

theorem LL(Y:YP)(hd:Tm)(ab:Nat)(g1:Gl)(s1 o1:Int)(z1:D)(hz:gn r=.bG (aX g1 s1 o1 z1))(hk:x.g.k=5)(hT:m.ag.length≤1000000)(Aa:x.g.a.length≤1000000)(d v:Nat):aU Tryz.prog Y 14 [.lo 0 0] (kW P hd ab m d v (.bG (aX x.g x.sh x.to (.bG (aX g1 s1 o1 z1))))) (bV true) (gT P hd ab { m with now:=r } x r (bJ [dK] 0 0 []) d v):=by
 have xB:(m.ag.map Tr.row).length=m.ag.length:=eS _;have e:kW P hd ab m d v (.bG (aX g1 s1 o1 z1))=dm P hd ab { m with now:=r } d v:=by rw[← hz];rfl
 refine ru fun w S φ hg=>?_
 have hφ:φ.length=6:=hg.j5.len;refine af ?_;refine tH ?_;refine gu ?_;refine mw ?_;refine mw ?_;refine mw ?_;refine mw ?_;refine zr ?_;have hpf:=lu [dK] 0 0 [] aC;have R6:=tF Y P hd ab (m:={ m with now:=r }) hT d v x Aa (.bG (aX g1 s1 o1 z1)) (r) (bJ [dK] 0 0 []);rw[hz]at R6;refine adD ?_;rw[show gn []=.v (.pointer none) from rfl,show gn (bJ [dK] 0 0 [])=.bG (aX dK 0 0 (.v (.pointer none))) from rfl]at hpf;rw[show gn (bJ [dK] 0 0 [])=.bG (aX dK 0 0 (.v (.pointer none))) from rfl]at R6;refine aF (hpf) ?_;refine ajM ?_;exact Pv

theorem LM(Y:YP)(hd:Tm)(ab:Nat)(g1:Gl)(s1 o1:Int)(z1:D)(hz:gn r=.v (.pointer none))(hk:x.g.k=5)(hT:m.ag.length≤1000000)(Aa:x.g.a.length≤1000000)(d v:Nat):aU Tryz.prog Y 14 [.lo 0 0] (kW P hd ab m d v (.bG (aX x.g x.sh x.to (.v (.pointer none))))) (bV true) (gT P hd ab { m with now:=r } x r (bJ [dK] 0 0 []) d v):=by
 have xB:(m.ag.map Tr.row).length=m.ag.length:=eS _;have e:kW P hd ab m d v (.v (.pointer none))=dm P hd ab { m with now:=r } d v:=by rw[← hz];rfl
 refine ru fun w S φ hg=>?_
 have hφ:φ.length=6:=hg.j5.len;refine af ?_;refine tH ?_;refine gu ?_;refine mw ?_;refine mw ?_;refine mw ?_;refine mw ?_;refine zr ?_;have hpf:=lu [dK] 0 0 [] aC;have R6:=tF Y P hd ab (m:={ m with now:=r }) hT d v x Aa (.v (.pointer none)) (r) (bJ [dK] 0 0 []);rw[hz]at R6;refine adD ?_;rw[show gn []=.v (.pointer none) from rfl,show gn (bJ [dK] 0 0 [])=.bG (aX dK 0 0 (.v (.pointer none))) from rfl]at hpf;rw[show gn (bJ [dK] 0 0 [])=.bG (aX dK 0 0 (.v (.pointer none))) from rfl]at R6;refine aF (hpf) ?_;refine ajM ?_;exact Pv

theorem HL(Y:YP)(hd:Tm)(ab:Nat)(g1:Gl)(s1 o1:Int)(z1:D)(hz:gn r=.bG (aX g1 s1 o1 z1))(hk:x.g.k=1)(hdn:ab≤m.done)(hS:m.aD.length<1000000000000)(d v:Nat):aU Tryz.prog Y 14 [.lo 0 0] (kW P hd ab m d v (.bG (aX x.g x.sh x.to (.bG (aX g1 s1 o1 z1))))) (bV false) (dm P hd ab { m with now:=r,aD:=m.aD++[ko] } d v):=by
 have xB:(m.ag.map Tr.row).length=m.ag.length:=eS _;have e:kW P hd ab m d v (.bG (aX g1 s1 o1 z1))=dm P hd ab { m with now:=r } d v:=by rw[← hz];rfl
 refine ru fun w S φ hg=>?_
 have hφ:φ.length=6:=hg.j5.len;refine af ?_;refine tH ?_;refine gu ?_;refine mw ?_;refine mw ?_;refine mw ?_;refine mw ?_;refine mw ?_;refine zr ?_;refine mL6 ?_;refine cQ hg.ok rfl rfl zw rfl rfl ?_;refine gN 127 rfl (tE 5 0 ByteArray.empty) ?_;refine ajK ?_;exact adR

theorem HM(Y:YP)(hd:Tm)(ab:Nat)(g1:Gl)(s1 o1:Int)(z1:D)(hz:gn r=.v (.pointer none))(hk:x.g.k=1)(hdn:ab≤m.done)(hS:m.aD.length<1000000000000)(d v:Nat):aU Tryz.prog Y 14 [.lo 0 0] (kW P hd ab m d v (.bG (aX x.g x.sh x.to (.v (.pointer none))))) (bV false) (dm P hd ab { m with now:=r,aD:=m.aD++[ko] } d v):=by
 have xB:(m.ag.map Tr.row).length=m.ag.length:=eS _;have e:kW P hd ab m d v (.v (.pointer none))=dm P hd ab { m with now:=r } d v:=by rw[← hz];rfl
 refine ru fun w S φ hg=>?_
 have hφ:φ.length=6:=hg.j5.len;refine af ?_;refine tH ?_;refine gu ?_;refine mw ?_;refine mw ?_;refine mw ?_;refine mw ?_;refine mw ?_;refine zr ?_;refine mL6 ?_;refine cQ hg.ok rfl rfl zw rfl rfl ?_;refine gN 127 rfl (tE 5 0 ByteArray.empty) ?_;refine ajK ?_;exact adR

theorem LN(Y:YP)(hd:Tm)(ab:Nat)(g1:Gl)(s1 o1:Int)(z1:D)(hz:gn r=.bG (aX g1 s1 o1 z1))(hk:x.g.k=1)(gt:GT x.g.t)(ho:∀u∈Tm.cz x.g.t,0≤u∧u<V)(hV:x.sh+V≤110000)(hdn:¬ ab≤m.done)(QD:m.done<100000000)(d v:Nat)(dV:aU Tryz.prog Y 35 [.lo 0 0,.agg (xy ⟨m.B.length,m.az,dz x.sh x.g.t,0,r,false⟩ (.bG (aX g1 s1 o1 z1)))] (dm P hd ab { m with now:=r,done:=m.done+1 } d v) (bV true) (dm P hd ab m' d' v')):aU Tryz.prog Y 14 [.lo 0 0] (kW P hd ab m d v (.bG (aX x.g x.sh x.to (.bG (aX g1 s1 o1 z1))))) (bV true) (dm P hd ab m' d' v'):=by
 have xB:(m.ag.map Tr.row).length=m.ag.length:=eS _;have e:kW P hd ab m d v (.bG (aX g1 s1 o1 z1))=dm P hd ab { m with now:=r } d v:=by rw[← hz];rfl
 refine ru fun w S φ hg=>?_
 have hφ:φ.length=6:=hg.j5.len;refine af ?_;refine tH ?_;refine gu ?_;refine mw ?_;refine mw ?_;refine mw ?_;refine mw ?_;refine mw ?_;refine zr ?_;refine mL6 ?_;refine Ei ?_;have e2:kW P hd ab { m with done:=m.done+1 } d v (.bG (aX g1 s1 o1 z1))=dm P hd ab { m with now:=r,done:=m.done+1 } d v:=by rw[← hz];rfl
 refine ajE ?_;have eE:=lT x.g.t (x.sh:Int) gt.iw.1 (gt.iC 1);rw[lZ gt ho hV]at eE;generalize dz x.sh x.g.t=u at eE dV;refine aF (eE) ?_;refine IC ?_;refine adg ?_;refine oX ?_;exact F8

theorem LO(Y:YP)(hd:Tm)(ab:Nat)(g1:Gl)(s1 o1:Int)(z1:D)(hz:gn r=.v (.pointer none))(hk:x.g.k=1)(gt:GT x.g.t)(ho:∀u∈Tm.cz x.g.t,0≤u∧u<V)(hV:x.sh+V≤110000)(hdn:¬ ab≤m.done)(QD:m.done<100000000)(d v:Nat)(dV:aU Tryz.prog Y 35 [.lo 0 0,.agg (xy ⟨m.B.length,m.az,dz x.sh x.g.t,0,r,false⟩ (.v (.pointer none)))] (dm P hd ab { m with now:=r,done:=m.done+1 } d v) (bV true) (dm P hd ab m' d' v')):aU Tryz.prog Y 14 [.lo 0 0] (kW P hd ab m d v (.bG (aX x.g x.sh x.to (.v (.pointer none))))) (bV true) (dm P hd ab m' d' v'):=by
 have xB:(m.ag.map Tr.row).length=m.ag.length:=eS _;have e:kW P hd ab m d v (.v (.pointer none))=dm P hd ab { m with now:=r } d v:=by rw[← hz];rfl
 refine ru fun w S φ hg=>?_
 have hφ:φ.length=6:=hg.j5.len;refine af ?_;refine tH ?_;refine gu ?_;refine mw ?_;refine mw ?_;refine mw ?_;refine mw ?_;refine mw ?_;refine zr ?_;refine mL6 ?_;refine Ei ?_;have e2:kW P hd ab { m with done:=m.done+1 } d v (.v (.pointer none))=dm P hd ab { m with now:=r,done:=m.done+1 } d v:=by rw[← hz];rfl
 refine ajF ?_;have eE:=lT x.g.t (x.sh:Int) gt.iw.1 (gt.iC 1);rw[lZ gt ho hV]at eE;generalize dz x.sh x.g.t=u at eE dV;refine aF (eE) ?_;refine IC ?_;refine adg ?_;refine oX ?_;exact F8

theorem HN(Y:YP)(hd:Tm)(ab:Nat)(g1:Gl)(s1 o1:Int)(z1:D)(hz:gn r=.bG (aX g1 s1 o1 z1))(hk:x.g.k=1)(gt:GT x.g.t)(ho:∀u∈Tm.cz x.g.t,0≤u∧u<V)(hV:x.sh+V≤110000)(hdn:¬ ab≤m.done)(QD:m.done<100000000)(d v:Nat){d2:Nat}(dV:aU Tryz.prog Y 35 [.lo 0 0,.agg (xy ⟨m.B.length,m.az,dz x.sh x.g.t,0,r,false⟩ (.bG (aX g1 s1 o1 z1)))] (dm P hd ab { m with now:=r,done:=m.done+1 } d v) (bV false) (dm P hd ab { m with now:=r,done:=m.done+1 } d2 v))(U9:aU Tryz.prog Y 37 [.lo 0 0] (dm P hd ab { m with now:=r,done:=m.done+1 } d2 v) (bV b) (dm P hd ab m' d' v')):aU Tryz.prog Y 14 [.lo 0 0] (kW P hd ab m d v (.bG (aX x.g x.sh x.to (.bG (aX g1 s1 o1 z1))))) (bV b) (dm P hd ab m' d' v'):=by
 have xB:(m.ag.map Tr.row).length=m.ag.length:=eS _;have e:kW P hd ab m d v (.bG (aX g1 s1 o1 z1))=dm P hd ab { m with now:=r } d v:=by rw[← hz];rfl
 refine ru fun w S φ hg=>?_
 have hφ:φ.length=6:=hg.j5.len;refine af ?_;refine tH ?_;refine gu ?_;refine mw ?_;refine mw ?_;refine mw ?_;refine mw ?_;refine mw ?_;refine zr ?_;refine mL6 ?_;refine Ei ?_;have e2:kW P hd ab { m with done:=m.done+1 } d v (.bG (aX g1 s1 o1 z1))=dm P hd ab { m with now:=r,done:=m.done+1 } d v:=by rw[← hz];rfl
 refine ajE ?_;have eE:=lT x.g.t (x.sh:Int) gt.iw.1 (gt.iC 1);rw[lZ gt ho hV]at eE;generalize dz x.sh x.g.t=u at eE dV;refine aF (eE) ?_;refine IC ?_;refine ajR ?_;refine oX ?_;refine adl ?_;exact F8

theorem HO(Y:YP)(hd:Tm)(ab:Nat)(g1:Gl)(s1 o1:Int)(z1:D)(hz:gn r=.v (.pointer none))(hk:x.g.k=1)(gt:GT x.g.t)(ho:∀u∈Tm.cz x.g.t,0≤u∧u<V)(hV:x.sh+V≤110000)(hdn:¬ ab≤m.done)(QD:m.done<100000000)(d v:Nat){d2:Nat}(dV:aU Tryz.prog Y 35 [.lo 0 0,.agg (xy ⟨m.B.length,m.az,dz x.sh x.g.t,0,r,false⟩ (.v (.pointer none)))] (dm P hd ab { m with now:=r,done:=m.done+1 } d v) (bV false) (dm P hd ab { m with now:=r,done:=m.done+1 } d2 v))(U9:aU Tryz.prog Y 37 [.lo 0 0] (dm P hd ab { m with now:=r,done:=m.done+1 } d2 v) (bV b) (dm P hd ab m' d' v')):aU Tryz.prog Y 14 [.lo 0 0] (kW P hd ab m d v (.bG (aX x.g x.sh x.to (.v (.pointer none))))) (bV b) (dm P hd ab m' d' v'):=by
 have xB:(m.ag.map Tr.row).length=m.ag.length:=eS _;have e:kW P hd ab m d v (.v (.pointer none))=dm P hd ab { m with now:=r } d v:=by rw[← hz];rfl
 refine ru fun w S φ hg=>?_
 have hφ:φ.length=6:=hg.j5.len;refine af ?_;refine tH ?_;refine gu ?_;refine mw ?_;refine mw ?_;refine mw ?_;refine mw ?_;refine mw ?_;refine zr ?_;refine mL6 ?_;refine Ei ?_;have e2:kW P hd ab { m with done:=m.done+1 } d v (.v (.pointer none))=dm P hd ab { m with now:=r,done:=m.done+1 } d v:=by rw[← hz];rfl
 refine ajF ?_;have eE:=lT x.g.t (x.sh:Int) gt.iw.1 (gt.iC 1);rw[lZ gt ho hV]at eE;generalize dz x.sh x.g.t=u at eE dV;refine aF (eE) ?_;refine IC ?_;refine ajR ?_;refine oX ?_;refine adl ?_;exact F8
end Go.Proofs.YtaagocopollacaaGreatDoor

namespace Go.Proofs.YtaagocopollacaaGreatDoor
open Go aw Go.Proofs

theorem Zz (x:Td)(r:List Td):gn (x::r)=.bG (aX x.g x.sh x.to (gn r)):=by
 rw[gn];cases x;rename_i g _ _;cases g;rfl

theorem w8 {Q:D→Prop}(r:List Td)(hP:∀g s o z,gn r=.bG (aX g s o z)→Q (.bG (aX g s o z)))(hN:gn r=.v (.pointer none)→Q (.v (.pointer none))):Q (gn r):=by
 rcases gX r with ⟨g,s,o,z,h⟩ |h
 ·rw[h];exact hP g s o z h
 ·rw[h];exact hN h

structure HdG (hd:Tm):Prop where
 gt:∀x∈hd.l,GT x∧∀u∈Tm.cz x,u∈tZ
 len:hd.l.length≤8

theorem UM (Y:YP){P:List Cs}(hP:rk P)(hd:Tm)(ab:Nat){m:Mo}(hs:eB tZ m.B){t:Tr}(hf:m.az=t.az){done k0:Nat}(ht:Ml P.length ab done k0 t)(ho:t.other=false)(hT:m.ag.length≤1000000){res:Option (Nat × Cs × ak)}{d d':Nat}(v:Nat)(hD:w7 m.B m.az t.call t.oW d (P.drop t.oW) res d'):aU Tryz.prog Y 35 [.lo 0 0,.agg (xy t (gn t.tY))] (dm P hd ab m d v) (bV res.isSome) (ox P hd ab m t d' v res) :=
 w8 (Q:=fun z=>aU Tryz.prog Y 35 [.lo 0 0,.agg (xy t z)] (dm P hd ab m d v) (bV res.isSome) (ox P hd ab m t d' v res)) t.tY
  (fun g s o z h=>vk Y hP hd ab hs hf ht ho hT v g s o z h hD)
  (fun h=>vl Y hP hd ab hs hf ht ho hT v aM 0 0 (.v (.pointer none)) h hD)

theorem ZA (Y:YP){P:List Cs}(hP:rk P){hd:Tm}(hh:HdG hd)(ab:Nat){m:Mo}(hm:MI P.length ab m)(zP:ab≤1000)(hS:m.aD.length+1<1000000000000)(d v:Nat) :
  ∃d' v',aU Tryz.prog Y 14 [.lo 0 0] (dm P hd ab m d v) (bV (eh P hd ab m).2) (dm P hd ab (eh P hd ab m).1 d' v'):=by
 have UA:m.ag.length≤1000000:=by have:=hm.p2;omega
 cases zQ:m.now with
 |nil =>
  have cS:eh P hd ab m=jf P hd m:=by unfold eh;rw[zQ]
  rw[cS]
  have hA:∃d' v',acV P hd m d v (jf P hd m).2 (jf P hd m).1 d' v':=by
   unfold jf;cases he:oP m.B hd.l with
   |true =>
    rw[if_pos (show (hd.l.any fun x=>decide ((eH m.B x).2≠0))=true from he)];exact⟨_,_,.bad he⟩
   |false =>
    rw[if_neg (show ¬ (hd.l.any fun x=>decide ((eH m.B x).2≠0))=true from by rw[show (hd.l.any fun x=>decide ((eH m.B x).2≠0))=false from he];simp)];obtain⟨d',v',h⟩:=HF hP (m:={ m with aD:=m.aD++[nI (dH (bL m.B hd.l)).1] }) d v ⟨hm.sv,hm.tr⟩;exact⟨d',v',.ok he h⟩
  obtain⟨d',v',h⟩:=hA;exact⟨d',v',Zy Y hd ab zQ (UL Y hP hh.gt hh.len ab hm.b UA hS h)⟩
 |cons x r =>
  have xA:dm P hd ab m d v=kW P hd ab m d v (.bG (aX x.g x.sh x.to (gn r))):=by unfold dm kW;rw[zQ,Zz]
  rw[xA];have hn:=hm.now;have p1:=hm.p1;rw[zQ]at hn p1;rw[w6,OJ]at p1;obtain⟨⟨V,hV,hg⟩,Vk⟩:=hn.all x aC;have hgl:=Ap.1 hg;have hF:=hgl.1;obtain⟨B,f,T,nw,dn,sn⟩:=m;simp only at zQ;subst zQ;by_cases c1:x.g.k=0∨x.g.k=3
  ·rw [FO c1]
   exact ⟨d,v+1,w8 (Q:=fun z=>aU Tryz.prog Y 14 [.lo 0 0] (kW P hd ab ⟨B,f,T,x::r,dn,sn⟩ d v (.bG (aX x.g x.sh x.to z))) (bV true) (kW P hd ab ⟨B,f,T.take x.to,x::r,dn,sn⟩ d (v+1) z)) r
    (fun g s o z h=>LJ Y hd ab g s o z h c1 Vk d v) (fun h=>LK Y hd ab aM 0 0 (.v (.pointer none)) h c1 Vk d v)⟩
  have k0:x.g.k≠0:=fun e=>c1 (.inl e)
  have k3:x.g.k≠3:=fun e=>c1 (.inr e)
  by_cases c2:x.g.k=2
  ·rw [qH c2];obtain⟨gt,hk⟩:=hF.t (.inr c2);rw[if_pos (.inl c2)]at p1;have hVF:x.sh+V≤110000:=by show _≤_;have:x.sh+V≤f:=hV;have:f+8 * _+_≤110000:=p1;omega
   obtain⟨g1,g2⟩:=CV gt (hF.o (.inr c2)) hV (by have:f+8 * _+_≤110000:=p1;show f≤_;omega);have hku:(dz x.sh x.g.t).k=3:=by unfold dz;rw[sf];exact hk
   have gQ:mf ((dz x.sh x.g.t).s,((dz x.sh x.g.t).l.length:Int))=true:=by
    have h:=hF.b c2;unfold dz;rw[sf];show mf (x.g.t.s,((Tm.dj _ x.g.t.l).length:Int))=true
    rw[Tm.jQ,eS];exact h
   have hl:∀y∈(dz x.sh x.g.t).l,GT y∧∀u∈Tm.cz y,u∈tZ:=fun y hy=>by
    obtain⟨a1,a2⟩:=HD g1 hku g2 hy;exact⟨a1,CW (by have:f+8 * _+_≤110000:=p1;show f≤_;omega) a2⟩
   have hf8:f≤110000 - 8:=by have:f+8 * _+_≤110000:=p1;omega
   obtain⟨d',v',hD⟩:=aiu hP (m:=⟨B,f,T,r,dn,sn⟩) d v (t:=dz x.sh x.g.t) (ab:=ab) ⟨hm.sv,hm.tr⟩ hl hf8;have Ga:=Zx Y hP hd ab g1 hku gQ hl (m:=⟨B,f,T,r,dn,sn⟩) ⟨hm.sv,hm.tr⟩ hf8 UA hS hD
   exact ⟨d',v',w8 (Q:=fun z=>aU Tryz.prog Y 14 [.lo 0 0] (kW P hd ab ⟨B,f,T,x::r,dn,sn⟩ d v (.bG (aX x.g x.sh x.to z))) (bV (oo P ⟨B,f,T,r,dn,sn⟩ (dz x.sh x.g.t)).2) (dm P hd ab (oo P ⟨B,f,T,r,dn,sn⟩ (dz x.sh x.g.t)).1 d' v')) r
    (fun g s o z h=>HJ Y hd ab g s o z h c2 gt (hF.o (.inr c2)) hVF d v Ga) (fun h=>HK Y hd ab aM 0 0 (.v (.pointer none)) h c2 gt (hF.o (.inr c2)) hVF d v Ga)⟩
  have hla:=hF.len.1;have hlb:=hF.len.2.1;have hlc:=hF.len.2.2;by_cases c4:x.g.k=4
  ·rw [wX c4]
   exact ⟨d,v+1,w8 (Q:=fun z=>aU Tryz.prog Y 14 [.lo 0 0] (kW P hd ab ⟨B,f,T,x::r,dn,sn⟩ d v (.bG (aX x.g x.sh x.to z))) (bV true) (gT P hd ab ⟨B,f,T,r,dn,sn⟩ x (bJ x.g.c x.sh x.to r) (bJ x.g.b x.sh x.to r) d v)) r
    (fun g s o z h=>OL Y hd ab g s o z h c4 UA an an an d v) (fun h=>OM Y hd ab aM 0 0 (.v (.pointer none)) h c4 UA an an an d v)⟩
  by_cases c5:x.g.k=5
  ·rw [yv c5]
   exact ⟨d,v+1,w8 (Q:=fun z=>aU Tryz.prog Y 14 [.lo 0 0] (kW P hd ab ⟨B,f,T,x::r,dn,sn⟩ d v (.bG (aX x.g x.sh x.to z))) (bV true) (gT P hd ab ⟨B,f,T,r,dn,sn⟩ x r (bJ [dK] 0 0 []) d v)) r
    (fun g s o z h=>LL Y hd ab g s o z h c5 UA an d v) (fun h=>LM Y hd ab aM 0 0 (.v (.pointer none)) h c5 UA an d v)⟩
  by_cases c6:x.g.k=1
  ·by_cases c7:ab≤dn
   ·rw [CR c6 c7]
    exact ⟨d,v,w8 (Q:=fun z=>aU Tryz.prog Y 14 [.lo 0 0] (kW P hd ab ⟨B,f,T,x::r,dn,sn⟩ d v (.bG (aX x.g x.sh x.to z))) (bV false) (dm P hd ab ⟨B,f,T,r,dn,sn++[ko]⟩ d v)) r
     (fun g s o z h=>HL Y hd ab g s o z h c6 c7 (by show sn.length<_;have:sn.length+1<_:=hS;omega) d v) (fun h=>HM Y hd ab aM 0 0 (.v (.pointer none)) h c6 c7 (by show sn.length<_;have:sn.length+1<_:=hS;omega) d v)⟩
   ·rw [CS c6 c7];rw[sr _ (m1:=⟨B,f,T,[],dn+1,sn⟩) (m2:=⟨B,f,T,r,dn+1,sn⟩) rfl rfl rfl rfl rfl];obtain⟨gt,hk⟩:=hF.t (.inl c6);have p1':f+8 * ((if x.g.k=2∨x.g.k=5 then 1 else 0)+ua x.g.a+ua x.g.b+ua x.g.c+zh r)+(ab - dn) * 1160≤110000:=p1;have p2':T.length+mj (x::r)+(ab - dn) * 90≤1000000:=hm.p2;rw[tB]at p2'
    have e3:(ab - dn) * 1160=(ab - (dn+1)) * 1160+1160:=by
     have:ab - dn=(ab - (dn+1))+1:=by omega
     rw[this,Nat.add_mul]
    have e4:(ab - dn) * 90=(ab - (dn+1)) * 90+90:=by
     have:ab - dn=(ab - (dn+1))+1:=by omega
     rw[this,Nat.add_mul]
    have hV':x.sh+V≤f:=hV;have hVF:x.sh+V≤110000:=by omega
    obtain⟨g1,g2⟩:=CV gt (hF.o (.inl c6)) hV' an;have hpw:=xz.1 hn.pw
    have ht:Ml P.length ab (dn+1) T.length ⟨B.length,f,dz x.sh x.g.t,0,r,false⟩:=by
     refine⟨⟨fun y hy=>hn.all y kb,hpw.2⟩,?_,?_,cT _,fun _=>⟨g1,g2⟩⟩
     ·show f+8 * zh r+1160+(ab - (dn+1)) * 1160≤110000
      omega
     ·show T.length+mj r+90+(ab - (dn+1)) * 90≤1000000
      omega
    obtain⟨res,d2,h1,h2⟩:=Au hP (m:=⟨B,f,T,r,dn+1,sn⟩) (t:=⟨B.length,f,dz x.sh x.g.t,0,r,false⟩) hm.sv rfl ht rfl P 0 d rfl;rw[h2];have dV:=UM Y hP hd ab (m:=⟨B,f,T,r,dn+1,sn⟩) (t:=⟨B.length,f,dz x.sh x.g.t,0,r,false⟩) hm.sv rfl ht rfl UA v h1;have QD:dn<100000000:=by omega
    cases res with
    |some y =>
     obtain⟨i,c,B'⟩:=y
     exact ⟨d2,v+1,w8 (Q:=fun z=>aU Tryz.prog Y 14 [.lo 0 0] (kW P hd ab ⟨B,f,T,x::r,dn,sn⟩ d v (.bG (aX x.g x.sh x.to z))) (bV true) (dm P hd ab (Mw ⟨B,f,T,r,dn+1,sn⟩ ⟨B.length,f,dz x.sh x.g.t,0,r,false⟩ i c B') d2 (v+1))) r
      (fun g s o z h=>LN Y hd ab g s o z h c6 gt (hF.o (.inl c6)) hVF c7 QD d v aaZ) (fun h=>LO Y hd ab aM 0 0 (.v (.pointer none)) h c6 gt (hF.o (.inl c6)) hVF c7 QD d v aaZ)⟩
    |none =>
     have Q2:BI P.length ab ⟨B,f,T,r,dn+1,sn⟩:=⟨hm.sv,hm.tr.done (by show dn≤dn+1;omega)⟩;obtain⟨d',v',U9⟩:=HF hP d2 v Q2;have EJ:=HG Y hP hd ab Q2 UA (by show sn.length<_;have:sn.length+1<_:=hS;omega) U9
     exact ⟨d',v',w8 (Q:=fun z=>aU Tryz.prog Y 14 [.lo 0 0] (kW P hd ab ⟨B,f,T,x::r,dn,sn⟩ d v (.bG (aX x.g x.sh x.to z))) (bV (ep P ⟨B,f,T,r,dn+1,sn⟩).2) (dm P hd ab (ep P ⟨B,f,T,r,dn+1,sn⟩).1 d' v')) r
      (fun g s o z h=>HN Y hd ab g s o z h c6 gt (hF.o (.inl c6)) hVF c7 QD d v aaZ EJ) (fun h=>HO Y hd ab aM 0 0 (.v (.pointer none)) h c6 gt (hF.o (.inl c6)) hVF c7 QD d v aaZ EJ)⟩
  ·rw [CT k0 c6 c2 k3 c4 c5]
   exact ⟨d,v,w8 (Q:=fun z=>aU Tryz.prog Y 14 [.lo 0 0] (kW P hd ab ⟨B,f,T,x::r,dn,sn⟩ d v (.bG (aX x.g x.sh x.to z))) (bV true) (kW P hd ab ⟨B,f,T,x::r,dn,sn⟩ d v z)) r
    (fun g s o z h=>HH Y hd ab g s o z h k0 c6 c2 k3 c4 c5 d v) (fun h=>HI Y hd ab aM 0 0 (.v (.pointer none)) h k0 c6 c2 k3 c4 c5 d v)⟩
def Po (v left:Int):List Ob:=[.box [iV v,iV left]]

theorem Eh (Y:YP)(v left:Int)(t:Tm)(ht:SmT t):aU Tryz.prog Y 51 [.lo 0 0,t.av] (Po v left) (bV (qA v t)) (Po v left):=by
 refine uw Tryz.func51 fun w S φ hg=>?_
 refine aF (eY t (by have:=ht.1;omega) (ht.2 1)) ?_;refine aj (fun h=>?_) fun h=>?_
 ·have h:c0 t=false:=by simpa using h
  rw[show qA v t=false by unfold qA;rw[h];rfl];exact lI
 have h:c0 t=true:=by simpa using h
 have hv:=(tc [t] (by have:=ht.1;simp[Tm.ay];omega)).one;have aZ:(bH [t]).length≤t.size:=uf t;have hc:qA v t=(bH [t]).all fun x=>decide (x<v):=by unfold qA;rw[h];rfl
 generalize bH [t]=V at *;have hs:=ht.1;refine aF (hv) ?_;refine bh (fun k:Nat=>([(0,.lo 0 0),(12,.d (.sl (di V))),(13,iV V.length),(14,iV k)],Po v left++[aP t])) (fun k=>k≤V.length∧qA v t=(V.drop k).all fun x=>decide (x<v)) (fun k=>V.length - k) 0 ⟨cT _,hc⟩ ⟨.refl _,.refl _,by rw[bR];exact .refl _,.refl _,trivial⟩ rfl ?_;rintro k ⟨hk,hm⟩;refine af ?_;refine aj (fun h=>?_) fun h=>?_
 ·have aR:k<V.length:=bK h rfl;have e1:V[k]? = some V[k]:=dY aR;rw[List.drop_eq_getElem_cons aR,rE]at hm;generalize V[k]=x at e1 hm;refine cW (lg e1) ?_;refine aj (fun h=>?_) fun h=>?_
  ·rw [hm,show decide (x<v)=false by simpa using h];exact lI
  ·exact bp (k+1) ⟨aR,by rw[hm,show decide (x<v)=true by simpa using h,jX]⟩ an af9 rfl
 ·have aR:V.length≤k:=cf h rfl;rw[hm,gD aR];exact lI
def IL (g:Gl):Ob:=.box [.d (.v (.int .i64 g.k)),.d (.v (.int .i64 g.t.k)),.d (.v (.string g.t.s)),.d (.v (.int .i64 g.t.n)),.d (.sl (Tm.aa g.t.l)),.d (.sl (Gl.aa g.a)),.d (.sl (Gl.aa g.b)),.d (.sl (Gl.aa g.c))]

def CkG (Y:YP) (v:Int) (l:List Gl):Prop:=∀ (left aq:Int) (aH:Bool),fO SmT l→(Gl.ay l:Int) - 1000000000≤left→left≤1000→0≤aq→aq+Gl.ay l≤1000000000 →
 aU Tryz.prog Y 52 [.lo 0 0,.d (.sl (Gl.aa l)),iV aq,bV aH] (Po v left) (bV (b9 v l left aq aH).1) (Po v (b9 v l left aq aH).2)

theorem acY (a b c:List Gl):(((a.length:Int)+b.length+c.length)==0)=ig a b c:=by
 unfold ig;rw[vK];simp only[beq_iff_eq,decide_eq_true_eq];omega

theorem ON (Y:YP)(v:Int)(l:List Gl):CkG Y v l:=by
 refine Gl.Nv (p:=CkG Y v) (fun l fH=>?_) l;intro left aq aH hl h1 h2 h3 h4;have aZ:=Gl.pJ l;refine uw Tryz.func52 fun w S φ hg=>?_
 refine bh (fun x:Nat × Int=>([(0,.lo 0 0),(2,iV aq),(3,bV aH),(13,.d (.sl (Gl.aa l))),(14,iV l.length),(15,iV x.1)],Po v x.2)) (fun x=>x.1≤l.length∧b9 v l left aq aH=b9 v (l.drop x.1) x.2 aq aH∧(Gl.ay (l.drop x.1):Int) - 1000000000≤x.2∧x.2≤1000) (fun x=>l.length - x.1) (0,left) ⟨cT _,rfl,h1,h2⟩ ⟨.refl _,.refl _,.refl _,.refl _,by rw[Gl.au];exact .refl _,.refl _,trivial⟩ rfl ?_;rintro⟨k,eP⟩ ⟨hk,hm,Q2,zF⟩;refine af ?_;refine aj (fun h=>?_) fun h=>?_
 ·have aR:k<l.length:=bK h rfl;have e1:l[k]? = some l[k]:=dY aR;have hmem:=eg aR;rw[List.drop_eq_getElem_cons aR]at hm Q2;generalize l[k]=g at e1 hm hmem Q2;have hsz:=Gl.ct hmem;obtain⟨sa,sb,sc⟩:=fH g hmem;obtain⟨st,ma,mb,mc⟩:=yi hl g hmem;simp only[Gl.ay]at Q2;have hge:=Gl.size_eq g;have hla:=Gl.pJ g.a;have hlb:=Gl.pJ g.b;have hlc:=Gl.pJ g.c;have htp:=Gl.y2 g.t;have hw:IntKind.i64.wrap (eP - 1)=eP - 1:=sK an an;refine cW (Gl.aB e1) ?_;rw[hw,Gl.au g.a,Gl.au g.b,Gl.au g.c,sK (n:=(g.a.length:Int)+g.b.length) an an,sK (n:=(g.a.length:Int)+g.b.length+g.c.length) an an,acY];refine ahi (fun x:Bool × Int=>([(0,.lo 0 0),(2,iV aq),(3,bV aH),(12,bV x.1),(13,.d (.sl (Gl.aa l))),(14,iV l.length),(15,iV k)],Po v x.2++[IL g])) (fun x=>x=ij v g (eP - 1) aq aH) rfl ?_ ?_
  ·by_cases c1:g.k=1
   ·have hx:ij v g (eP - 1) aq aH=(ig g.a g.b g.c&&qA v g.t&&tV g.t,eP - 1):=by rw [kG,if_pos c1]
    refine cQ hg.ok rfl rfl (by simp[c1]) rfl rfl ?_;refine aj (fun n1=>?_) fun n1=>?_
    ·refine adr ?_;refine aj (fun n2=>?_) fun n2=>?_
     ·refine aF (Lj g.t) ?_;exact q0 (tV g.t,eP - 1) (by rw[hx,n1,n2];rfl) DC rfl
     ·exact afZ
    ·exact af0
   refine en hg.ok rfl rfl (by simp[c1]) rfl rfl ?_;by_cases c2:g.k=2
   ·have hx:ij v g (eP - 1) aq aH=(ig g.a g.b g.c&&qA v g.t&&(g.t.k==3)&&mf (iv g.t),eP - 1):=by rw [kG,if_neg c1,if_pos c2]
    refine cQ hg.ok rfl rfl (by simp[c2]) rfl rfl ?_;refine aj (fun n1=>?_) fun n1=>?_
    ·refine adr ?_;refine aj (fun n2=>?_) fun n2=>?_
     ·refine aj (fun n3=>?_) fun n3=>?_
      ·refine aF (ze g.t) ?_;exact q0 (mf (iv g.t),eP - 1) (by rw[hx,n1,n2,n3];rfl) DC rfl
      ·exact q0 (false,eP - 1) (by rw[hx,n1,n2,n3];rfl) ⟨.refl _,.refl _,.refl _,agk,.refl _,.refl _,.refl _,trivial⟩ rfl
     ·exact afZ
    ·exact af0
   refine en hg.ok rfl rfl (by simp[c2]) rfl rfl ?_;by_cases c3:g.k=3
   ·have hx:ij v g (eP - 1) aq aH=(ig g.a g.b g.c&&j9 g.t&&aH,eP - 1):=by rw [kG,if_neg c1,if_neg c2,if_pos c3]
    refine cQ hg.ok rfl rfl (by simp[c3]) rfl rfl ?_;refine aj (fun n1=>?_) fun n1=>?_
    ·refine aF (vg g.t) ?_;refine aj (fun n2=>?_) fun n2=>?_
     ·exact q0 (aH,eP - 1) (by rw[hx,n1,n2];rfl) DC rfl
     ·exact afZ
    ·exact af0
   refine en hg.ok rfl rfl (by simp[c3]) rfl rfl ?_;have la:=tf v g.a (eP - 1) (aq+1) false;have la2:=(KN v g.a (eP - 1) (aq+1) false).2.2;have lb:=tf v g.b (b9 v g.a (eP - 1) (aq+1) false).2 (aq+1) aH;have lb2:=(KN v g.b (b9 v g.a (eP - 1) (aq+1) false).2 (aq+1) aH).2.2;have hwd:IntKind.i64.wrap (aq+1)=aq+1:=sK an an;have CA:=sa (eP - 1) (aq+1) false ma an an an an;by_cases c4:g.k=4
   ·have CB:=sb (b9 v g.a (eP - 1) (aq+1) false).2 (aq+1) aH mb an an an an;have CC:=sc (b9 v g.b (b9 v g.a (eP - 1) (aq+1) false).2 (aq+1) aH).2 (aq+1) aH mc an an an an;have hx:=kG v g (eP - 1) aq aH;rw[if_neg c1,if_neg c2,if_neg c3,if_pos c4]at hx;refine cQ hg.ok rfl rfl (by simp[c4]) rfl rfl ?_;refine aF (vg g.t) ?_;refine aj (fun n1=>?_) fun n1=>?_
    ·rw [if_pos n1] at hx;rw[hwd];refine ads ?_;refine aj (fun n2=>?_) fun n2=>?_
     ·rw [if_pos n2] at hx;rw[hwd];refine ai hg.ok hg.cm hg.wide hg.Y [0] (Po v (b9 v g.b (b9 v g.a (eP - 1) (aq+1) false).2 (aq+1) aH).2++[IL g]) (CB) cF rfl rfl rfl rfl rfl rfl rfl rfl (af ?_);refine aj (fun n3=>?_) fun n3=>?_
      ·rw [if_pos n3] at hx;rw[hwd];refine ai hg.ok hg.cm hg.wide hg.Y [0] (Po v (b9 v g.c (b9 v g.b (b9 v g.a (eP - 1) (aq+1) false).2 (aq+1) aH).2 (aq+1) aH).2++[IL g]) (CC) cF rfl rfl rfl rfl rfl rfl rfl rfl (af ?_);exact q0 (b9 v g.c (b9 v g.b (b9 v g.a (eP - 1) (aq+1) false).2 (aq+1) aH).2 (aq+1) aH) hx.symm DC rfl
      ·rw [if_neg (by rw [n3]; simp)] at hx;exact q0 (false,(b9 v g.b (b9 v g.a (eP - 1) (aq+1) false).2 (aq+1) aH).2) hx.symm ⟨.refl _,.refl _,.refl _,agk,.refl _,.refl _,.refl _,trivial⟩ rfl
     ·rw [if_neg (by rw [n2]; simp)] at hx;exact q0 (false,(b9 v g.a (eP - 1) (aq+1) false).2) hx.symm ⟨.refl _,.refl _,.refl _,agk,.refl _,.refl _,.refl _,trivial⟩ rfl
    ·rw [if_neg (by rw [n1]; simp)] at hx;exact aaE
   refine en hg.ok rfl rfl (by simp[c4]) rfl rfl ?_;by_cases c5:g.k=5
   ·have hx:=kG v g (eP - 1) aq aH;rw[if_neg c1,if_neg c2,if_neg c3,if_neg c4,if_pos c5]at hx;refine cQ hg.ok rfl rfl (by simp[c5]) rfl rfl ?_;refine aF (vg g.t) ?_;refine aj (fun n1=>?_) fun n1=>?_
    ·rw [Gl.au g.b,Gl.au g.c,sK (n:=(g.b.length:Int)+g.c.length) an an];refine aj (fun n2=>?_) fun n2=>?_
     ·rw [n1,decide_eq_true (show g.b.length+g.c.length=0 by simp at n2; omega)] at hx;simp only[PY,if_true]at hx;rw[hwd];refine ads ?_;exact q0 (b9 v g.a (eP - 1) (aq+1) false) hx.symm DC rfl
     ·rw [n1,decide_eq_false (show ¬ g.b.length+g.c.length=0 by simp at n2; omega)] at hx;exact aaE
    ·rw [n1] at hx;exact aaE
   refine en hg.ok rfl rfl (by simp[c5]) rfl rfl ?_;have hx:=kG v g (eP - 1) aq aH;rw[if_neg c1,if_neg c2,if_neg c3,if_neg c4,if_neg c5]at hx;exact aaE
  ·rintro ⟨fair,Ru⟩ hx;have hlw:=Yq v g (eP - 1) aq aH;simp only[b9]at hm;rw[← hx]at hm hlw;simp only at hm hlw;refine af ?_;refine aj (fun n1=>?_) fun n1=>?_
   ·have n1:fair=false:=by simpa using n1
    subst n1;rw[if_pos aC]at hm;rw[hm];exact lI
   ·have n1:fair=true:=by simpa using n1
    subst n1;refine aj (fun n2=>?_) fun n2=>?_
    ·rw [if_pos (by rw [n2]; simp)] at hm;rw[hm];exact lI
    ·refine aj (fun n3=>?_) fun n3=>?_
     ·rw [if_pos (by rw [show decide (10<aq)=true from n3]; simp)] at hm;rw[hm];exact lI
     ·rw [if_neg (by rw [n2,show decide (10<aq)=false from n3]; simp)] at hm;refine bb 1 (Po v Ru) (by show φ.length≤1;exact Nat.le_of_eq hg.j5.len) rfl rfl ?_;exact bp (k+1,Ru) ⟨aR,hm,by show (Gl.ay (l.drop (k+1)):Int) - 1000000000≤Ru;omega,by show Ru≤1000;omega⟩ ka ⟨.refl _,.refl _,.refl _,.refl _,.refl _,bM.wrap ka ka ka,trivial⟩ rfl
 ·have aR:l.length≤k:=cf h rfl;rw[hm,gD aR];simp only[b9];exact lI
def afx (x:Cs):Ob:=.box [.d (.v (.int .i64 x.head.k)),.d (.v (.string x.head.s)),.d (.v (.int .i64 x.head.n)),.d (.sl (Tm.aa x.head.l)),.d (.sl (Gl.aa x.body)),.d (.v (.int .i64 x.vars))]

theorem zj (x:Cs)(hx:TR x):bD Tryz.prog 27 [x.av] (bV (nA x)):=by
 have hb:=hx.size;refine zp Tryz.func27 fun w S hg=>?_
 refine aj (fun n1=>?_) fun n1=>?_
 rotate_left
 ·refine cq ?_;unfold nA;rw[show decide (0≤x.vars)=false from n1];rfl
 refine aj (fun n2=>?_) fun n2=>?_
 rotate_left
 ·refine cq ?_;unfold nA;rw[show decide (0≤x.vars)=true from n1,show decide (x.vars≤1000)=false from n2];rfl
 refine ai hg.ok hg.cm ⟨rfl,rfl⟩ (fun _ _ _ _ h=>by cases h) [1] ([afx x]++Po x.vars 20) (Eh ⟨[],fun _=>true⟩ x.vars 20 x.head hx.head) cF rfl rfl rfl rfl rfl rfl rfl rfl (af ?_);refine aj (fun n3=>?_) fun n3=>?_
 rotate_left
 ·refine cq ?_;unfold nA;rw[show decide (0≤x.vars)=true from n1,show decide (x.vars≤1000)=true from n2,n3];rfl
 refine aF (Lj x.head) ?_;refine aj (fun n4=>?_) fun n4=>?_
 rotate_left
 ·refine cq ?_;unfold nA;rw[show decide (0≤x.vars)=true from n1,show decide (x.vars≤1000)=true from n2,n3,n4];rfl
 refine ai hg.ok hg.cm ⟨rfl,rfl⟩ (fun _ _ _ _ h=>by cases h) [1] ([afx x]++Po x.vars (b9 x.vars x.body 20 1 true).2) (ON ⟨[],fun _=>true⟩ x.vars x.body 20 1 true hx.body an an an an) cF rfl rfl rfl rfl rfl rfl rfl rfl (af ?_);refine cq ?_;unfold nA;rw[show decide (0≤x.vars)=true from n1,show decide (x.vars≤1000)=true from n2,n3,n4];rfl

theorem LP (l:List Cs)(hl:l.length≤1000000):bD Tryz.prog 47 [Dx l] (.d (.map (dsM (hdS l)))):=by
 refine zp Tryz.func47 fun w S hg=>?_
 refine DB ?_;refine bh (fun x:Nat × List Sg=>([(3,.mp 1),(8,.d (.sl (Cs.aa l))),(9,iV l.length),(10,iV x.1)],[.box [.d (.sl (Cs.aa l))],.map (mF (Mk x.2))])) (fun x=>x.1≤l.length∧hdS l=(l.drop x.1).foldl (fun ks c=>D3 ks (iv c.head)) x.2) (fun x=>l.length - x.1) (0,[]) ⟨cT _,rfl⟩ ⟨.refl _,.refl _,by rw[Cs.kE];exact .refl _,.refl _,trivial⟩ rfl ?_;rintro⟨k,ks⟩ ⟨hk,hm⟩;refine af ?_;refine iD (fun h=>?_) fun h=>?_
 ·refine af ?_;have aR:k<l.length:=bK h rfl;have e1:l[k]? = some l[k]:=dY aR;rw[List.drop_eq_getElem_cons aR,vI]at hm;generalize l[k]=c at e1 hm;refine cW (Cs.aB e1) ?_;refine aF (yr c.head) ?_;refine ahB hg.ok (iv c.head) (Mk ks) (Mk (D3 ks (iv c.head))) Hw rfl rfl rfl rfl rfl rfl (v':=bV true) (by first |exact .refl _ |exact .tt) (ach _ _) (af ?_);refine bb 2 [.box [.d (.sl (Cs.aa l))],.map (mF (Mk (D3 ks (iv c.head))))] fy rfl (congrArg (fun x=>[Ob.box [AV.d (.sl (Cs.aa l))],x]) (Ys rfl _)) ?_;exact bp (k+1,D3 ks (iv c.head)) ⟨aR,hm⟩ ka ⟨.refl _,.refl _,.refl _,bM.wrap ka ka ka,trivial⟩ rfl
 ·have aR:l.length≤k:=cf h rfl;rw[gD aR]at hm;simp only[List.foldl_nil]at hm;rw[hm];refine x9 hg.cm 1 (dsM ks) fy (by rw[NR];rfl) rfl (af ?_);refine cq ?_;rfl

theorem CZ (ks:List Sg)(l:List Gl):Gl.ay l≤1000000→bD Tryz.prog 48 [.d (.sl (Gl.aa l)),.d (.map (dsM ks))] (bV (cR (iQ ks) l)):=by
 refine Gl.Nv (p:=fun l=>Gl.ay l≤1000000→bD Tryz.prog 48 [.d (.sl (Gl.aa l)),.d (.map (dsM ks))] (bV (cR (iQ ks) l))) (fun l fH=>?_) l;intro hl;have aZ:=Gl.pJ l;refine zp Tryz.func48 fun w S hg=>?_
 refine bh (fun k:Nat=>([(1,.d (.map (dsM ks))),(7,.d (.sl (Gl.aa l))),(8,iV l.length),(9,iV k)],[])) (fun k=>k≤l.length∧cR (iQ ks) l=cR (iQ ks) (l.drop k)) (fun k=>l.length - k) 0 ⟨cT _,rfl⟩ ⟨.refl _,.refl _,by rw[Gl.au];exact .refl _,.refl _,trivial⟩ rfl ?_;rintro k ⟨hk,hm⟩;refine af ?_;refine aj (fun h=>?_) fun h=>?_
 ·have aR:k<l.length:=bK h rfl;have e1:l[k]? = some l[k]:=dY aR;have hmem:=eg aR;rw[List.drop_eq_getElem_cons aR]at hm;generalize l[k]=g at e1 hm hmem;have hsz:=Gl.ct hmem;have hge:=Gl.size_eq g;obtain⟨sa,sb,sc⟩:=fH g hmem;simp only[cR,TQ]at hm;refine cW (Gl.aB e1) ?_;by_cases sM:((g.k==1) && !iQ ks (iv g.t))=true
  ·rw [sM] at hm;simp only[aV,xM]at sM;refine cQ hg.ok rfl rfl (by simp[sM.1]) rfl rfl ?_;refine aF (yr g.t) ?_;refine BN hg.ok (iv g.t) (Mk ks) (NR ks) Hw rfl rfl rfl rfl rfl rfl (v:=.ff) (by rw[Q6,sM.2];rfl) (af ?_);refine cq ?_;rw[hm];rfl
  ·have aiw:((g.k==1) && !iQ ks (iv g.t))=false:=Bool.eq_false_iff.2 sM;rw[aiw]at hm;cases hk1':(g.k==1) with
   |false =>
    refine en hg.ok rfl rfl (by simp[hk1']) rfl rfl ?_;refine aF (sa an) ?_;refine aj (fun n1=>?_) fun n1=>?_
    ·refine cq ?_;rw[hm,show cR (iQ ks) g.a=false by simpa using n1];rfl
    have n1:cR (iQ ks) g.a=true:=by simpa using n1
    refine aF (sb an) ?_;refine aj (fun n2=>?_) fun n2=>?_
    ·refine cq ?_;rw[hm,n1,show cR (iQ ks) g.b=false by simpa using n2];rfl
    have n2:cR (iQ ks) g.b=true:=by simpa using n2
    refine aF (sc an) ?_;refine aj (fun n3=>?_) fun n3=>?_
    ·refine cq ?_;rw[hm,n1,n2,show cR (iQ ks) g.c=false by simpa using n3];rfl
    have n3:cR (iQ ks) g.c=true:=by simpa using n3
    rw[n1,n2,n3]at hm;refine Ek ?_;exact Vx
   |true =>
    have hh:iQ ks (iv g.t)=true:=by rw[hk1']at aiw;simpa using aiw
    refine cQ hg.ok rfl rfl (by simp[hk1']) rfl rfl ?_;refine aF (yr g.t) ?_;refine BN hg.ok (iv g.t) (Mk ks) (NR ks) Hw rfl rfl rfl rfl rfl rfl (v:=bV true) (by rw[Q6,hh];rfl) (af ?_);refine gu ?_;refine aF (sa an) ?_;refine aj (fun n1=>?_) fun n1=>?_
    ·refine cq ?_;rw[hm,show cR (iQ ks) g.a=false by simpa using n1];rfl
    have n1:cR (iQ ks) g.a=true:=by simpa using n1
    refine aF (sb an) ?_;refine aj (fun n2=>?_) fun n2=>?_
    ·refine cq ?_;rw[hm,n1,show cR (iQ ks) g.b=false by simpa using n2];rfl
    have n2:cR (iQ ks) g.b=true:=by simpa using n2
    refine aF (sc an) ?_;refine aj (fun n3=>?_) fun n3=>?_
    ·refine cq ?_;rw[hm,n1,n2,show cR (iQ ks) g.c=false by simpa using n3];rfl
    have n3:cR (iQ ks) g.c=true:=by simpa using n3
    rw[n1,n2,n3]at hm;refine Ek ?_;exact Vx
 ·have aR:l.length≤k:=cf h rfl;refine cq ?_;rw[hm,gD aR];rfl
theorem FW (l:List Cs):iQ (hdS l)=pP l:=funext (aci l)

theorem FX (g:List Gl)(l:List Cs)(hg:Gl.ay g≤1000000)(hl:l.length≤1000000):bD Tryz.prog 24 [.d (.sl (Gl.aa g)),Dx l] (bV (cR (pP l) g)):=by
 have h:=CZ (hdS l) g hg;rw[FW]at h;refine zp Tryz.func24 fun w S hg=>?_
 refine aF (LP l hl) ?_;refine aF (h) ?_;refine cq ?_;rfl

theorem zk {α:Type}(p:α→Bool){l:List α}{k:Nat}{x:α}(h:l[k]? = some x):iP p (l.drop k) k=if p x then iP p (l.drop (k+1)) (k+1) else some k:=by
 exact akH

theorem LQ (l:List Cs)(hl:∀c∈l,TR c):bD Tryz.prog 22 [Dx l] (.cH [iV (jV l).1,iV (jV l).2]):=by
 refine zp Tryz.func22 fun w S hg=>?_
 by_cases h2:200<l.length
 ·refine cQ hg.ok rfl rfl (by simp [Cs.kE]; omega) rfl rfl ?_;refine cq ?_;unfold jV;rw[if_pos h2];rfl
 refine en hg.ok rfl rfl (by simp[Cs.kE];omega) rfl rfl ?_;have hc0:jV l=match iP nA l 0 with
  |some i=>((i:Int),1)
  |none=>match iP (fun c=>cR (pP l) c.body) l 0 with
   |some i=>((i:Int),9)
   |none=>(0,0):=by unfold jV;rw[if_neg h2];rfl
 refine uR (fun _:Unit=>([(1,.lo 0 0)],[.box [.d (.sl (Cs.aa l))]])) (fun _=>iP nA l 0=none) rfl ?_ ?_
 ·refine bh (fun k:Nat=>([(1,.lo 0 0),(14,.d (.sl (Cs.aa l))),(15,iV l.length),(16,iV k)],[.box [.d (.sl (Cs.aa l))]])) (fun k=>k≤l.length∧iP nA l 0=iP nA (l.drop k) k) (fun k=>l.length - k) 0 ⟨cT _,rfl⟩ ⟨.refl _,.refl _,by rw [Cs.kE]; exact .refl _,.refl _,trivial⟩ rfl ?_;rintro k ⟨hk,hm⟩;refine af ?_;refine aj (fun h=>?_) fun h=>?_
  ·have aR:k<l.length:=bK h rfl;have e1:l[k]? = some l[k]:=dY aR;have hs:=hl _ (eg aR);generalize l[k]=c at e1 hs;rw[zk nA e1]at hm;refine cW (Cs.aB e1) ?_;refine aF (zj c hs) ?_;refine aj (fun h=>?_) fun h=>?_
   ·have h:nA c=false:=by simpa using h
    rw[if_neg (by rw[h];simp)]at hm;rw[hc0,hm];refine cq ?_;rfl
   ·have h:nA c=true:=by simpa using h
    rw[if_pos h]at hm;refine bb 1 [.box [.d (.sl (Cs.aa l))]] fy rfl rfl ?_;exact Vx
  ·have aR:l.length≤k:=cf h rfl;rw[gD aR]at hm;exact q0 () hm Sf rfl
 rintro _ hn;rw[hn]at hc0;simp only at hc0;refine af ?_;refine aF (LP l an) ?_;refine bh (fun k:Nat=>([(6,.d (.map (dsM (hdS l)))),(29,.d (.sl (Cs.aa l))),(30,iV l.length),(31,iV k)],[.box [.d (.sl (Cs.aa l))]])) (fun k=>k≤l.length∧iP (fun c=>cR (pP l) c.body) l 0=iP (fun c=>cR (pP l) c.body) (l.drop k) k) (fun k=>l.length - k) 0 ⟨cT _,rfl⟩ ⟨.refl _,.refl _,by rw[Cs.kE];exact .refl _,.refl _,trivial⟩ rfl ?_;rintro k ⟨hk,hm⟩;refine af ?_;refine aj (fun h=>?_) fun h=>?_
 ·have aR:k<l.length:=bK h rfl;have e1:l[k]? = some l[k]:=dY aR;have hs:=hl _ (eg aR);generalize l[k]=c at e1 hs;rw[zk (fun c=>cR (pP l) c.body) e1]at hm;have ht:=CZ (hdS l) c.body hs.size;rw[FW]at ht;refine cW (Cs.aB e1) ?_;refine aF (ht) ?_;refine aj (fun h=>?_) fun h=>?_
  ·have h:cR (pP l) c.body=false:=by simpa using h
   rw[if_neg (by rw[h];simp)]at hm;rw[hc0,hm];refine cq ?_;rfl
  ·have h:cR (pP l) c.body=true:=by simpa using h
   rw[if_pos h]at hm;refine bb 1 [.box [.d (.sl (Cs.aa l))]] fy rfl rfl ?_;exact Vx
 ·have aR:l.length≤k:=cf h rfl;rw[gD aR]at hm;rw[hc0,hm];refine cq ?_;rfl

theorem OO (l:List Gl):∀ (m d:Int),(∀g∈l,g.Ok)→l.length≤140737488355328→-1000≤d∧d≤1000→bD Tryz.prog 17 [.d (.sl (Gl.aa l)),iV m,iV d] (iV (fc l m d)):=by
 refine Gl.Nv (p:=fun l=>∀ (m d:Int),(∀g∈l,g.Ok)→l.length≤140737488355328→-1000≤d∧d≤1000→bD Tryz.prog 17 [.d (.sl (Gl.aa l)),iV m,iV d] (iV (fc l m d))) (fun l fH=>?_) l;intro m d dw aZ hd0;have kQ:=Gl.au l;refine oY Tryz.func17 fun w S hg=>?_
 by_cases hd:d<1
 ·refine qY rfl rfl (fun _=>?_) (fun h=>absurd (of_decide_eq_false h) an) <;> refine gv hg.ok 1000 rfl rfl ?_
  refine cq ?_;unfold fc;rw[if_pos hd];rfl
 refine qY rfl rfl (fun h=>absurd (of_decide_eq_true h) an) (fun _=>?_)<;>refine er hg.ok rfl rfl ?_
 have hfe:fc l m d=lU l m d:=by unfold fc;rw[if_neg hd]
 rw[hfe];have hwd:IntKind.i64.wrap (d - 1)=d - 1:=sK an an;refine bh (fun x:Nat × Int=>([(0,.d (.sl (Gl.aa l))),(1,iV x.2),(2,iV d),(7,iV x.1)],[])) (fun x=>x.1≤l.length∧lU l m d=lU (l.drop x.1) x.2 d) (fun x=>l.length - x.1) (0,m) ⟨cT _,rfl⟩ Mx rfl ?_;rintro⟨k,q⟩ ⟨hk,hm⟩;have hm:lU l m d=lU (l.drop k) q d:=hm;have hk:k≤l.length:=hk;refine af ?_;refine aj (fun h=>?_) fun h=>?_
 rotate_left
 ·have aR:l.length≤k:=cf h (by rw [kQ]);refine cq ?_;rw[hm,gD aR];rfl
 have aR:k<l.length:=bK h (by rw[kQ]);have e1:l[k]? = some l[k]:=dY aR;have hmem:=eg aR;rw[List.drop_eq_getElem_cons aR,lU]at hm;generalize l[k]=g at e1 hm hmem;obtain⟨sa,sb,sc⟩:=fH g hmem;have ho:=dw g hmem;refine aj (fun h2=>?_) fun h2=>?_
 ·rw [if_pos (of_decide_eq_true h2),KQ] at hm;refine cW (Gl.aB e1) ?_;refine aF (XV g.t ho.tm.1 q 200) ?_;refine cW (Gl.aB e1) ?_;rw[hwd];refine aF (sa (g.t.oV q 200) (d - 1) ho.ma ho.la an) ?_;refine cW (Gl.aB e1) ?_;rw[hwd];refine aF (sb (fc g.a (g.t.oV q 200) (d - 1)) (d - 1) ho.mb ho.lb an) ?_;refine cW (Gl.aB e1) ?_;rw[hwd];refine aF (sc (fc g.b (fc g.a (g.t.oV q 200) (d - 1)) (d - 1)) (d - 1) ho.mc ho.lc an) ?_;exact bp (k+1,fc g.c (fc g.b (fc g.a (g.t.oV q 200) (d - 1)) (d - 1)) (d - 1)) ⟨aR,hm⟩ ka ⟨.refl _,.refl _,.refl _,bM.wrap ka ka ka,trivial⟩ rfl
 ·rw [if_neg (of_decide_eq_false h2)] at hm;refine cq ?_;rw[hm];rfl

theorem IK (l:List Cs)(dw:∀c∈l,c.Ok)(aZ:l.length≤140737488355328):bD Tryz.prog 8 [Dx l] (bV (TU l)):=by
 have kQ:=Cs.kE l;refine zp Tryz.func8 fun w S hg=>?_
 refine uR (fun _:Unit=>([(1,.lo 0 0),(3,iV (nB l 3000))],[.box [.d (.sl (Cs.aa l))]])) (fun _=>True) rfl ?_ ?_
 ·refine bh (fun x:Nat × Int=>([(1,.lo 0 0),(3,iV x.2),(4,iV x.1)],[.box [.d (.sl (Cs.aa l))]])) (fun x=>x.1≤l.length∧nB l 3000=nB (l.drop x.1) x.2) (fun x=>l.length - x.1) (0,3000) ⟨cT _,rfl⟩ uC rfl ?_;rintro⟨k,q⟩ ⟨hk,hm⟩;have hm:nB l 3000=nB (l.drop k) q:=hm;have hk:k≤l.length:=hk;refine af ?_;refine aj (fun h=>?_) fun h=>?_
  rotate_left
  ·have aR:l.length≤k:=cf h (by rw [kQ]);refine q0 () trivial ⟨.refl _,?_,trivial⟩ rfl;rw[hm,gD aR];exact .refl _
  have aR:k<l.length:=bK h (by rw[kQ]);have e1:l[k]? = some l[k]:=dY aR;have hmem:=eg aR;rw[List.drop_eq_getElem_cons aR,nB]at hm;generalize l[k]=c at e1 hm hmem;have ho:=dw c hmem;refine aj (fun h2=>?_) fun h2=>?_
  ·rw [if_pos (of_decide_eq_true h2)] at hm;refine cW (Cs.aB e1) ?_;refine aF (XV c.head ho.head.1 q 200) ?_;refine cW (Cs.aB e1) ?_;refine aF (OO c.body (c.head.oV q 200) 30 ho.body ho.len an) ?_;exact bp (k+1,fc c.body (c.head.oV q 200) 30) ⟨aR,hm⟩ ka ⟨.refl _,.refl _,bM.wrap ka ka ka,trivial⟩ rfl
  ·rw [if_neg (of_decide_eq_false h2)] at hm;refine q0 () trivial ⟨.refl _,?_,trivial⟩ rfl;rw[hm];exact .refl _
 rintro _ _;refine af ?_;unfold TU;refine aj (fun h2=>?_) fun h2=>?_
 ·refine cq ?_;rw[show decide (nB l 3000 ≥ 0)=true from h2,jX];rw[show decide (((Cs.aa l).length:Int)≤210)=decide (l.length≤210) by rw[kQ];exact decide_eq_decide.2 an];rfl
 ·refine cq ?_;rw[show decide (nB l 3000 ≥ 0)=false from h2];rfl
end Go.Proofs.YtaagocopollacaaGreatDoor

namespace aw
open Go
section
variable {S:Bs} {L:List Tk} {T:TF} {st:Iz}
end
end aw

namespace aw
open Go
abbrev aix:=Tm × List Bs
end aw

namespace aw
open Go
section
variable {S:Bs} {L:List Tk} {T:TF} {st:Iz}
end
end aw

namespace aw
open Go
section
variable {S:Bs} {L:List Tk} {T:TF} {st:Iz} {m:Nat}
end
end aw

namespace aw
open Go
section
variable {S:Bs} {L:List Tk} {T:TF} {st:Iz} {m:Nat}
end
end aw

namespace aw
open Go
section
variable {S:Bs} {L:List Tk} {T T':TF} {st:Iz}
end
end aw

namespace aw
open Go
section
variable {S:Bs} {L:List Tk} {T T':TF} {st:Iz}
end
end aw

namespace aw
open Go
end aw

namespace aw
open Go
section
variable {S:Bs} {L:List Tk} {T:TF} {st:Iz}
end
end aw

namespace aw
open Go
section
variable {S:Bs} {L:List Tk} {T:TF} {st:Iz}
end
end aw

namespace aw
open Go
section
variable {S:Bs} {L:List Tk} {T:TF} {st:Iz}
end
end aw

namespace aw
open Go
section
variable {S:Bs} {L:List Tk} {T:TF} {st:Iz} {B:Nat}
end
end aw

namespace aw
open Go
section
variable {S:Bs} {L:List Tk} {T:TF} {st:Iz} {B:Nat}
end
end aw

namespace aw
open Go
end aw

namespace aw
open Go

def aiy (ex:Bool)(d:Int)(a b:Tk):Prop :=
 (b.kind=a.kind∧b.text=a.text∧b.n=a.n∧b.opn=a.opn∧(a.kind≠0→b.at_=a.at_+d))∨(ex=false∧a.kind=5∧b.kind=4∧b.text=[41])

structure Sim (ex:Bool) (m k δ:Nat) (d:Int) (S1:Bs) (L1:List Tk) (S2:Bs) (L2:List Tk):Prop where
 tok:∀i,(ex=true∨i≤m)→aiy ex d ((L1[i]?).getD Zc) ((L2[i+k]?).getD Zc)
 plc:ex=true→∀i,amD L2 S2.length (i+k)=amD L1 S1.length i+d
 byte:∀i t,L1[i]? = some t→(ex=true∨i≤m)→t.kind=1→decide (S2[(t.at_+d).toNat]? = some 45)=decide (S1[t.at_.toNat]? = some 45)
 aq:δ=0∨(ex=false∧m+δ≤999)
 len:L1.length≤L2.length

structure StR (k:Nat) (d:Int) (a b:Iz):Prop where
 at_:b.at_=a.at_+k
 names:b.names=a.names
 e:b.e=a.e
 bad:a.e≠0→b.bad=a.bad+d
section
variable {ex:Bool} {m k δ:Nat} {d:Int} {S1 S2:Bs} {L1 L2:List Tk} {T1 T2:TF} {a b:Iz} {S:Bs} {L:List Tk} {T:TF}
variable (H:Sim ex m k δ d S1 L1 S2 L2) (r:StR k d a b)
include H r
end
end aw

namespace aw
open Go
section
variable {ex:Bool} {m k δ:Nat} {d:Int} {S1 S2:Bs} {L1 L2:List Tk} {T1 T2:TF} {a b:Iz} (H:Sim ex m k δ d S1 L1 S2 L2)
include H
end
end aw

namespace aw
open Go
end aw

namespace aw
open Go
section
variable {B:Int→Prop} {S:Bs} {L:List Tk} {T:TF} {st:Iz}
end
section
variable {S:Bs} {L:List Tk} {T:TF} {st:Iz}
end
end aw

namespace aw
open Go
def OP (t:Tm)(i:Nat):Tm:=(t.l[i]?).getD aJ
def LR (st:Int × Int)(c:Int):Int × Int:=if st.2=0 then (st.1,c) else st
def sgC:Sg:=(Tx [44],2)
def sgT:Sg:=(Tx [116,114,117,101],0)
def sgX:Sg:=(Tx [33],0)
def sgN:Sg:=(Tx [92,43],1)

def D8:Nat→Tm→Int × Int→Int→Bool→List Gl × (Int × Int)
 |0,_,st,_,_=>([],st)
 |n+1,t,st,aq,aH =>
  if (if t.k=3 then st else LR st 5).2≠0 then ([],if t.k=3 then st else LR st 5)
  else if iv t=sgC then ((D8 n (OP t 0) st aq aH).1++(D8 n (OP t 1) (D8 n (OP t 0) st aq aH).2 aq aH).1,(D8 n (OP t 1) (D8 n (OP t 0) st aq aH).2 aq aH).2)
  else if iv t=sgT then ([],st)
  else if st.1 - 1<0∨10<aq then ([],LR (st.1 - 1,st.2) 3)
  else if iv t=sgX then ([.mk 3 aJ [] [] []],if aH then (st.1 - 1,st.2) else LR (st.1 - 1,st.2) 5)
  else if iv t=sgN then ([.mk 5 aJ (D8 n (OP t 0) (st.1 - 1,st.2) (aq+1) false).1 [] []],(D8 n (OP t 0) (st.1 - 1,st.2) (aq+1) false).2)
  else if mf (iv t) then ([.mk 2 t [] [] []],(st.1 - 1,st.2))
  else if Yo (iv t) then ([],LR (st.1 - 1,st.2) 5)
  else ([.mk 1 t [] [] []],(st.1 - 1,st.2))

def aiz (t:Tm):List Gl × Int :=
 if c0 t then (if (D8 t.size t (20,0) 1 true).2.2≠0 then ([],(D8 t.size t (20,0) 1 true).2.2) else ((D8 t.size t (20,0) 1 true).1,0)) else ([],1)
end aw
namespace aw
open Go
def apJ (k:Nat):List Tm:=(List.range k).map fun i:Nat=>Tm.vT (i:Int)
def C0 (x:aix):Cs:=⟨.mk 3 (Tx [63]) 0 (apJ x.2.length),(aiz x.1).1,x.2.length⟩
end aw

namespace Go.Proofs.YtaagocopollacaaGreatDoor
open Go aw Go.Proofs
theorem getD_some {l:List Bs}{k:Nat}(h:k<l.length):l[k]? = some (l.getD k []):=by simp[List.getD,dY h]
end Go.Proofs.YtaagocopollacaaGreatDoor

namespace aw
open Go Go.RowKit Go.MapKept

theorem C1 {g:G}{pf:Nat→cC}{ad:Array Oper}{Fin:Exit→Act→World→Prop}(hg:c9 g){dst:Option Nat}{T:Nat}{x y:Operand}{ok:Bool}{ty:Nat}{pos:String}{after:Array Edge}{gd:Option (Nat × Bool)}{ax:List Oper}{k:List It}{E:bk}{objs:List Ob}
  {q cj q' oU kt et:Nat} {z z':List Value} {n:ByteArray} {zv:Value} {ds:List (Value × D)} (l:List (ByteArray × AV)) (hl:ds.map (fun p=>(p.1,AV.d p.2))=eI l)
  (bm:aG ad.toList E gd=some true) (hd:aO ⟨g.ty,g.N⟩ dst=true) (hx:ev E x=.d (.map ds)) (hy:ev E y=.d (.v (.string n))) (hT:g.ty T=some ⟨q,cj,z,.map kt et⟩)
  (oC:g.ty kt=some ⟨q',oU,z',.str⟩) (hz:(g.P.info? et).bind (·.zero)=some zv) {v:AV} (hv:jn ok (lO zv) (dI l n)=v)
  (hr:R g pf Fin (.dr ad ax::k) (bf E dst v) objs):R g pf Fin (.dr ad (⟨dst,.lookup T x y ok,ty,pos,after,gd⟩::ax)::k) E objs:=by
 subst hv;have hu:=(hg.ty _ _ oC).sh;simp only[bA]at hu;obtain⟨r,h1,h2⟩:=iL (n:=n) (l:=l) (i:=0);refine E3 hg bm hd hx hy hT hu MB (by rw[hl];exact h1) hz ?_;have:pq ok (lO zv) r=jn ok (lO zv) (dI l n):=by rw[← h2];cases r<;>rfl
 rw[this];exact hr
end aw

namespace Go.Proofs.YtaagocopollacaaGreatDoor
open Go aw Go.Proofs
end Go.Proofs.YtaagocopollacaaGreatDoor

namespace aw
open Go
end aw

namespace Go.Proofs.YtaagocopollacaaGreatDoor
open Go aw Go.Proofs
theorem UN {t:Tm}(h:t.bS=true):SmT t:=⟨by have:=(Tm.dF.1 h).2.1;omega,fun x e he=>uW (nq h) x e he⟩
theorem ZB {s:ByteArray}(h:(um s).bS=true){q:Cs}(hq:TR q):TR (pfC s q):=⟨UN h,hq.body,hq.size⟩

theorem w9 (q:Cs)(l:List Cs)(hq:TR q)(hl:∀c∈l,TR c)(aZ:l.length≤1000000):bD Tryz.prog 11 [q.av,Dx l] (bV (pQ q l)):=by
 have hs:=hq.head.1;have hr:=eY q.head an (fun e he=>hq.head.2 1 e he);rw[cN]at hr;have hv:=(tc [q.head] Sc).one;have hc:=zj (pfC Yx q) (ZB Hj.1 hq);have ht:=FX q.body l hq.size aZ;have hf:pQ q l=(((jV l).2==0)&&(q.head.k==3)&&bE q.head.s ⟨#[63]⟩&&q.head.bS&&(bH [q.head]).all (fun x=>decide (x<q.vars))&&nA (pfC Yx q)&&cR (pP l) q.body):=rfl;rw[hf];clear hf;have Qx:(bH [q.head]).length≤1000000:=tP (NV q.head) hs;generalize bH [q.head]=V at *;refine oY Tryz.func11 fun w S hg=>?_
 refine aF (LQ l hl) ?_;refine aj (fun h1=>?_) fun h1=>?_
 ·refine cq ?_;rw[show ((jV l).2==0)=false by simpa using h1];rfl
 rw[show ((jV l).2==0)=true by simpa using h1,jX];refine aj (fun h2=>?_) fun h2=>?_
 ·refine cq ?_;rw[show (q.head.k==3)=false by simpa using h2];rfl
 rw[show (q.head.k==3)=true by simpa using h2,jX];refine aj (fun h3=>?_) fun h3=>?_
 ·refine cq ?_;rw[show bE q.head.s ⟨#[63]⟩=false by simpa using h3];rfl
 rw[show bE q.head.s ⟨#[63]⟩=true by simpa using h3,jX];refine aF (hr) ?_;refine aj (fun h4=>?_) fun h4=>?_
 ·refine cq ?_;rw[show q.head.bS=false by simpa using h4];rfl
 rw[show q.head.bS=true by simpa using h4,jX];refine aF (hv) ?_;refine bh (fun k:Nat=>([(2,.lo 0 0),(3,.lo 1 0),(38,.d (.sl (di V))),(39,iV V.length),(40,iV k)],[.box [.d (.v (.int .i64 q.head.k)),.d (.v (.string q.head.s)),.d (.v (.int .i64 q.head.n)),.d (.sl (Tm.aa q.head.l)),.d (.sl (Gl.aa q.body)),.d (.v (.int .i64 q.vars))],.box [.d (.sl (Cs.aa l))]])) (fun k=>k≤V.length∧V.all (fun x=>decide (x<q.vars))=(V.drop k).all fun x=>decide (x<q.vars)) (fun k=>V.length - k) 0 ⟨cT _,rfl⟩ ⟨.refl _,.refl _,.refl _,by rw[bR];exact .refl _,.refl _,trivial⟩ rfl ?_;rintro k ⟨hk,hm⟩;refine af ?_;refine aj (fun h=>?_) fun h=>?_
 ·have aR:k<V.length:=bK h rfl;have e1:V[k]? = some V[k]:=dY aR;rw[List.drop_eq_getElem_cons aR,rE]at hm;generalize V[k]=x at e1 hm;refine cW (lg e1) ?_;refine aj (fun h=>?_) fun h=>?_
  ·refine cq ?_;rw[hm,show decide (x<q.vars)=false by simpa using h];rfl
  ·exact bp (k+1) ⟨aR,by rw[hm,show decide (x<q.vars)=true by simpa using h,jX]⟩ an IV rfl
 ·have aR:V.length≤k:=cf h rfl;rw[hm,gD aR];refine aF (hc) ?_;refine aj (fun h5=>?_) fun h5=>?_
  ·refine aF (ht) ?_;refine cq ?_;rw[h5];rfl
  ·refine cq ?_;rw[h5];rfl
def afJ:Nat→cC:=fun f=>bif Nat.beq f 12 then .bO 0 else .ji

def amY (P:List Cs)(q:Cs)(ab:Nat)(fr:Int)(v:Nat)(z:D)(dn:Int)(sl d:Nat)(B:ak)(T:List Tr)(S:List Ev):List Ob:=[.box [.d (.sl (Cs.aa P))],OK q,.map (cn (ub B)),.box [.mp 2,.ow 5 (B.length+d)],.box [.d (.sl (Cs.aa P)),.lo 3 0,.d (.v (.int .i64 q.head.k)),.d (.v (.string q.head.s)),.d (.v (.int .i64 q.head.n)),.d (.sl (Tm.aa q.head.l)),iV fr,.ow 6 v,.d z,iV ab,iV dn,.ow 7 sl],.arr 1 (B.length+d) (di (B.map (·.1))),.arr 9 v (T.map Tr.row),.arr 4 sl (S.map Ev.row)]
def Pj (P:List Cs)(q:Cs)(ab:Nat)(m:Mo)(d v:Nat):List Ob:=amY P q ab m.az v (gn m.now) m.done m.aD.length d m.B m.ag m.aD
def mcR (P:List Cs)(hd:Tm)(ab:Nat)(m:Mo)(d v:Nat):List Ob:=[.box [.d (.sl (Cs.aa P)),.lo 3 0,.d (.v (.int .i64 hd.k)),.d (.v (.string hd.s)),.d (.v (.int .i64 hd.n)),.d (.sl (Tm.aa hd.l)),iV m.az,.ow 6 v,.d (gn m.now),iV ab,iV m.done,.ow 7 m.aD.length],.box [.mp 2,.ow 5 (m.B.length+d)],.map (cn (ub m.B)),.arr 1 (m.B.length+d) (di (m.B.map (·.1))),.arr 9 v (m.ag.map Tr.row),.arr 4 m.aD.length (m.aD.map Ev.row)]

theorem Pk (n:Nat)(P:List Cs)(hd:Tm)(ab:Nat)(m:Mo)(d v:Nat):(dm P hd ab m d v).map (bz (rn [4,3,2,5,6,7] n))=mcR P hd ab m d v:=by
 have e:(bz (rn [4,3,2,5,6,7] n))=aQ (c8 (rn [4,3,2,5,6,7] n)):=by funext o;cases o<;>simp[bz,aQ,gF]
 rw[e];unfold dm sx mcS mcR;simp only[List.map_cons,List.map_append,fj];rw[dJ (fun t=>rfl)];rcases gX m.now with ⟨g,s,o,z,h⟩ |h<;>rw[h]<;>rfl

theorem ZC (objs:List Ob)(sl:Nat)(aa:List (List D))(h:dk objs 7=some (.arr 4 sl aa)):iB objs 5 (.cH [.ow 7 sl,.d (.v (.int .i64 0))])=some (.cH [.d (.sl aa),.d (.v (.int .i64 0))]):=by
 have h1:iB objs 4 (.ow 7 sl)=some (.d (.sl aa)):=vA h;simp only[iB,tR,h1];rw[h];simp

theorem ZD {m:Mo}{r:Mo × Bool}(h:Grow m r)(hs:r.2=false):m.aD.length+1≤r.1.aD.length:=by
 obtain⟨X,e,h1,_,_⟩:=h.stop hs;rw[h1,List.length_append,List.length_append];simp;try omega

theorem UO {l:List Cs}{q:Cs}(hq:TR q)(hl:∀c∈l,TR c)(hP:rk l)(hh:HdG q.head)(ZE:pQ q l=true)(hv0:0≤q.vars)(gQ:q.body.length≤1000000){ab:Nat}(zP:ab≤300)(hm:MI l.length ab ⟨[],q.vars.toNat,[],bJ q.body 0 0 [],0,[]⟩){s:List Ev}(hs:k7 l q.head ab ⟨[],q.vars.toNat,[],bJ q.body 0 0 [],0,[]⟩ s)(Gt:s.length≤900000000000) :
  bD Tryz.prog 6 [Dx l,q.av,iV ab] (.cH [.d (.sl (s.map Ev.row)),iV 0]):=by
 have hPl:=hP.len;refine afI Tryz.func6 fun w S hg=>?_
 refine II ?_;refine II ?_;have hmf:=w9 q l hq hl an;rw[ZE]at hmf;refine aF (hmf) ?_;refine oX ?_;refine yd hg.ok hg.cm ⟨rfl,rfl⟩ (fun _ _ _ _ h=>by cases h) [.box [.d (.sl (Cs.aa l))],OK q,.map [],.box [.mp 2,.d (.v (.slice none 0 0))]] (Uz ⟨[],fun _=>true⟩) cF rfl rfl rfl rfl rfl rfl ?_;refine vC ?_;refine l9 3 1 1 rfl rfl rfl ?_;refine l9 4 7 9 rfl rfl rfl ?_;refine l9 4 11 4 rfl rfl rfl (af ?_);have kh:=lu q.body 0 0 [] gQ;rw[show gn []=.v (.pointer none) from rfl]at kh;have hvv:((q.vars.toNat:Nat):Int)=q.vars:=by omega
 obtain⟨n0,m0',SE,j5⟩:=hs
 have iI:∀z,gn (bJ q.body 0 0 [])=z→Pj l q ab ⟨[],q.vars.toNat,[],bJ q.body 0 0 [],0,[]⟩ 0 0=amY l q ab q.vars 0 z 0 0 0 [] [] []:=fun z h=>by
  rw[← h,← hvv];rfl
 rcases gX (bJ q.body 0 0 []) with ⟨g2,s2,o2,z2,hp⟩ |hp
 all_goals
  rw[hp]at kh;refine aF (kh) ?_;refine bh (fun x:Nat × Mo × Nat × Nat=>([(8,.lo 4 0)],Pj l q ab x.2.1 x.2.2.1 x.2.2.2)) (fun x=>MI l.length ab x.2.1∧∃m',oQ l q.head ab x.1 x.2.1=(m',false)∧m'.aD=s) (fun x=>x.1) (n0,⟨[],q.vars.toNat,[],bJ q.body 0 0 [],0,[]⟩,0,0) ⟨hm,m0',SE,j5⟩ Sf (by rw[iI _ hp];rfl) ?_;rintro⟨n,m,d,v⟩ ⟨hmi,m',hr,hse⟩;simp only at hmi hr;show R _ _ _ _ [(8,.lo 4 0)] (Pj l q ab m d v)
  have aZ:m.aD.length+1≤s.length:=by
   have h:=ZD (tw l q.head ab n m) (by rw[hr]);rw[hr]at h;rw[← hse];exact h
  obtain⟨d',v',cS⟩:=ZA ⟨[],fun _=>true⟩ hP hh ab hmi an an d v;cases n with
  |zero=>rw[oQ]at hr;cases hr
  |succ n =>
  rw[oQ]at hr;refine af ?_;cases hb:(eh l q.head ab m).2 with
  |true =>
   rw[if_pos hb]at hr;rw[hb]at cS;refine ajP ?_;refine oS ?_;exact bp (n,(eh l q.head ab m).1,d',v') ⟨Zt hP hmi hb,m',hr,hse⟩ (by show n<n+1;omega) Sf rfl
  |false =>
   rw[if_neg (by rw[hb];simp)]at hr;rw[hb]at cS
   have abw:(eh l q.head ab m).1.aD=s:=by
    rw[← hse];exact congrArg (fun x=>x.1.aD) hr
   refine ajP ?_;refine gu ?_;refine Ay hg 5 rfl (ZC _ _ _ rfl) ?_;rw[← abw];rfl
end Go.Proofs.YtaagocopollacaaGreatDoor

namespace aw
open Go Go.RowKit

def C2:Op→Bool
 | .call { callee:=.builtin .append,.. }=>true
 | .build .. => true
 | .buildSlice .. => true
 |o=>mz o

theorem OQ {o:Oper}(h:C2 o.op=true)(ro:Option Nat)(ρ:Operand→Value)(P:Program)(w:World):(∃v w',(o.semAt ro ρ).run P w=.ok (.value v) w')∨(∃x w',(o.semAt ro ρ).run P w=.halt x w'):=by
 have key:∀s:Sem Value,(∃v w',(do pure (Next.value (← s)):Sem Next).run P w=.ok (.value v) w')∨(∃x w',(do pure (Next.value (← s)):Sem Next).run P w=.halt x w'):=fun s=>by
  rw[Sem.run_bind];cases s.run P w with
  |ok v w'=>exact .inl ⟨v,w',rfl⟩
  |halt x w'=>exact .inr ⟨x,w',rfl⟩
 have e:o.semAt ro ρ=execOp ρ o:=Oper.semAt_eq ro ρ o (fun c hc=>by rw[hc]at h;cases h);rw[e];unfold execOp;cases ho:o.op<;>rw[ho]at h
 case call c =>
  obtain⟨WE,args,ts⟩:=c;cases WE
  case builtin b =>
   cases b<;>first
    |(cases h;done)
    | (simp only [resolve,Sem.run_bind,Sem.run_pure,Result.andThen_ok,invoke,builtin]
       first
       |(have:=key (Builtin.len_ ts o.type (args.map ρ));simp only[Sem.run_bind]at this;exact this)
       |(have:=key (Builtin.append_ ts o.type (args.map ρ));simp only[Sem.run_bind]at this;exact this)
       |exact key _)
  all_goals cases h
 case nilCheck x =>
  have hp:(∃v w',(runtimePanic .nilDeref:Sem Next).run P w=.ok (.value v) w')∨(∃x w',(runtimePanic .nilDeref:Sem Next).run P w=.halt x w'):=.inr ⟨_,_,rfl⟩
  have bind:∀ {α:Type} (s:Sem α) (k:α→Sem Next) (w:World),(∀a w',(∃v w2,(k a).run P w'=.ok (.value v) w2)∨(∃x w2,(k a).run P w'=.halt x w2))→(∃v w',(s >>= k).run P w=.ok (.value v) w')∨(∃x w',(s >>= k).run P w=.halt x w'):=fun s k w h=>by
   rw[Sem.run_bind];cases s.run P w with
   |halt x w'=>exact .inr ⟨x,w',rfl⟩
   |ok a w'=>exact h a w'
  simp only;split
  ·exact hp
  ·exact hp
  ·exact hp
  ·split
   ·exact hp
   ·refine bind _ _ _ fun a w'=>?_
    refine bind _ _ _ fun b w'=>?_
    split
    ·exact bind _ _ _ fun c w'=>.inl ⟨_,_,rfl⟩
    ·exact .inl ⟨_,_,rfl⟩
   ·exact .inl ⟨_,_,rfl⟩
  ·exact .inl ⟨_,_,rfl⟩
 all_goals first
  |(cases h;done)
  |exact key _
  |exact .inl ⟨_,_,rfl⟩
section
variable {g:G} {pf:Nat→cC} {ad:Array Oper}

theorem OS {q:Nat}(dw:∀ (j:Nat) (o:Oper),ad[j]? = some o→(∀e∈o.after.toList,Region.binds .any e=true→e.on<j)∧∀ (i:Nat) (x:Oper),i<j→ad[i]? = some x→gE pf ad x o=true→Reach ad i j∨j=q){K:bk→List Ob→Prop}(hK:KC K){Q:Exit→Act→World→Prop}(hQ:∀E objs a w,K E objs→fe g E objs a w→Q .normal a w) :
  ∀ (ab:Nat) (aL:Array Bool) (R:List Nat) (E:bk) (objs:List Ob) (a:Act) (w:World),aL.size=ad.size→Cl ad aL→(∀ i,i∈R↔i<ad.size∧aL.getD i true=false)→R.Pairwise (· < ·)→R.length≤ab→q ∉ R →
   Dr g pf ad (R.filterMap (ad[·]?)) E objs K→fe g E objs a w→wpAnyIn g.F g.dep g.P .any ad Q ab aL a w:=by
 intro ab;induction ab with
 |zero =>
  intro aL R E objs a w tQ hc hR _ hf hpq hd hs;have:R=[]:=jy.1 an;subst this;refine⟨?_,hQ E objs a w hd hs⟩;apply aa5.2;intro i hi;exact agv
 |succ ab ih =>
  intro aL R E objs a w tQ hc hR hp hf hpq hd hs;refine⟨fun Ji=>?_,fun i hi=>?_⟩
  ·cases R with
   |nil=>exact hQ E objs a w hd hs
   |cons k R' =>
    exfalso;exact mB4
  ·obtain ⟨mJ,Mf,o,ho,gi⟩:=mem_ready.1 hi;obtain⟨pre,post,rfl⟩:=ME ((hR i).2 ⟨mJ,Mf⟩);have q7:∀k∈pre,k<i:=fun k hk=>(kS.1 hp).2.2 k hk i aC
   have Qi:Dr g pf ad (pre.filterMap (ad[·]?)++o::post.filterMap (ad[·]?)) E objs K:=by
    have:(pre++i::post).filterMap (ad[·]?)=pre.filterMap (ad[·]?)++o::post.filterMap (ad[·]?):=by
     rw[List.filterMap_append,tO,ho]
    rw[← this];exact hd
   obtain⟨v,objs',k9,fv⟩:=Dr.front hK (fun x hx=>by
    obtain⟨k,hk,lJ⟩:=xJ.1 hx;cases MR:gE pf ad x o
    ·rfl
    ·exfalso
     have MS:Reach ad k i:=by
      rcases (dw i o ho).2 k x (q7 k hk) lJ MR with h |h2
      ·exact h
      ·exfalso;exact hpq (by rw[← h2];simp)
     have hl:=kC hc MS (fun o' vp e he hb=>by rw[ho]at vp;cases vp;exact gi e he hb);obtain⟨_,oz⟩:=(hR k).1 DG;have hsz:k<aL.size:=by have:=q7 k hk;omega
     simp only[Array.getD,hsz,dif_pos]at hl oz;rw[hl]at oz;cases oz) Qi
   have ei:=k9.step E objs objs' a w (fun t _=>.refl _) (.inr (.inr ⟨rfl,rfl⟩)) hs Q;refine wpOpIn_mono (K:=fun a' w'=>fe g (bf E o.dst v) objs' a' w') (fun a' w' fh=>?_) aaP
   have kO:∀ (k:Nat) (d:Bool),(aL.setIfInBounds i true).getD k d=if k=i then true else aL.getD k d:=by
    intro k d;simp only[Gf,Sr];by_cases kf:k=i
    ·subst kf;simp[tQ,mJ]
    ·rw[if_neg (fun e=>kf e.symm),if_neg kf]
   refine ih _ (pre++post) _ objs' a' w' (by simp[tQ]) ?_ ?_ ?_ ?_ ?_ ?_ fh
   ·intro k o' hk sR e he hb;rw[kO]at hk ⊢;by_cases kf:k=i
    ·subst kf;rw[ho]at sR;cases sR;have:=gi e he hb;split
     ·rfl
     ·exact this
    ·rw [if_neg kf] at hk;have:=hc k o' hk sR e he hb;split
     ·rfl
     ·exact this
   ·intro k;rw[kO];have hk:=hR k
    have p8:i ∉ pre++post:=by
     intro hm;rcases bW.1 hm with hm |hm
     ·have:=q7 i hm;omega
     ·have:=(xz.1 (kS.1 hp).2.1).1 i hm;omega
    by_cases kf:k=i
    ·subst kf;simp only[if_true];exact⟨fun h=>absurd h p8,fun h=>by simp at h⟩
    ·simp only [kf,if_false];rw[← hk];simp[kf]
   ·obtain ⟨p1,p2,p3⟩:=kS.1 hp;exact kS.2 ⟨p1,(xz.1 p2).2,fun x hx y hy=>p3 x hx y kb⟩
   ·simp at hf ⊢;omega
   ·exact fun hm=>hpq aga
   ·rw[List.filterMap_append];exact fv

theorem OT {F:Fence}{n:Nat}{P:Program}{Q:Exit→Act→World→Prop}{i:Nat}{o:Oper}{ι:Type}(x0:ι)(ho:ad[i]? = some o)(hp:C2 o.op=true){K:ι→Act→World→Prop}{a:Act}{w:World}(h:∀x,wpOpIn F n P ad Q i (K x) a w):wpOpIn F n P ad Q i (fun a' w'=>∀x,K x a' w') a w:=by
 have h0:=h x0;unfold wpOpIn at *;rw[ho]at h0 ⊢;have h:∀x,_:=fun x=>by have:=h x;rw[ho]at this;exact this
 simp only at h h0 ⊢;split
 ·rename_i hw;rw[if_pos hw]at h0;have h:∀x,_:=fun x=>by have:=h x;rw[if_pos hw]at this;exact this
  unfold Oper.wpIn at *;refine⟨h0.1,?_⟩;have h0:=h0.2;have h:∀x,_:=fun x=>(h x).2
  rcases OQ hp F.round a.eval P w with ⟨v,w',e⟩ |⟨x,w',e⟩
  ·rw [e] at h0 ⊢;intro x;have:=h x;rw[e]at this;exact this
  ·rw [e] at h0 ⊢;cases x<;>exact h0
 ·rename_i hw;rw[if_neg hw]at h0;refine⟨h0.1,fun x=>?_⟩;have:=h x;rw[if_neg hw]at this;exact this.2
end
end aw
namespace aw
open Go Go.RowKit
section
variable {g:G} {pf:Nat→cC} {ad:Array Oper}

def ZF (pf:Nat→cC)(ad:Array Oper)(oq:Oper)(B:List Nat):Prop:=B=[]∨∃b B' y,B=b::B'∧ad[b]? = some y∧gE pf ad y oq=true

def ZG (pf:Nat→cC)(ad:Array Oper)(oq:Oper)(k:Nat):Bool:=match ad[k]? with
 |some y=>!gE pf ad y oq
 |none=>true

theorem ZH {α:Type}{p:α→Bool}:∀ {l:List α} {x:α},x∈l.takeWhile p→p x=true
 |y::l,x,h=>by
  rw[List.takeWhile_cons]at h;split at h
  ·rcases eL.1 h with rfl | h
   ·assumption
   ·exact ZH h
  ·cases h

theorem OV {q:Nat}{oq:Oper}(hoq:ad[q]? = some oq)(dw:∀ (j:Nat) (o:Oper),ad[j]? = some o→(∀e∈o.after.toList,Region.binds .any e=true→e.on<j)∧(∀ (i:Nat) (x:Oper),i<j→ad[i]? = some x→gE pf ad x o=true→Reach ad i j∨j=q)∧(q<j→Reach ad q j))
  (hps:∀ (i j:Nat) (x y:Oper),i<j→j<q→ad[i]? = some x→ad[j]? = some y→gE pf ad x oq=true→gE pf ad oq y=true→Reach ad i j)
  {K:bk→List Ob→Prop} (hK:KC K) {Q:Exit→Act→World→Prop} (hQ:∀E objs a w,K E objs→fe g E objs a w→Q .normal a w) (post:List Nat) :
  ∀ (ab:Nat) (aL:Array Bool) (R:List Nat) (a:Act) (w:World),(∀ i∈R,∀ o,ad[i]? = some o→C2 o.op=true)→aL.size=ad.size→Cl ad aL→(∀ i,i∈R++q::post↔i<ad.size∧aL.getD i true=false)→(R++q::post).Pairwise (· < ·)→(R++q::post).length≤ab →
   (∀A B:List Nat,R=A++B→ZF pf ad oq B→∃E objs,Dr g pf ad (A.filterMap (ad[·]?)++oq::(B++post).filterMap (ad[·]?)) E objs K∧fe g E objs a w)→wpAnyIn g.F g.dep g.P .any ad Q ab aL a w:=by
 intro ab;induction ab with
 |zero=>intro aL R a w _ _ _ _ _ hf _;simp at hf
 |succ ab ih =>
  intro aL R a w uK tQ hc hR hp hf hd;obtain⟨pp1,pp2,pp3⟩:=kS.1 hp;have hRq:∀k∈R,k<q:=fun k hk=>pp3 k hk q aC
  have n7:∀k∈post,q<k:=fun k hk=>(xz.1 pp2).1 k hk
  have unl:∀k,k∈R++q::post→aL.getD k false=false:=fun k hk=>by
   exact agu
  refine⟨fun Ji=>?_,fun i hi=>?_⟩
  ·exfalso
   obtain⟨k,R',hkR⟩:∃k R',R++q::post=k::R':=by
    cases R with
    |nil=>exact⟨q,_,rfl⟩
    |cons k r=>exact⟨k,_,rfl⟩
   rw[hkR]at hR hp;exact mB4
  ·obtain ⟨mJ,Mf,o,ho,gi⟩:=mem_ready.1 hi
   have jK:∀k,k∈R++q::post→Reach ad k i→False:=fun k hk hr=>by
    have hl:=kC hc hr (fun o' vp e he hb=>by rw[ho]at vp;cases vp;exact gi e he hb);rw[unl k hk]at hl;cases hl
   have hmem:=(hR i).2 ⟨mJ,Mf⟩;rcases bW.1 hmem with hmem |hmem
   ·obtain ⟨RA,RB,rfl⟩:=ME hmem;have hiq:i<q:=hRq i hmem;have hRA:∀k∈RA,k<i:=fun k hk=>(kS.1 pp1).2.2 k hk i aC
    have MR:∀k x,k∈RA→ad[k]? = some x→gE pf ad x o=false:=fun k x hk lJ=>by
     cases vo:gE pf ad x o
     ·rfl
     ·exfalso;rcases (dw i o ho).2.1 k x (hRA k hk) lJ vo with h |h
      ·exact jK k DG h
      ·omega
    have hfm:∀ {A:List Nat},(∀k∈A,k∈RA)→∀x∈A.filterMap (ad[·]?),gE pf ad x o=false:=fun hA x hx=>by
     obtain⟨k,hk,lJ⟩:=xJ.1 hx;exact MR k x (hA k hk) lJ
    have H:∀x:{p:List Nat × List Nat // RA++RB=p.1++p.2∧ZF pf ad oq p.2},∃E1 o1,Dr g pf ad (x.1.1.filterMap (ad[·]?)++oq::(x.1.2++post).filterMap (ad[·]?)) E1 o1 K∧wpOpIn g.F g.dep g.P ad Q i (fun a' w'=>fe g E1 o1 a' w') a w:=by
     rintro⟨⟨A,B⟩,Hi,hB⟩
     have one:∀ (a':List Nat),A=RA++a'→RB=a'++B→∃E1 o1,Dr g pf ad (A.filterMap (ad[·]?)++oq::(B++post).filterMap (ad[·]?)) E1 o1 K∧wpOpIn g.F g.dep g.P ad Q i (fun a' w'=>fe g E1 o1 a' w') a w:=fun a' h1 h2=>by
      obtain⟨E,objs,DL,hs⟩:=hd (RA++i::a') B Sm hB;rw[List.filterMap_append,tO,ho,List.append_assoc]at DL;obtain⟨v,objs',k9,fv⟩:=Dr.front hK (hfm fun k hk=>hk) DL;refine⟨_,objs',by rw[h1,List.filterMap_append,List.append_assoc];exact fv,?_⟩;unfold wpOpIn;rw[ho];exact k9.step E objs objs' a w (fun t _=>.refl _) (.inr (.inr ⟨rfl,rfl⟩)) hs Q
     rcases List.append_eq_append_iff.1 Hi with ⟨a',h1,h2⟩ |⟨c',h1,h2⟩
     ·exact one a' h1 h2
     ·cases c' with
      |nil=>exact one [] (by simpa using h1.symm) (by simpa using h2.symm)
      |cons b c' =>
       simp only at h2 hB
       have hB2:ZF pf ad oq ((b::c')++i::RB):=by
        rcases hB with h |⟨b2,B',y,h3,h4,h5⟩
        ·rw[h2]at h;cases h
        ·rw [h2] at h3; cases h3;exact .inr ⟨b,_,y,rfl,h4,h5⟩
       obtain⟨E,objs,DL,hs⟩:=hd A ((b::c')++i::RB) AI hB2
       have e:A.filterMap (ad[·]?)++oq::((b::c')++i::RB++post).filterMap (ad[·]?)=(A.filterMap (ad[·]?)++oq::(b::c').filterMap (ad[·]?))++o::(RB++post).filterMap (ad[·]?):=by
        rw[List.append_assoc,List.filterMap_append,jj,tO (a:=i),ho];simp
       rw[e]at DL
       obtain⟨v,objs',k9,fv⟩:=Dr.front hK (fun x hx=>by
        rcases bW.1 hx with hx |hx
        ·exact hfm (fun k hk=>by rw[h1];simp[hk]) x hx
        ·rcases eL.1 hx with rfl | hx
         ·cases vo:gE pf ad x o
          ·rfl
          ·exfalso;rcases hB2 with h |⟨b2,B',y,h3,h4,h5⟩
           ·cases h
           ·cases h3;exact jK b AI (hps b i y o (hRA b AI) hiq h4 ho h5 vo)
         ·exact hfm (fun k hk=>by rw[h1];exact bW.2 (.inr hk)) x hx) DL
       refine⟨_,objs',by
        show Dr g pf ad (A.filterMap (ad[·]?)++oq::(B++post).filterMap (ad[·]?)) _ _ K
        rw[h2,List.append_assoc,List.filterMap_append];rw[List.append_assoc,jj]at fv;exact fv,?_⟩
       unfold wpOpIn;rw[ho];exact k9.step E objs objs' a w (fun t _=>.refl _) (.inr (.inr ⟨rfl,rfl⟩)) hs Q
    have eK:=OT (F:=g.F) (n:=g.dep) (P:=g.P) (Q:=Q) (⟨(RA++RB,[]),by simp,.inl rfl⟩:{p:List Nat × List Nat // RA++RB=p.1++p.2∧ZF pf ad oq p.2}) ho (uK i aC o ho) (K:=fun x a' w'=>fe g (H x).choose (H x).choose_spec.choose a' w') (fun x=>(H x).choose_spec.choose_spec.2);refine wpOpIn_mono (fun a' w' fh=>?_) eK;have kq:=j1 (pre:=RA) (post:=RB++q::post) tQ hc VV Sk mJ ho gi;refine ih _ (RA++RB) a' w' (fun j hj o' vp=>uK j agb o' vp) kq.1 kq.2.1 VT VX IX fun A B Hi hB=>?_
    exact⟨_,_,(H ⟨(A,B),Hi,hB⟩).choose_spec.choose_spec.1,fh ⟨(A,B),Hi,hB⟩⟩
   ·rcases eL.1 hmem with hiq | hmem
    ·subst hiq;rw[hoq]at ho;cases ho;have hAB:R=R.takeWhile (ZG pf ad oq)++R.dropWhile (ZG pf ad oq):=List.takeWhile_append_dropWhile.symm
     have hB:ZF pf ad oq (R.dropWhile (ZG pf ad oq)):=by
      cases hdw:R.dropWhile (ZG pf ad oq) with
      |nil=>exact .inl rfl
      |cons b B' =>
       right
       have hb:ZG pf ad oq b=false:=by
        have:=List.head_dropWhile_not (ZG pf ad oq) (show R.dropWhile (ZG pf ad oq)≠[] by rw[hdw];simp);simpa[hdw]using this
       unfold ZG at hb;cases vX:ad[b]? with
       |none=>rw[vX]at hb;cases hb
       |some y=>rw[vX]at hb;exact⟨b,B',y,rfl,vX,by simpa using hb⟩
     obtain⟨E,objs,DL,hs⟩:=hd _ _ hAB hB
     obtain⟨v,objs',k9,fv⟩:=Dr.front hK (fun x hx=>by
      obtain⟨k,hk,lJ⟩:=xJ.1 hx;have:=ZH hk;unfold ZG at this;rw[lJ]at this;simpa using this) DL
     have ei:=k9.step E objs objs' a w (fun t _=>.refl _) (.inr (.inr ⟨rfl,rfl⟩)) hs Q;refine wpOpIn_mono (K:=fun a' w'=>fe g (bf E oq.dst v) objs' a' w') (fun a' w' fh=>?_) (by unfold wpOpIn;rw[hoq];exact ei);have kq:=j1 (pre:=R) (post:=post) tQ hc hR hp mJ hoq gi;have e:(R++post).filterMap (ad[·]?)=(R.takeWhile (ZG pf ad oq)).filterMap (ad[·]?)++(R.dropWhile (ZG pf ad oq)++post).filterMap (ad[·]?):=by rw[← List.filterMap_append,← List.append_assoc,← hAB]
     refine OS (fun j o ho=>⟨(dw j o ho).1,(dw j o ho).2.1⟩) hK hQ ab _ (R++post) _ objs' a' w' kq.1 kq.2.1 kq.2.2.1 kq.2.2.2 IX (fun h=>?_) (by rw[e];exact fv) fh;rcases bW.1 h with h |h
     ·have:=hRq _ h;omega
     ·have:=n7 _ h;omega
    ·exact(jK q aC ((dw i o ho).2.2 (n7 i hmem))).elim
end
end aw
namespace aw
open Go Go.RowKit
section
variable {g:G} {pf:Nat→cC} {ad:Array Oper}

def C3 (q:Nat) (oq:Oper) (pf:Nat→cC) (ad:Array Oper):List Oper→List Nat→List Oper→Bool
 |_,_,[]=>true
 |du,acc,o::r =>
  (o.after.toList.all fun e=>!Region.binds .any e || Nat.blt e.on (len du)) &&
  (du.zipIdx.all fun x=>!gE pf ad x.1 o || (fL acc o).testBit x.2 || Nat.beq (len du) q) &&
  (Nat.ble (len du) q || (fL acc o).testBit q) &&
  (du.zipIdx.all fun x=>!gE pf ad x.1 oq || !gE pf ad oq o || (fL acc o).testBit x.2 || Nat.ble q (len du)) &&
  C3 q oq pf ad (du++[o]) (acc++[fL acc o]) r

theorem zm {q:Nat}{oq:Oper}:∀ (ax du:List Oper) (acc:List Nat),ad.toList=du++ax→acc.length=du.length→(∀j i m,acc[j]? = some m→m.testBit i=true→Reach ad i j)→C3 q oq pf ad du acc ax=true →
  ∀ (j:Nat) (o:Oper),du.length≤j→ad[j]? = some o→(∀e∈o.after.toList,Region.binds .any e=true→e.on<j)∧(∀ (i:Nat) (x:Oper),i<j→ad[i]? = some x→gE pf ad x o=true→Reach ad i j∨j=q)∧(q<j→Reach ad q j)∧(∀ (i:Nat) (x:Oper),i<j→j<q→ad[i]? = some x→gE pf ad x oq=true→gE pf ad oq o=true→Reach ad i j)
 |[],du,acc,h,_,_,_,j,o,hj,ho=>by
  have:j<ad.size:=(tN.1 ho).1;have:ad.size=du.length:=by rw[← Array.length_toList,h];simp
  omega
 |o'::r,du,acc,h,hl,hr,hg,j,o,hj,ho=>by
  simp only[C3,aV]at hg;obtain⟨⟨⟨⟨h1,h2⟩,h4⟩,h5⟩,h3⟩:=hg;have Gi:ad[du.length]? = some o':=by rw[← Array.getElem?_toList,h];simp
  have hm:∀i,(fL acc o').testBit i=true→Reach ad i du.length:=fun i hi=>by
   exact abe
  rcases aa4 hj with hj |hj
  ·subst hj;rw[Gi]at ho;cases ho
   have hmem:∀ (i:Nat) (x:Oper),i<du.length→ad[i]? = some x→(x,i)∈du.zipIdx:=fun i x hi hx=>by
    rw[V7];rw[← Array.getElem?_toList,h,jx hi]at hx;exact hx
   refine⟨fun e he MQ=>?_,fun i x hi hx hc=>?_,fun hq=>?_,fun i x hi hq hx vo Gp=>?_⟩
   ·have:=fk.1 h1 e he;rw[bj]at this;simpa[Nat.blt_eq,MQ]using this
   ·have:=fk.1 h2 _ (hmem i x hi hx);simp only[hc,xK,zA,mS]at this;rcases this with this |g2
    ·exact .inl (hm i this)
    ·rw[bj]at g2;exact .inr (cp g2)
   ·simp only [mS,bj,I6] at h4;rcases h4 with h4 |h4
    ·omega
    ·exact hm _ h4
   ·have:=fk.1 h5 _ (hmem i x hi hx);simp only[vo,Gp,xK,zA,mS,bj,I6]at this;rcases this with this |this
    ·exact hm i this
    ·omega
  ·refine zm r (du++[o']) (acc++[fL acc o']) (by rw [h]; simp) (by simp [hl]) (fun j i m hj hi=>?_) h3 j o I1 ho;rcases oy j acc.length with fu |hge
   ·rw[jx fu]at hj;exact hr j i m hj hi
   ·rw [kR hge] at hj
    have:j - acc.length=0:=by
     rcases Sn (j - acc.length) with h |h
     ·exact h
     ·rw[Jc zw]at hj;cases hj
    rw[this]at hj;simp at hj;subst hj;have:j=du.length:=by omega
    subst this;exact hm i hi
end
end aw
namespace aw
open Go Go.RowKit
section
variable {g:G} {pf:Nat→cC} {ad:Array Oper}

def aiA (m q:Nat)(oq:Oper)(l:List Oper):List Oper:=l.take m++oq::((l.drop m).take (q - m)++l.drop (q+1))

theorem aiB (hg:c9 g){q:Nat}{oq:Oper}(hoq:ad[q]? = some oq)(dw:C3 q oq pf ad [] [] ad.toList=true){K:bk→List Ob→Prop}(hK:KC K){Q:Exit→Act→World→Prop}(hQ:∀E objs a w,K E objs→fe g E objs a w→Q .normal a w)
  {E:bk} {objs:List Ob} (uK:((ad.toList.take q).all fun o=>C2 o.op)=true) (hd:∀m,m≤q→(m=q∨∃y,ad[m]? = some y∧gE pf ad y oq=true)→Dr g pf ad (aiA m q oq ad.toList) E objs K) {a:Act} {w:World} (hs:fe g E objs a w) (id:Nat):(Code.region id ad true).wpIn g.F g.dep g.P Q a w:=by
 refine wpIn_region_any hg.mixed ?_;have hq:q<ad.size:=(tN.1 hoq).1;have hsz:ad.toList.length=ad.size:=by simp
 have Rv:=zm (pf:=pf) (ad:=ad) ad.toList [] [] rfl rfl aC dw
 have f:∀a n,a+n≤ad.size→(List.range' a n).filterMap (ad[·]?)=(ad.toList.drop a).take n:=fun a n h=>by
  have:=Ka ad.toList a n an;simpa using this
 have l8:List.range ad.size=List.range' 0 q++q::List.range' (q+1) (ad.size - (q+1)):=by
  obtain⟨m,hm⟩:∃m,ad.size=q+(1+m):=⟨ad.size - (q+1),by omega⟩;have e1:ad.size - (q+1)=m:=by omega
  rw[e1,Su,hm,← List.range'_append,← List.range'_append];simp[I7]
 refine OV hoq (fun j o ho=>⟨(Rv j o fy ho).1,(Rv j o fy ho).2.1,(Rv j o fy ho).2.2.1⟩) (fun i j x y Ti hjq hx hy h1 h2=>(Rv j y fy hy).2.2.2 i x Ti hjq hx h1 h2) hK hQ (List.range' (q+1) (ad.size - (q+1))) ad.size (Array.replicate ad.size false) (List.range' 0 q) a _ ?_ aC ?_ ?_ ?_ ?_ ?_
 ·intro j hj o ho;have hj:j<q:=by have:=List.mem_range'.1 hj;omega
  exact fk.1 uK o (uE.2 ⟨j,by rw[qb hj,Array.getElem?_toList];exact ho⟩)
 ·intro k o hk;simp[Array.getD]at hk
 ·intro i;rw[← l8];simp only[zC,Array.getD,V8];constructor
  ·intro h;simp[h]
  ·intro h;exact h.1
 ·rw[← l8];exact St
 ·rw[← l8];simp
 ·intro A B Hi hB;obtain⟨m,hm,rfl,rfl⟩:=List.range'_eq_append_iff.1 Hi;rw[Nat.mul_one]at hB ⊢;refine⟨E,objs,?_,hs.drew⟩
  have:=hd m hm (by
   rcases hB with h |⟨b,B',y,h1,h2,h3⟩
   ·left;have:=congrArg List.length h;simp at this;omega
   ·right
    have hb:b=0+m:=by
     have:(List.range' (0+m) (q - m)).head? = some b:=by rw[h1];rfl
     cases hqm:q - m with
     |zero=>rw[hqm]at this;simp at this
     |succ n=>rw[hqm,I7]at this;simp at this;omega
    exact⟨y,by rw[← h2,hb];simp,h3⟩)
  unfold aiA at this;rw[List.filterMap_append,f 0 m an,f (0+m) (q - m) an,f (q+1) _ an,V6];rw[Ih (i:=ad.size - (q+1)) aC];simpa using this
end
end aw
namespace aw
open Go Go.RowKit
section
variable {g:G} {pf:Nat→cC} {ad:Array Oper}

theorem acZ {Fin:Exit→Act→World→Prop}(hg:c9 g)(q:Nat)(oq:Oper){id:Nat}{k:List It}{E:bk}{objs:List Ob}(hoq:ad[q]? = some oq)(hx:C3 q oq pf ad [] [] ad.toList=true)(uK:((ad.toList.take q).all fun o=>C2 o.op)=true)(h:∀m,m≤q→(m=q∨∃y,ad[m]? = some y∧gE pf ad y oq=true)→R g pf Fin (.dr ad (aiA m q oq ad.toList)::k) E objs):R g pf Fin (.code (.region id ad true)::k) E objs:=by
 rintro⟨nQ,ho⟩;intro a w hs;simp only[KP];have hQ:∀E objs a w,RK g Fin k E objs→fe g E objs a w→KP g Fin k .normal a w:=fun _ _ a w hr hs=>hr a w hs
 exact aiB hg hoq hx (A7 k) hQ uK (fun m h1 h2=>by have:=h m h1 h2 ho;simpa only using this) hs id
end
end aw

namespace Go.Proofs.YtaagocopollacaaGreatDoor
open Go aw Go.Proofs
def am0:Nat→cC:=fun f=>bif Nat.beq f 8 then .look 0 else bif Nat.beq f 4900100001 then .bO 100 else bif Nat.beq f 4000000007 then .Qd else .still
def C4 (l:List Cs)(q:Cs):Bool:=TU (l++[q])&&decide ((l.length:Int)≤60)

theorem af2 (l:List Cs):∀r∈Cs.aa l,r.length=6:=fun r hr=>by
 unfold Cs.aa at hr;obtain⟨c,_,rfl⟩:=fA.1 hr;rfl

theorem HP (l:List Cs)(q:Cs)(dw:∀c∈l,c.Ok)(hq:q.Ok)(hb:l.length * 88≤140737488351232):bD Tryz.prog 4 [Dx l,q.av] (bV (C4 l q)):=by
 have dV:=Cs.kE l
 have eK:∀c∈l++[q],c.Ok:=fun c hc=>by
  rcases bW.1 hc with hc |hc
  ·exact dw c hc
  ·rw[dh.1 hc];exact hq
 refine bD.ej (pf:=am0) gK mixed Tryz.func4 rfl cX cX (by simp[Tryz.ntmps4]) fun w S hg=>?_
 refine af ?_;refine acZ hg.ok 8 _ rfl cX cX ?_;intro m hm hB
 have h3:m=3∨m=6∨m=8:=by
  rcases hB with h |⟨y,h1,h2⟩
  ·exact .inr (.inr h)
  ·have:m=0∨m=1∨m=2∨m=3∨m=4∨m=5∨m=6∨m=7∨m=8:=by omega
   rcases this with rfl |rfl |rfl |rfl |rfl |rfl |rfl |rfl |rfl<;>first |(left;rfl) |(right;left;rfl) |(right;right;rfl) |(cases h1;exact absurd (h2.symm.trans (show _=false by kernel_rfl)) fi)
 clear hB hm;rcases h3 with rfl |rfl |rfl
 ·refine af ?_;refine af1 ?_;refine afV ?_;refine afW ?_;unfold C4;refine aj (fun h=>?_) fun h=>?_
  ·refine cq ?_;rw[h,dV];rfl
  ·refine cq ?_;rw[h];rfl
 ·refine af ?_;refine af1 ?_;refine afV ?_;refine afW ?_;unfold C4;refine aj (fun h=>?_) fun h=>?_
  ·refine cq ?_;rw[h,dV];rfl
  ·refine cq ?_;rw[h];rfl
 ·refine af ?_;refine af1 ?_;refine afV ?_;refine afW ?_;unfold C4;refine aj (fun h=>?_) fun h=>?_
  ·refine cq ?_;rw[h,dV];rfl
  ·refine cq ?_;rw[h];rfl
end Go.Proofs.YtaagocopollacaaGreatDoor

namespace aw
open Go Tm

mutual
def nG:Gl→Nat
 | .mk _ _ a b c=>1+yz a+yz b+yz c
def yz:List Gl→Nat
 |[]=>0
 |g::r=>nG g+yz r
end
theorem xe (g:Gl):nG g=1+yz g.a+yz g.b+yz g.c:=by cases g;rw[nG];rfl

theorem xf:∀l:List Gl,l.length≤yz l
 |[]=>cT _
 |g::r=>by rw[yz,dv];have:=xf r;rw[xe];omega

theorem am1 (g:Gl):nbG g≤nG g∧CN g≤4 * nG g:=by
 induction g using Gl.ind with
 |_ g ha hb hc =>
 have key:∀l:List Gl,(∀x∈l,nbG x≤nG x∧CN x≤4 * nG x)→ua l≤yz l∧gq l≤4 * yz l:=fun l=>by
  induction l with
  |nil=>intro _;simp[ua,yz,gq]
  |cons x r ih =>
   intro h;have h1:=h x aC;have h2:=ih fun y hy=>h y kb
   rw[ua,yz,gq];omega
 have h1:=key _ ha;have h2:=key _ hb;have h3:=key _ hc;rw[OJ,xe,jP];constructor<;>split<;>omega

theorem OW (l:List Gl):ua l≤yz l∧gq l≤4 * yz l:=by
 induction l with
 |nil=>simp[ua,yz,gq]
 |cons x r ih=>have:=am1 x;rw[ua,yz,gq];omega

theorem HQ {v:Int}{t:Tm}(hf:t.Fit)(h:qA v t=true):GT t∧∀u∈cz t,0≤u∧u<v.toNat:=by
 unfold qA at h;rw[aV,cN]at h;refine⟨⟨h.1,hf⟩,fun u hu=>?_⟩;have Bp:cM [t]=true:=fN.2 fun x hx=>by rw[dh.1 hx];exact(dF.1 h.1).1
 have h1:=fk.1 h.2 u ((j7 Bp).2 (by simpa[ek]using hu));have h2:=Tm.lh t (dF.1 h.1).1 u hu;simp only[decide_eq_true_eq]at h1;omega

theorem xi {a b c:List Gl}(h:ig a b c=true):a=[]∧b=[]∧c=[]:=by
 unfold ig at h;simp only[decide_eq_true_eq]at h;exact⟨jy.1 an,jy.1 an,jy.1 an⟩

theorem ZI (v:Int)(g:Gl):∀ (left aq:Int) (aH:Bool),(ij v g left aq aH).2≤left:=by
 induction g using Gl.ind with
 |_ g ha hb hc =>
 have key:∀l:List Gl,(∀x∈l,∀ (left aq:Int) (aH:Bool),(ij v x left aq aH).2≤left)→∀ (left aq:Int) (aH:Bool),(b9 v l left aq aH).2≤left:=fun l=>by
  induction l with
  |nil=>intro _ left aq aH;rw[b9];exact gP _
  |cons x r ih =>
   intro h left aq aH;have h1:=h x aC (left - 1) aq aH;rw[b9];split
   ·show (ij v x (left - 1) aq aH).2≤left;omega
   ·have:=ih (fun y hy=>h y (by simp [hy])) (ij v x (left - 1) aq aH).2 aq aH;omega
 intro left aq aH;have A:=key _ ha;have B:=key _ hb;have C:=key _ hc;rw[kG];split
 ·exact gP _
 split
 ·exact gP _
 split
 ·exact gP _
 split
 ·split
  ·have a1:=A left (aq+1) false;split
   ·have b1:=B (b9 v g.a left (aq+1) false).2 (aq+1) aH;split
    ·have c1:=C (b9 v g.b (b9 v g.a left (aq+1) false).2 (aq+1) aH).2 (aq+1) aH;omega
    ·show (b9 v g.b (b9 v g.a left (aq+1) false).2 (aq+1) aH).2≤left;omega
   ·exact a1
  ·exact gP _
 split
 ·split
  ·exact A left (aq+1) false
  ·exact gP _
 ·exact gP _

theorem FY (v:Int):∀ (l:List Gl) (left aq:Int) (aH:Bool),(b9 v l left aq aH).2≤left
 |[],left,aq,aH=>by rw[b9];exact gP _
 |x::r,left,aq,aH=>by
  have h1:=ZI v x (left - 1) aq aH;rw[b9];split
  ·show (ij v x (left - 1) aq aH).2≤left;omega
  ·have:=FY v r (ij v x (left - 1) aq aH).2 aq aH;omega
def D9 (g:Gl):Prop:=g.t.Fit

theorem aiC (v:Int)(g:Gl):∀ (left aq:Int) (aH:Bool),left≤20→su D9 g→(ij v g left aq aH).1=true→0≤(ij v g left aq aH).2→su (GlF v.toNat) g∧(nG g:Int) - 1≤left - (ij v g left aq aH).2:=by
 induction g using Gl.ind with
 |_ g ha hb hc =>
 have key:∀ l:List Gl,(∀ x∈l,∀ (left aq:Int) (aH:Bool),left≤20→su D9 x→(ij v x left aq aH).1=true→0≤(ij v x left aq aH).2→su (GlF v.toNat) x∧(nG x:Int) - 1≤left - (ij v x left aq aH).2) →
   ∀ (left aq:Int) (aH:Bool),left≤20→eC D9 l→(b9 v l left aq aH).1=true→0≤(b9 v l left aq aH).2→eC (GlF v.toNat) l∧(yz l:Int)≤left - (b9 v l left aq aH).2:=fun l=>by
  induction l with
  |nil=>intro _ left aq aH _ _ _ _;rw[eC,yz,b9];exact⟨trivial,by simp⟩
  |cons x r ih =>
   intro h left aq aH hle lN h1 h2;rw[eC]at lN ⊢;rw[b9]at h1 h2 ⊢;split at h1
   ·cases h1
   ·rename_i hc;rw[if_neg hc]at h2 ⊢;simp only[mS,xM,decide_eq_true_eq,not_or,Bool.not_eq_false]at hc;obtain⟨k1,k2⟩:=h x aC (left - 1) aq aH an lN.1 hc.1.1 an;have k3:(ij v x (left - 1) aq aH).2≤20:=by have:=xe x;omega
    obtain⟨k4,k5⟩:=ih (fun y hy=>h y kb) (ij v x (left - 1) aq aH).2 aq aH k3 lN.2 h1 h2;refine⟨⟨k1,k4⟩,?_⟩;rw[yz];push_cast;omega
 intro left aq aH hle lN h1 h2;rw[Ap]at lN ⊢;rw[kG]at h1 h2 ⊢
 have nil:∀ {a b c:List Gl},ig a b c=true→a.length≤20∧b.length≤20∧c.length≤20:=fun h=>by
  obtain⟨rfl,rfl,rfl⟩:=xi h;simp
 by_cases c1:g.k=1
 ·rw [if_pos c1] at h1 h2 ⊢;simp only[aV]at h1;obtain⟨⟨n1,n2⟩,n3⟩:=h1;obtain⟨q1,q2⟩:=HQ lN.1 n2;obtain⟨ea,eb,ec⟩:=xi n1;unfold tV at n3;simp only[aV,beq_iff_eq]at n3;refine⟨⟨⟨fun _=>⟨q1,n3.1.1⟩,fun _=>q2,fun h=>by omega,nil n1⟩,?_⟩,?_⟩
  ·rw[ea,eb,ec];simp[eC]
  ·rw[xe,ea,eb,ec];simp[yz]
 rw[if_neg c1]at h1 h2 ⊢;by_cases c2:g.k=2
 ·rw [if_pos c2] at h1 h2 ⊢;simp only[aV,beq_iff_eq]at h1;obtain⟨⟨⟨n1,n2⟩,n3⟩,n4⟩:=h1;obtain⟨q1,q2⟩:=HQ lN.1 n2;obtain⟨ea,eb,ec⟩:=xi n1;refine⟨⟨⟨fun _=>⟨q1,n3⟩,fun _=>q2,fun _=>n4,nil n1⟩,?_⟩,?_⟩
  ·rw[ea,eb,ec];simp[eC]
  ·rw[xe,ea,eb,ec];simp[yz]
 rw[if_neg c2]at h1 h2 ⊢;have UP:∀ {X:Prop},(g.k=1∨g.k=2)→X:=fun h=>absurd h an
 by_cases c3:g.k=3
 ·rw [if_pos c3] at h1 h2 ⊢;simp only[aV]at h1;obtain⟨ea,eb,ec⟩:=xi h1.1.1;refine⟨⟨⟨fun h=>UP h,fun h=>UP h,fun h=>absurd h c2,nil h1.1.1⟩,?_⟩,?_⟩
  ·rw[ea,eb,ec];simp[eC]
  ·rw[xe,ea,eb,ec];simp[yz]
 rw[if_neg c3]at h1 h2 ⊢;have hla:=xf g.a;have hlb:=xf g.b;have hlc:=xf g.c;by_cases c4:g.k=4
 ·rw [if_pos c4] at h1 h2 ⊢;by_cases d0:j9 g.t=true
  ·rw [if_pos d0] at h1 h2 ⊢;by_cases d1:(b9 v g.a left (aq+1) false).1=true
   ·rw [if_pos d1] at h1 h2 ⊢;by_cases d2:(b9 v g.b (b9 v g.a left (aq+1) false).2 (aq+1) aH).1=true
    ·rw [if_pos d2] at h1 h2 ⊢;have mono:=FY v;obtain⟨k1,k2⟩:=key g.c hc _ (aq+1) aH (by have:=mono g.a left (aq+1) false;have:=mono g.b (b9 v g.a left (aq+1) false).2 (aq+1) aH;omega) lN.2.2.2 h1 h2;obtain⟨k3,k4⟩:=key g.b hb _ (aq+1) aH (by have:=mono g.a left (aq+1) false;omega) lN.2.2.1 d2 an;obtain⟨k5,k6⟩:=key g.a ha _ (aq+1) false hle lN.2.1 d1 an;refine⟨⟨⟨fun h=>UP h,fun h=>UP h,fun h=>absurd h c2,by omega,by omega,by omega⟩,k5,k3,k1⟩,?_⟩;rw[xe];push_cast;omega
    ·rw[if_neg d2]at h1;cases h1
   ·rw[if_neg d1]at h1;cases h1
  ·rw[if_neg d0]at h1;cases h1
 rw[if_neg c4]at h1 h2 ⊢;by_cases c5:g.k=5
 ·rw [if_pos c5] at h1 h2 ⊢;split at h1
  ·rename_i hh;rw[if_pos hh]at h2 ⊢;simp only[aV,decide_eq_true_eq]at hh;have eb:g.b=[]:=jy.1 an;have ec:g.c=[]:=jy.1 an;obtain⟨k5,k6⟩:=key g.a ha _ (aq+1) false hle lN.2.1 h1 h2;refine⟨⟨⟨fun h=>UP h,fun h=>UP h,fun h=>absurd h c2,by omega,by rw[eb];simp,by rw[ec];simp⟩,k5,by rw[eb,eC];trivial,by rw[ec,eC];trivial⟩,?_⟩;rw[xe,eb,ec];simp only[yz];omega
  ·cases h1
 rw[if_neg c5]at h1;cases h1

theorem Av (v:Int):∀ (l:List Gl) (left aq:Int) (aH:Bool),left≤20→0≤left→eC D9 l→(b9 v l left aq aH).1=true→eC (GlF v.toNat) l∧(yz l:Int)≤left - (b9 v l left aq aH).2∧0≤(b9 v l left aq aH).2
 |[],left,aq,aH,_,h0,_,_=>by rw[eC,yz,b9];exact⟨trivial,by simp,h0⟩
 |x::r,left,aq,aH,hle,h0,lN,h1=>by
  rw[eC]at lN ⊢;rw[b9]at h1 ⊢;split at h1
  ·cases h1
  ·rename_i hc;rw[if_neg hc];simp only[mS,xM,decide_eq_true_eq,not_or,Bool.not_eq_false]at hc;obtain⟨k1,k2⟩:=aiC v x (left - 1) aq aH an lN.1 hc.1.1 an;have k3:(ij v x (left - 1) aq aH).2≤20:=by have:=xe x;omega
   obtain⟨k4,k5,k6⟩:=Av v r (ij v x (left - 1) aq aH).2 aq aH k3 an lN.2 h1;refine⟨⟨k1,k4⟩,?_,k6⟩;rw[yz];push_cast;omega

structure sA (c:Cs):Prop where
 head:c.head.Fit
 body:eC D9 c.body

theorem am2 {c:Cs}(hf:sA c)(h:nA c=true):aiq c:=by
 unfold nA at h;simp only[aV,decide_eq_true_eq]at h;obtain⟨⟨⟨⟨h1,h2⟩,h3⟩,_⟩,h5⟩:=h;obtain⟨g1,g2⟩:=HQ hf.head h3;obtain⟨k1,k2,k3⟩:=Av c.vars c.body 20 1 true an an hf.body h5;have h6:=xf c.body;have h7:=OW c.body;exact⟨g1,g2,by omega,h1,k1,by omega,by omega,by omega⟩

theorem afz {l:List Cs}(hf:∀c∈l,sA c)(h:(jV l).2=0):rk l:=by
 obtain⟨h1,h2,_⟩:=(TZ l).1 h;exact⟨h1,fun c hc=>am2 (hf c hc) (h2 c hc)⟩

theorem ac0 {l:List Cs}{q:Cs}(hf:sA q)(h:pQ q l=true){n ab:Nat}(zP:ab≤90):MI n ab ⟨[],q.vars.toNat,[],bJ q.body 0 0 [],0,[]⟩:=by
 have hq:=wM h;obtain⟨k1,k2,k3⟩:=Av q.vars q.body 20 1 true an an hf.body hq.body;have h7:=OW q.body;have hv:=hq.afj;have n0:zh []=0:=by simp[zh,ua]
 have g0:mj []=0:=by simp[mj,gq]
 have m1:(ab - 0) * 1160≤90 * 1160:=o7 _ an;have m2:(ab - 0) * 90≤90 * 90:=o7 _ an;refine⟨.nil _,?_,?_,.put k1 (by show 0+q.vars.toNat≤q.vars.toNat;omega) fy (.nil _ _) aC,⟨fun i t hi=>by simp at hi,fun i j ti tj _ hi=>by simp at hi⟩⟩
 ·show q.vars.toNat+8 * zh (bJ q.body 0 0 [])+(ab - 0) * 1160≤110000
  rw[qI,n0];omega
 ·show 0+mj (bJ q.body 0 0 [])+(ab - 0) * 90≤1000000
  rw[nL,g0];omega
end aw

namespace aw
open Go Tm

variable{l:List Cs}{q:Cs}{ab:Nat}
theorem Rw(hf:sA q)(h:pQ q l=true):(∀x∈q.head.l,GT x∧∀u∈cz x,u∈tZ)∧q.head.l.length≤8:=by
 have hq:=wM h;have gt:GT q.head:=⟨hq.right,hf.head⟩;have Bp:cM [q.head]=true:=fN.2 fun x hx=>by rw[dh.1 hx];exact gt.fair
 have ho:∀u∈cz q.head,0≤u∧u<1000:=fun u hu=>by
  have h1:=hq.vars u ((j7 Bp).2 (by simpa[ek]using hu));have h2:=Tm.lh q.head gt.fair u hu;have h3:=hq.afj;omega
 refine⟨fun x hx=>?_,?_⟩
 ·obtain ⟨h1,h2⟩:=HD gt hq.kind ho hx;exact⟨h1,CW (F:=1000) an h2⟩
 ·have h1:=gt.fair;rw[Tm.px]at h1;simp only[aV]at h1;have h2:=h1.2;unfold Tm.mu at h2;rw[if_neg (by have:=hq.kind;omega),if_neg (by have:=hq.kind;omega)]at h2;simp only[aV,decide_eq_true_eq]at h2;omega

theorem LS(hl:∀c∈l,sA c)(hf:sA q)(h:pQ q l=true)(zP:ab≤90):∃n w',eO Am l q.head.l (.run (cY q.body 0 0 [])) [] q.vars.toNat ⟨ab,[],0,false⟩ n w'∧k7 l q.head ab ⟨[],q.vars.toNat,[],bJ q.body 0 0 [],0,[]⟩ (ss w')∧(ss w').length≤900000000000:=by
 have hq:=wM h;have hP:=afz hl hq.prog;obtain⟨k1,k2,k3⟩:=Av q.vars q.body 20 1 true an an hf.body hq.body;have h7:=OW q.body;obtain⟨n,w',hr⟩:=eO.total Am l q.head.l ab (mi (cY q.body 0 0 [])) (cY q.body 0 0 []) [] q.vars.toNat ⟨ab,[],0,false⟩ cP cP;refine⟨n,w',hr,Lr hr,?_⟩;have hg:mi (cY q.body 0 0 [])≤80:=by rw[dB,o6];omega
 have hK:l.length * (7280+1)≤1456200:=by have:=hP.len;omega
 have oV:=eO.oV (bs:=80) (Dm:=7280) (K:=1456200) (fun c hc=>(hP.cls c hc).bsz) hK hr;simp only at oV;have h1:=(oV an).1;have h2:(ss w').length≤w'.aD.length+1:=by unfold ss;split<;>simp
 have h3:ab * 1456200≤90 * 1456200:=o7 _ zP;simp only[lM]at h1;omega

structure UQ (l:List Cs) (q:Cs) (ab:Nat) (s:List Ev):Prop where
 ends:k7 l q.head ab ⟨[],q.vars.toNat,[],bJ q.body 0 0 [],0,[]⟩ s
 len:s.length≤900000000000

theorem Rx(hl:∀c∈l,sA c)(hf:sA q)(h:pQ q l=true)(zP:ab≤90):∃s,UQ l q ab s:=by
 obtain⟨_,w',_,h1,h2⟩:=LS hl hf h zP;exact⟨_,h1,h2⟩

theorem UR{s:List Ev}(h:UQ l q ab s):∃X e,s=X++[e]∧(∀e∈X,wV e)∧OA e:=by
 obtain⟨n,m',h1,h2⟩:=h.ends;have hg:=(tw l q.head ab n ⟨[],q.vars.toNat,[],bJ q.body 0 0 [],0,[]⟩).stop (by rw[h1]);rw[h1]at hg;obtain⟨X,e,h3,h4,h5⟩:=hg;exact⟨X,e,by rw[← h2,h3];rfl,h4,h5⟩

theorem US{f f':Nat}(hf:f≤f'){s s':List Ev}(h:UQ l q f s)(h':UQ l q f' s'):s=s'∨∃X Y,s=X++[ko]∧s'=X++Y:=by
 obtain⟨n,m1,h1,h2⟩:=h.ends;obtain⟨n',m2,h3,h4⟩:=h'.ends;have:=FM l q.head hf n _ m1 n' m2 h1 h3;rw[h2,h4]at this;exact this
end aw

namespace Go.Proofs.YtaagocopollacaaGreatDoor
open Go aw Go.Proofs

theorem UT (e:Ev)(hs:Tm.ay e.ts<1000000000):bD Tryz.prog 38 [evA e,evA e] (bV true):=by
 have rv:Tm.ic e.ts e.ts=true:=Tm.M8 _;have hc:=NA e.ts e.ts hs;rw[rv]at hc;refine zp Tryz.func38 fun w S hg=>?_
 refine oS ?_;have cS:bE e.tx e.tx=true:=Tm.bo.2 rfl;refine cQ hg.ok rfl rfl (by simp[cS]) rfl rfl ?_;refine oS ?_;refine aF (hc) ?_;refine cq ?_;rfl
theorem fq {l:List Ev}{i:Nat}{e:Ev}(h:l[i]? = some e):(l.map Ev.row)[i]? = some [.v (.int .i64 e.k),.v (.string e.tx),.sl (Tm.aa e.ts),.v (.int .i64 e.c)]:=by rw[eU,h];rfl

theorem xj (l:List Ev)(hs:∀e∈l,Tm.ay e.ts<1000000000)(hl:l.length≤900000000000):bD Tryz.prog 15 [.d (.sl (l.map Ev.row)),.d (.sl (l.map Ev.row))] (bV true):=by
 have kQ:(l.map Ev.row).length=l.length:=eS _;refine zp Tryz.func15 fun w S hg=>?_
 refine gu ?_;refine bh (fun k:Nat=>([(0,.d (.sl (l.map Ev.row))),(1,.d (.sl (l.map Ev.row))),(5,iV k)],[])) (fun k=>k≤l.length) (fun k=>l.length - k) 0 fy uC rfl ?_;intro k hk;refine af ?_;refine aj (fun h=>?_) fun h=>?_
 ·have aR:k<l.length:=bK h (by rw [kQ]);have e1:l[k]? = some l[k]:=dY aR;have hm:=hs _ (eg aR);generalize l[k]=x at e1 hm;refine cW (fq e1) ?_;refine cW (fq e1) ?_;refine aF (UT x hm) ?_;refine gu ?_;exact bp (k+1) aR an aaN rfl
 ·refine cq ?_;rfl

theorem LU (l m:List Ev)(eo:l≠[])(hs:∀e∈l,Tm.ay e.ts<1000000000)(hl:l.length≤900000000000)(hm:m.length≤900000000000)(h:l=m∨∃X Y,l=X++[ko]∧m=X++Y):bD Tryz.prog 7 [.d (.sl (l.map Ev.row)),.d (.sl (m.map Ev.row))] (bV true):=by
 have kQ:(l.map Ev.row).length=l.length:=eS _;have hrm:(m.map Ev.row).length=m.length:=eS _
 obtain⟨X0,e0,rfl⟩:∃X0 e0,l=X0++[e0]:=by
  rcases Wj l with h |⟨X,e,h⟩
  ·exact absurd h eo
  ·exact⟨X,e,by rw[h];simp⟩
 have aZ:(X0++[e0]).length=X0.length+1:=by simp
 rw[aZ]at hl;have YW:(X0++[e0])[((X0.length:Nat):Int).toNat]? = some e0:=by rw[vM];simp
 refine zp Tryz.func7 fun w S hg=>?_
 rw[kQ,aZ];refine Ei ?_;refine gN 13 rfl (bM.wrap (n:=(X0.length:Int)) zu an an) ?_;refine cW (fq YW) ?_;by_cases h5:e0.k=5
 ·have hX:∃Y,m=X0++Y:=by
   rcases h with rfl |⟨X,Y,h1,rfl⟩
   ·exact⟨[e0],rfl⟩
   ·obtain ⟨h2,_⟩:=List.append_inj' h1 rfl;exact⟨Y,by rw[h2]⟩
  obtain⟨Y,hY⟩:=hX;have hml:X0.length≤m.length:=by rw[hY,List.length_append];omega
  have hw:IntKind.i64.wrap (((X0.length+1:Nat):Int) - 1)=(X0.length:Int):=(sK zu zu).trans zu
  have six:∀k:List Ev,∀r∈k.map Ev.row,r.length=4:=fun k r hr=>by
   obtain⟨e,_,rfl⟩:=fA.1 hr;rfl
  refine en hg.ok rfl rfl (by simp[h5]) rfl rfl ?_;rw[kQ,aZ,hrm];refine qY rfl rfl (fun _=>?_) (fun h9=>absurd (of_decide_eq_false h9) (by rw[hw];omega))<;>refine er hg.ok rfl rfl ?_
  refine Bn hg.ok (X0.map Ev.row) rfl rfl rfl rfl rfl rfl rfl (six _) (gP 0) (by rw[hw];omega) (by rw[hw,kQ,aZ];omega) (by rw[hw];simp) (af ?_);refine Bn hg.ok (X0.map Ev.row) rfl rfl rfl rfl rfl rfl rfl (six _) (gP 0) (by rw[hw];omega) (by rw[hw,hrm];omega) (by rw[hw,hY];simp) (af ?_);refine aF (xj X0 (fun e he=>hs e (by simp[he])) an) ?_;refine cq ?_;rfl
 ·refine cQ hg.ok rfl rfl (by simp [h5]) rfl rfl ?_
  have hlm:m=X0++[e0]:=by
   rcases h with h |⟨X,Y,h1,rfl⟩
   ·exact h.symm
   ·obtain ⟨_,h2⟩:=List.append_inj' h1 rfl;rw[List.cons.injEq]at h2;rw[h2.1]at h5;exact absurd rfl h5
  subst hlm;refine aF (xj (X0++[e0]) hs (by rw[aZ];exact hl)) ?_;refine cq ?_;rfl
end Go.Proofs.YtaagocopollacaaGreatDoor

namespace aw
open Go
namespace Tm
end Tm
namespace Tm
end Tm
end aw

namespace aw
open Go
end aw
namespace aw
open Go
section
variable {ty:Nat→Option Ty} {T B:Nat} {n:Nat} {τ:Ty} {row:List D} {a:AV}
end
end aw

namespace aw
open Go

theorem GY {l:List Tm}{x:Tm}{v:Int}(hx:x∈l)(hv:v∈Tm.cz x):v∈Tm.ek l:=by
 induction l with
 |nil=>cases hx
 |cons y r ih =>
  rw[Tm.ek];rcases eL.1 hx with rfl |hx
  ·exact agq _ hv
  ·exact List.mem_append_right _ (ih hx)
end aw

namespace Go.Proofs.YtaagocopollacaaGreatDoor
open Go aw Go.Proofs
def sY:Tm:=Tm.vT 1
def sB:ak:=[(0,.mk 3 ⟨#[102]⟩ 0 [sY]),(1,.mk 3 ⟨#[97]⟩ 0 [])]

theorem yA {l:List Cs}{q:Cs}(h:C4 l q=true):Med (l++[q])∧l.length≤60:=by
 unfold C4 at h;simp only[aV,decide_eq_true_eq]at h;obtain⟨h1,h2⟩:=h;obtain⟨a,b,c⟩:=Q8 h1;exact⟨⟨a,b,c⟩,by omega⟩
end Go.Proofs.YtaagocopollacaaGreatDoor

namespace aw
open Go Tm
def EvQ (S:Nat)(l:List Ev):Prop:=∀e∈l,ay e.ts≤S

theorem EvQ.add {S:Nat}{l:List Ev}{e:Ev}(h:EvQ S l)(he:ay e.ts≤S):EvQ S (l++[e]):=fun x hx=>by
 rcases bW.1 hx with hx |hx
 ·exact h x hx
 ·rw[dh.1 hx];exact he

theorem EvQ.said {S:Nat}{w:Wo}(h:EvQ S w.aD)(tx:Bs):EvQ S (w.said tx).aD:=by
 unfold Wo.said;split
 ·exact h
 ·exact h.add (by simp[r9,ay])

theorem eO.evs {β:Type}{D:Dt β}{P:List Cs}{head:List Tm}{S:Nat}(acX:∀b l,D.Dy b head=some l→ay l≤S){j:Jb}{b:β}{f:Nat}{w:Wo}{n:Option Nat}{w':Wo}(h:eO D P head j b f w n w'):EvQ S w.aD→EvQ S w'.aD:=by
 have z:∀ (k c:Int) (tx:ByteArray),ay (Ev.mk k tx [] c).ts≤S:=fun _ _ _=>by simp[ay]
 induction h with
 |oN=>exact fun hq=>hq.add (z _ _ _)
 |Dy h=>exact fun hq=>hq.add (acX _ _ h)
 |cut _ _ ih=>exact ih
 |bad=>exact fun hq=>hq.add (z _ _ _)
 |no=>exact id
 |yes _ _ _ ih=>exact fun hq=>ih (hq.said _)
 |stop=>exact fun hq=>EvQ.add hq (z _ _ _)
 |call _ _ _ ih=>exact ih
 |so _ _ _ ih=>exact ih
 |AQ _ _ _ _ ih1 zY=>exact fun hq=>zY (ih1 hq)
 |sq _ _ _ ih=>exact ih
 |zg _ _ _ ih=>exact ih
 |MH _ _ _ _ ih1 zY=>exact fun hq=>zY (ih1 hq)
 |skip _ _ _ _ _ _ _ ih=>exact ih
 |none=>exact id
 |other _ _ ih=>exact ih
 |fail _ _ _ ih=>exact ih
 |over _ _ _ _ ih=>exact ih
 |aH _ _ _ _ ih=>exact ih
 |more _ _ _ _ _ ih1 zY=>exact fun hq=>zY (ih1 hq)

theorem OX (g:Int→Int)(t:Tm):(Tm.fS g t).size=t.size:=by
 induction t using Tm.ind with
 |_ t ih =>
 rw[sf,Tm.size_eq,Tm.size_eq t];show 1+ay (Tm.dj g t.l)=1+ay t.l
 have key:∀l:List Tm,(∀x∈l,(Tm.fS g x).size=x.size)→ay (Tm.dj g l)=ay l:=fun l=>by
  induction l with
  |nil=>intro _;rfl
  |cons a l ihl =>
   intro h;rw[Tm.dj,ay,ay,h a aC,ihl fun x hx=>h x tM]
 rw[key _ ih]

theorem zn (g:Int→Int):∀l:List Tm,ay (Tm.dj g l)=ay l
 |[]=>rfl
 |a::l=>by rw[Tm.dj,ay,ay,OX,zn g l]

theorem HR {b:ak}{head l:List Tm}(h:Am.Dy b head=some l):ay l≤3000 * head.length:=by
 have h:(if head.any (fun x=>(eH b x).2≠0) then none else some (dH (head.map fun x=>(eH b x).1)).1)=some l:=h;split at h
 ·cases h
 ·cases h
  have hv:∀k:List Tm,ay (k.map fun x=>(eH b x).1)≤3000 * k.length:=fun k=>by
   induction k with
   |nil=>simp[ay]
   |cons x k ih =>
    rw[List.map_cons,ay,dv]
    have:(eH b x).1.size≤3000:=by
     unfold eH DU;split
     ·rename_i hc;simp only[aV,decide_eq_true_eq]at hc;exact hc.1
     ·simp[aJ,Tm.size,ay]
    omega
  unfold dH;split
  ·rw[zn];exact hv head
  ·simp[ay]

theorem OY {l:List Cs}{q:Cs}(hl:∀c∈l,sA c)(hf:sA q)(h:pQ q l=true){ab:Nat}(zP:ab≤90){s:List Ev}(hs:UQ l q ab s):∀e∈s,ay e.ts<1000000000:=by
 obtain⟨n,w',hr,h1,_⟩:=LS hl hf h zP;have e:s=ss w':=hs.ends.fun h1;have h8:=(Rw hf h).2;have hq:=eO.evs (S:=24000) (fun b k hk=>by have:=HR hk;omega) hr (by intro e he;cases he);intro x hx;rw[e]at hx
 have:ay x.ts≤24000:=by
  unfold ss at hx;split at hx
  ·exact hq x hx
  ·exact hq.add (e:=r8) (by simp[r8,ay]) x hx
 omega

def C5 {β:Type} (U:β→Tm→Tm→Option (Option β)) (Do:β→Nat→Tm→Option (Dn β)) (An:β→List Tm→Option (Option (List Tm))) (P:List Cs) (head:List Tm):Nat→Jb→β→Nat→Wo→Option (Option Nat × Wo)
 |0,_,_,_,_=>none
 |n+1,.run [],b,_,w=>match An b head with
  |none=>none
  |some none=>some (none,w.stop (kJ 3))
  |some (some l)=>some (none,w.see (nI l))
 |n+1,.run (x::r),b,f,w =>
  if x.g.k=0∨x.g.k=3 then match C5 U Do An P head n (.run r) b f w with
   |none=>none
   |some (m,w')=>some (sj m x.id,w')
  else if x.g.k=2 then match Do b f (dz x.sh x.g.t) with
   |none=>none
   |some (.bad e)=>some (none,w.stop (kJ e))
   |some .no=>some (none,w)
   |some (.yes b' f' tx)=>C5 U Do An P head n (.run r) b' f' (w.said tx)
  else if x.g.k=1 then match w.left with
   |0=>some (none,w.next.stop ko)
   |c+1=>C5 U Do An P head n (.cls P (dz x.sh x.g.t) (w.ids+1) r) b f { w.next with left:=c }
  else if x.g.k=5 then match C5 U Do An P head n (.run (cY x.g.a x.sh (w.ids+1) [⟨aM,0,w.ids+1⟩,⟨dK,0,0⟩])) b f w.next with
   |none=>none
   |some (m,w1)=>if m.isSome=true∨w1.over=true then some (none,w1) else C5 U Do An P head n (.run r) b f w1
  else if x.g.k=4 then match C5 U Do An P head n (.run (cY x.g.a x.sh (w.ids+1) (⟨aM,0,w.ids+1⟩::cY x.g.b x.sh x.id r))) b f w.next with
   |none=>none
   |some (m,w1)=>if w1.over=true then some (none,w1) else match m with
    |some k=>some (oM k (w.ids+1),w1)
    |none=>C5 U Do An P head n (.run (cY x.g.c x.sh x.id r)) b f w1
  else C5 U Do An P head n (.run r) b f w
 |n+1,.cls [] _ _ _,_,_,w=>some (none,w)
 |n+1,.cls (c::cs) t id r,b,f,w =>
  if c.head.s=t.s∧c.head.l.length=t.l.length then match U b t (dz f c.head) with
   |none=>none
   |some none=>C5 U Do An P head n (.cls cs t id r) b f w
   |some (some b')=>match C5 U Do An P head n (.run (cY c.body f id r)) b' (f+c.vars.toNat) w with
    |none=>none
    |some (m,w1)=>if w1.over=true then some (none,w1) else match m with
     |some k=>some (oM k id,w1)
     |none=>C5 U Do An P head n (.cls cs t id r) b f w1
  else C5 U Do An P head n (.cls cs t id r) b f w

theorem OZ {β:Type}{U:β→Tm→Tm→Option (Option β)}{Do:β→Nat→Tm→Option (Dn β)}{An:β→List Tm→Option (Option (List Tm))}{D:Dt β}(hU:∀b s t r,U b s t=some r→D.uni b s t=r)(hD:∀b f t r,Do b f t=some r→D.oL b f t=r)(hA:∀b l r,An b l=some r→D.Dy b l=r)(P:List Cs)(head:List Tm):∀ (n:Nat) (j:Jb) (b:β) (f:Nat) (w:Wo) (m:Option Nat) (w':Wo),C5 U Do An P head n j b f w=some (m,w')→eO D P head j b f w m w'
 |0,_,_,_,_,_,_,h=>by rw[C5]at h;cases h
 |n+1,.run [],b,f,w,m,w',h=>by
  rw[C5]at h;cases ha:An b head with
  |none=>rw[ha]at h;cases h
  |some o =>
   rw[ha]at h;cases o with
   |none=>cases h;exact .oN (hA _ _ _ ha)
   |some l=>cases h;exact .Dy (hA _ _ _ ha)
 |n+1,.run (x::r),b,f,w,m,w',h=>by
  have ih:=OZ hU hD hA P head n;rw[C5]at h;by_cases c1:x.g.k=0∨x.g.k=3
  ·rw [if_pos c1] at h;cases he:C5 U Do An P head n (.run r) b f w with
   |none=>rw[he]at h;cases h
   |some y =>
    obtain⟨m1,w1⟩:=y;rw[he]at h;cases h;exact .cut c1 (ih _ _ _ _ _ _ he)
  rw[if_neg c1]at h;by_cases c2:x.g.k=2
  ·rw [if_pos c2] at h;cases hd:Do b f (dz x.sh x.g.t) with
   |none=>rw[hd]at h;cases h
   |some y =>
    rw[hd]at h;have Ey:=hD _ _ _ _ hd;cases y with
    |bad e=>cases h;exact .bad c2 Ey
    |no=>cases h;exact .no c2 Ey
    |yes b' f' tx=>exact .yes c2 Ey (ih _ _ _ _ _ _ h)
  rw[if_neg c2]at h;by_cases c3:x.g.k=1
  ·rw [if_pos c3] at h;cases hl:w.left with
   |zero=>rw[hl]at h;cases h;exact .stop c3 hl
   |succ c=>rw[hl]at h;exact .call c3 hl (ih _ _ _ _ _ _ h)
  rw[if_neg c3]at h;by_cases c5:x.g.k=5
  ·rw [if_pos c5] at h;cases he:C5 U Do An P head n (.run (cY x.g.a x.sh (w.ids+1) [⟨aM,0,w.ids+1⟩,⟨dK,0,0⟩])) b f w.next with
   |none=>rw[he]at h;cases h
   |some y =>
    obtain⟨m1,w1⟩:=y;rw[he]at h;simp only at h;have h1:=ih _ _ _ _ _ _ he;split at h
    ·rename_i hc;cases h;exact .so c5 h1 hc
    ·rename_i hc;have hm:m1=none:=by cases m1 with
      |none=>rfl
      |some _=>exact absurd (.inl rfl) hc
     have ho:w1.over=false:=by cases ho:w1.over with
      |false=>rfl
      |true=>exact absurd (.inr ho) hc
     subst hm;exact .AQ c5 h1 ho (ih _ _ _ _ _ _ h)
  rw[if_neg c5]at h;by_cases c4:x.g.k=4
  ·rw [if_pos c4] at h;cases he:C5 U Do An P head n (.run (cY x.g.a x.sh (w.ids+1) (⟨aM,0,w.ids+1⟩::cY x.g.b x.sh x.id r))) b f w.next with
   |none=>rw[he]at h;cases h
   |some y =>
    obtain⟨m1,w1⟩:=y;rw[he]at h;simp only at h;have h1:=ih _ _ _ _ _ _ he;split at h
    ·rename_i hc;cases h;exact .sq c4 h1 hc
    ·rename_i hc;have ho:w1.over=false:=by simpa using hc
     cases m1 with
     |some k=>cases h;exact .zg c4 h1 ho
     |none=>exact .MH c4 h1 ho (ih _ _ _ _ _ _ h)
  rw[if_neg c4]at h;exact .skip (fun e=>c1 (.inl e)) c3 c2 (fun e=>c1 (.inr e)) c4 c5 (ih _ _ _ _ _ _ h)
 |n+1,.cls [] t id r,b,f,w,m,w',h=>by rw[C5]at h;cases h;exact .none
 |n+1,.cls (c::cs) t id r,b,f,w,m,w',h=>by
  have ih:=OZ hU hD hA P head n;rw[C5]at h;by_cases hh:c.head.s=t.s∧c.head.l.length=t.l.length
  ·rw [if_pos hh] at h;cases hu:U b t (dz f c.head) with
   |none=>rw[hu]at h;cases h
   |some o =>
    rw[hu]at h;have SD:=hU _ _ _ _ hu;cases o with
    |none=>exact .fail hh SD (ih _ _ _ _ _ _ h)
    |some b' =>
     simp only at h;cases he:C5 U Do An P head n (.run (cY c.body f id r)) b' (f+c.vars.toNat) w with
     |none=>rw[he]at h;cases h
     |some y =>
      obtain⟨m1,w1⟩:=y;rw[he]at h;simp only at h;have h1:=ih _ _ _ _ _ _ he;split at h
      ·rename_i hc;cases h;exact .over hh SD h1 hc
      ·rename_i hc;have ho:w1.over=false:=by simpa using hc
       cases m1 with
       |some k=>cases h;exact .aH hh SD h1 ho
       |none=>exact .more hh SD h1 ho (ih _ _ _ _ _ _ h)
  ·rw [if_neg hh] at h;exact .other hh (ih _ _ _ _ _ _ h)

def ugC (B:ak)(a b:Tm):Option (Option ak):=match ugF 1000 [(a,b)] B []with
 |some (B',true)=>some (some B')
 |some (_,false)=>some none
 |none=>none

theorem ZJ (B:ak)(a b:Tm)(r:Option ak)(h:ugC B a b=some r):sd B a b=r:=by
 unfold ugC at h;cases hu:ugF 1000 [(a,b)] B []with
 |none=>rw[hu]at h;cases h
 |some y =>
  obtain⟨B',ok⟩:=y;have hr:=wP _ _ _ _ _ _ hu;rw[hu]at h;unfold sd;cases ok with
  |true =>
   cases h;have hx:∃B',YX B a b B':=⟨_,_,hr⟩;rw[dif_pos hx];obtain⟨n2,h2⟩:=Classical.choose_spec hx;exact congrArg some (wY h2 hr).1
  |false =>
   cases h;rw[dif_neg];rintro⟨B2,n2,h2⟩;have:=(wY h2 hr).2;cases this

def O0 (B:ak):List Tm→Option (Option ak)
 |a::b::r=>match ugC B a b with
  |none=>none
  |some none=>some none
  |some (some B')=>O0 B' r
 |_=>some (some B)

theorem Ry:∀ (l:List Tm) (B:ak) (r:Option ak),O0 B l=some r→fP B l=r
 |[],B,r,h=>by rw[O0]at h;cases h;rw[fP];simp;simp
 |[_],B,r,h=>by rw[O0]at h;cases h;rw[fP];simp;simp
 |a::b::l,B,r,h=>by
  rw[O0]at h;rw[fP];cases hu:ugC B a b with
  |none=>rw[hu]at h;cases h
  |some o =>
   rw[hu]at h;rw[ZJ _ _ _ _ hu];cases o with
   |none=>cases h;rfl
   |some B'=>exact Ry l B' r h

def doC (b:ak)(f:Nat)(t:Tm):Option (Dn ak) :=
 if t.l.any (fun x=>(eH b x).2≠0) then some (.bad 3)
 else
  let a:=dR t.s (t.l.map fun x=>(eH b x).1) f
  if a.e≠0 then some (.bad a.e)
  else if a.h=false then some .no
  else match O0 b a.al with
   |none=>none
   |some o=>if a.ap then (match o with
     |some _=>some .no
     |none=>some (.yes b f []))
    else match o with
     |none=>some .no
     |some b'=>some (.yes b' a.nx.toNat a.tx)

theorem aiD (b:ak)(f:Nat)(t:Tm)(r:Dn ak)(h:doC b f t=some r):Am.oL b f t=r:=by
 unfold doC at h;show (if _ then _ else _)=_
 by_cases c1:(t.l.any fun x=>decide ((eH b x).2≠0))=true
 ·rw[if_pos c1]at h ⊢;cases h;rfl
 rw[if_neg c1]at h ⊢;simp only at h ⊢;generalize dR t.s (t.l.map fun x=>(eH b x).1) f=a at h ⊢;by_cases c2:a.e≠0
 ·rw[if_pos c2]at h ⊢;cases h;rfl
 rw[if_neg c2]at h ⊢;by_cases c3:a.h=false
 ·rw[if_pos c3]at h ⊢;cases h;rfl
 rw[if_neg c3]at h ⊢;cases hu:O0 b a.al with
 |none=>rw[hu]at h;cases h
 |some o =>
  rw[hu]at h;rw[Ry _ _ _ hu];by_cases c4:a.ap=true
  ·rw [if_pos c4];simp only[c4,if_true]at h;cases o<;>(cases h;rfl)
  ·rw [if_neg c4];simp only[c4]at h;cases o<;>(cases h;rfl)

def HT (l:List Cs)(q:Cs)(ab:Nat):Option (List Ev):=(C5 ugC doC (fun b k=>some (if k.any (fun x=>(eH b x).2≠0) then none else some (dH (k.map fun x=>(eH b x).1)).1)) l q.head.l 1000 (.run (cY q.body 0 0 [])) [] q.vars.toNat ⟨ab,[],0,false⟩).map fun x=>ss x.2

theorem FZ {l:List Cs}{q:Cs}{ab:Nat}{s:List Ev}(h:HT l q ab=some s):k7 l q.head ab ⟨[],q.vars.toNat,[],bJ q.body 0 0 [],0,[]⟩ s:=by
 unfold HT at h;rw[agr]at h;obtain⟨⟨m,w'⟩,h1,rfl⟩:=h;exact Lr (OZ (D:=Am) ZJ aiD (fun b k r hr=>by cases hr;rfl) l q.head.l _ _ _ _ _ _ _ h1)
end aw

namespace aw
open Go Tm
def ac2 (n:Int):Bool:=decide (-9223372036854775808≤n)&&decide (n<9223372036854775808)

theorem Rz {n:Int}(h:ac2 n=true):jt n:=by
 unfold ac2 at h;simp only[aV,decide_eq_true_eq]at h;unfold jt;omega

mutual
def LV:Tm→Bool
 | .mk k _ n l=>ac2 k&&ac2 n&&RD l
def RD:List Tm→Bool
 |[]=>true
 |x::r=>LV x&&RD r
end

mutual
theorem C6:∀t:Tm,LV t=true→t.Fit
 | .mk k s n l,h=>by
  rw[LV]at h;simp only[aV]at h;exact se.2 ⟨⟨Rz h.1.1,Rz h.1.2⟩,LW l h.2⟩
theorem LW:∀l:List Tm,RD l=true→∀x∈l,x.Fit
 |[],_,x,hx=>by cases hx
 |a::l,h,x,hx=>by
  rw[RD]at h;simp only[aV]at h;cases hx with
  |head=>exact C6 a h.1
  |tail _ hx=>exact LW l h.2 x hx
end

mutual
def ZK:Gl→Bool
 | .mk _ t a b c=>LV t&&vm a&&vm b&&vm c
def vm:List Gl→Bool
 |[]=>true
 |x::r=>ZK x&&vm r
end

mutual
theorem ZL:∀g:Gl,ZK g=true→su D9 g
 | .mk k t a b c,h=>by
  rw[ZK]at h;simp only[aV]at h;rw[su];exact⟨C6 t h.1.1.1,pY a h.1.1.2,pY b h.1.2,pY c h.2⟩
theorem pY:∀l:List Gl,vm l=true→eC D9 l
 |[],_=>by rw[eC];trivial
 |x::r,h=>by
  rw[vm]at h;simp only[aV]at h;rw[eC];exact⟨ZL x h.1,pY r h.2⟩
end
def ZM (c:Cs):Bool:=LV c.head&&vm c.body

theorem C7 {c:Cs}(h:ZM c=true):sA c:=by
 unfold ZM at h;rw[aV]at h;exact⟨C6 _ h.1,pY _ h.2⟩
end aw
