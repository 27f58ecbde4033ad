import Derived.Test.YtmjmngigbachdaaGreatDoorM4
import Derived.Laws.StructEq
import Derived.LoopNIn
set_option maxRecDepth 100000
set_option maxHeartbeats 4000000
namespace Go.Proofs.YtmjmngigbachdaaGreatDoor
open Go ax Go.Proofs
variable{P:List Cs}{r:List Td}{m m':Mo}{x:Td}{V d' v':Nat}{b:Bool}
def ao9:Nat->cI:=λf=>bif Nat.beq f 42 then .still else bif Nat.beq f 19 then .still else bif Nat.beq f 49 then .look 0 else bif Nat.beq f 45 then .look 0 else bif Nat.beq f 4000000004 then .bT 1 else .jz
def ld (P:List Cs)(hd:Tm)(ab:Nat)(m:Mo)(d v:Nat)(z:D):List Ob:=s4 P hd m.aB v z ab m.done m.aF.length d m.B m.ai m.aF
theorem aay(Y:YP)(hd:Tm)(ab:Nat)(Ap:m.now=[]){d v d' v':Nat}(aec:aU Tryz.prog Y 41 [.lo 0 0] (dt P hd ab m d v) (bV b) (dt P hd ab m' d' v')):aU Tryz.prog Y 20 [.lo 0 0] (dt P hd ab m d v) (bV b) (dt P hd ab m' d' v'):=by
 have e:dt P hd ab m d v=ld P hd ab m d v (.v (.pointer none)):=by unfold dt ld;rw[Ap];rfl
 rw[e]at aec ⊢;refine r8 λw S φ hg=>?_
 have hφ:φ.length=6:=hg.kh.len;refine ag ?_;refine LJ hg.ok Tryz.underlying61 rfl rfl rfl (ag ?_);refine mM ?_;refine aj hg.ok hg.cm hg.wide hg.Y [0,1,2,3,4,5] (dt P hd ab m' d' v') aec cN rfl rfl rfl rfl rfl (by rw[<-e,dY,e];rfl) rfl qC (ag ?_);exact He
theorem MN(Y:YP)(hd:Tm)(ab:Nat)(g1:Gl)(s1 o1:Int)(z1:D)(hz:gE r=.bL (aY g1 s1 o1 z1))(hk:x.g.k=0\/x.g.k=3)(hto:x.to<=m.ai.length)(d v:Nat):aU Tryz.prog Y 20 [.lo 0 0] (ld P hd ab m d v (.bL (aY x.g x.sh x.to (.bL (aY g1 s1 o1 z1))))) (bV true) (ld P hd ab {m with ai:=m.ai.take x.to} d (v+1) (.bL (aY g1 s1 o1 z1))):=by
 have yc:(m.ai.map Tr.row).length=m.ai.length:=fQ _;have e:ld P hd ab m d v (.bL (aY g1 s1 o1 z1))=dt P hd ab {m with now:=r} d v:=by rw[<-hz];rfl
 refine r8 λw S φ hg=>?_
 have hφ:φ.length=6:=hg.kh.len;refine ag ?_;refine ui ?_;refine gg ?_;by_cases h0:x.g.k=0;refine cQ hg.ok rfl rfl (by simp [h0]) rfl rfl ?_;refine abF ?_;exact aeQ;have h3:x.g.k=3:=hk.resolve_left h0;refine eG hg.ok rfl rfl (by simp[h0]) rfl rfl ?_;refine cQ hg.ok rfl rfl (by simp[h3]) rfl rfl ?_;refine abF ?_;exact aeQ
theorem MO(Y:YP)(hd:Tm)(ab:Nat)(g1:Gl)(s1 o1:Int)(z1:D)(hz:gE r=.v (.pointer none))(hk:x.g.k=0\/x.g.k=3)(hto:x.to<=m.ai.length)(d v:Nat):aU Tryz.prog Y 20 [.lo 0 0] (ld P hd ab m d v (.bL (aY x.g x.sh x.to (.v (.pointer none))))) (bV true) (ld P hd ab {m with ai:=m.ai.take x.to} d (v+1) (.v (.pointer none))):=by
 have yc:(m.ai.map Tr.row).length=m.ai.length:=fQ _;have e:ld P hd ab m d v (.v (.pointer none))=dt P hd ab {m with now:=r} d v:=by rw[<-hz];rfl
 refine r8 λw S φ hg=>?_
 have hφ:φ.length=6:=hg.kh.len;refine ag ?_;refine ui ?_;refine gg ?_;by_cases h0:x.g.k=0;refine cQ hg.ok rfl rfl (by simp [h0]) rfl rfl ?_;refine abF ?_;exact aeV;have h3:x.g.k=3:=hk.resolve_left h0;refine eG hg.ok rfl rfl (by simp[h0]) rfl rfl ?_;refine cQ hg.ok rfl rfl (by simp[h3]) rfl rfl ?_;refine abF ?_;exact aeV
theorem I4(Y:YP)(hd:Tm)(ab:Nat)(g1:Gl)(s1 o1:Int)(z1:D)(hz:gE r=.bL (aY g1 s1 o1 z1))(k0:x.g.k≠0)(k1:x.g.k≠1)(k2:x.g.k≠2)(k3:x.g.k≠3)(k4:x.g.k≠4)(k5:x.g.k≠5)(d v:Nat):aU Tryz.prog Y 20 [.lo 0 0] (ld P hd ab m d v (.bL (aY x.g x.sh x.to (.bL (aY g1 s1 o1 z1))))) (bV true) (ld P hd ab m d v (.bL (aY g1 s1 o1 z1))):=by
 have yc:(m.ai.map Tr.row).length=m.ai.length:=fQ _;have e:ld P hd ab m d v (.bL (aY g1 s1 o1 z1))=dt P hd ab {m with now:=r} d v:=by rw[<-hz];rfl
 refine r8 λw S φ hg=>?_
 have hφ:φ.length=6:=hg.kh.len;refine ag ?_;refine ui ?_;refine gg ?_;refine eG hg.ok rfl rfl (by simp[k0]) rfl rfl ?_;refine eG hg.ok rfl rfl (by simp[k3]) rfl rfl ?_;refine eG hg.ok rfl rfl (by simp[k2]) rfl rfl ?_;refine eG hg.ok rfl rfl (by simp[k4]) rfl rfl ?_;refine eG hg.ok rfl rfl (by simp[k5]) rfl rfl ?_;refine eG hg.ok rfl rfl (by simp[k1]) rfl rfl ?_;exact aL hg 6 5 cZ rfl rfl (iB P hd _ _ _ (.inl ⟨_,_,_,_,rfl⟩) ab m.done m.aF.length d m.B m.ai m.aF _)
theorem I5(Y:YP)(hd:Tm)(ab:Nat)(g1:Gl)(s1 o1:Int)(z1:D)(hz:gE r=.v (.pointer none))(k0:x.g.k≠0)(k1:x.g.k≠1)(k2:x.g.k≠2)(k3:x.g.k≠3)(k4:x.g.k≠4)(k5:x.g.k≠5)(d v:Nat):aU Tryz.prog Y 20 [.lo 0 0] (ld P hd ab m d v (.bL (aY x.g x.sh x.to (.v (.pointer none))))) (bV true) (ld P hd ab m d v (.v (.pointer none))):=by
 have yc:(m.ai.map Tr.row).length=m.ai.length:=fQ _;have e:ld P hd ab m d v (.v (.pointer none))=dt P hd ab {m with now:=r} d v:=by rw[<-hz];rfl
 refine r8 λw S φ hg=>?_
 have hφ:φ.length=6:=hg.kh.len;refine ag ?_;refine ui ?_;refine gg ?_;refine eG hg.ok rfl rfl (by simp[k0]) rfl rfl ?_;refine eG hg.ok rfl rfl (by simp[k3]) rfl rfl ?_;refine eG hg.ok rfl rfl (by simp[k2]) rfl rfl ?_;refine eG hg.ok rfl rfl (by simp[k4]) rfl rfl ?_;refine eG hg.ok rfl rfl (by simp[k5]) rfl rfl ?_;refine eG hg.ok rfl rfl (by simp[k1]) rfl rfl ?_;exact aL hg 6 5 cZ rfl rfl (iB P hd _ _ _ (.inr rfl) ab m.done m.aF.length d m.B m.ai m.aF _)
theorem I6(Y:YP)(hd:Tm)(ab:Nat)(g1:Gl)(s1 o1:Int)(z1:D)(hz:gE r=.bL (aY g1 s1 o1 z1))(hk:x.g.k=2)(gt:GT x.g.t)(ho:∀u∈Tm.cF x.g.t,0<=u/\u<V)(hV:x.sh+V<=110000)(d v:Nat)(Hg:aU Tryz.prog Y 43 [.lo 0 0,(dw x.sh x.g.t).av] (dt P hd ab {m with now:=r} d v) (bV b) (dt P hd ab m' d' v')):aU Tryz.prog Y 20 [.lo 0 0] (ld P hd ab m d v (.bL (aY x.g x.sh x.to (.bL (aY g1 s1 o1 z1))))) (bV b) (dt P hd ab m' d' v'):=by
 have yc:(m.ai.map Tr.row).length=m.ai.length:=fQ _;have e:ld P hd ab m d v (.bL (aY g1 s1 o1 z1))=dt P hd ab {m with now:=r} d v:=by rw[<-hz];rfl
 refine r8 λw S φ hg=>?_
 have hφ:φ.length=6:=hg.kh.len;refine ag ?_;refine ui ?_;refine gg ?_;refine mN ?_;refine mN ?_;refine Aa ?_;have eI:=mf x.g.t (x.sh:Int) gt.iI.1 (gt.iR 1);rw[mm gt ho hV]at eI;generalize dw x.sh x.g.t=u at eI Hg;refine aA (eI) ?_;refine aeA ?_;exact He
theorem I7(Y:YP)(hd:Tm)(ab:Nat)(g1:Gl)(s1 o1:Int)(z1:D)(hz:gE r=.v (.pointer none))(hk:x.g.k=2)(gt:GT x.g.t)(ho:∀u∈Tm.cF x.g.t,0<=u/\u<V)(hV:x.sh+V<=110000)(d v:Nat)(Hg:aU Tryz.prog Y 43 [.lo 0 0,(dw x.sh x.g.t).av] (dt P hd ab {m with now:=r} d v) (bV b) (dt P hd ab m' d' v')):aU Tryz.prog Y 20 [.lo 0 0] (ld P hd ab m d v (.bL (aY x.g x.sh x.to (.v (.pointer none))))) (bV b) (dt P hd ab m' d' v'):=by
 have yc:(m.ai.map Tr.row).length=m.ai.length:=fQ _;have e:ld P hd ab m d v (.v (.pointer none))=dt P hd ab {m with now:=r} d v:=by rw[<-hz];rfl
 refine r8 λw S φ hg=>?_
 have hφ:φ.length=6:=hg.kh.len;refine ag ?_;refine ui ?_;refine gg ?_;refine mN ?_;refine mN ?_;refine Aa ?_;have eI:=mf x.g.t (x.sh:Int) gt.iI.1 (gt.iR 1);rw[mm gt ho hV]at eI;generalize dw x.sh x.g.t=u at eI Hg;refine aA (eI) ?_;refine aeA ?_;exact He
theorem PQ(Y:YP)(hd:Tm)(ab:Nat)(g1:Gl)(s1 o1:Int)(z1:D)(hz:gE r=.bL (aY g1 s1 o1 z1))(hk:x.g.k=4)(hT:m.ai.length<=1000000)(AO:x.g.a.length<=1000000)(hxb:x.g.b.length<=1000000)(hxc:x.g.c.length<=1000000)(d v:Nat):aU Tryz.prog Y 20 [.lo 0 0] (ld P hd ab m d v (.bL (aY x.g x.sh x.to (.bL (aY g1 s1 o1 z1))))) (bV true) (ie P hd ab {m with now:=r} x (bR x.g.c x.sh x.to r) (bR x.g.b x.sh x.to r) d v):=by
 have yc:(m.ai.map Tr.row).length=m.ai.length:=fQ _;have e:ld P hd ab m d v (.bL (aY g1 s1 o1 z1))=dt P hd ab {m with now:=r} d v:=by rw[<-hz];rfl
 refine r8 λw S φ hg=>?_
 have hφ:φ.length=6:=hg.kh.len;refine ag ?_;refine ui ?_;refine gg ?_;refine mN ?_;refine mN ?_;refine mN ?_;refine Aa ?_;have hpc:=lH x.g.c x.sh x.to r hxc;have hpb:=lH x.g.b x.sh x.to r hxb;rw[hz]at hpc hpb;have Tl:=uf Y P hd ab (m:={m with now:=r}) hT d v x AO (.bL (aY g1 s1 o1 z1)) (bR x.g.c x.sh x.to r) (bR x.g.b x.sh x.to r);rcases il (bR x.g.c x.sh x.to r)with ⟨c1,c2,c3,c4,hc⟩|hc<;>rcases il (bR x.g.b x.sh x.to r)with ⟨b1,b2,b3,b4,hb⟩|hb
 all_goals
  rw[hc]at hpc Tl;rw[hb]at hpb Tl;refine aA (hpc) ?_;refine aA (hpb) ?_;refine akY ?_;exact QC
theorem PR(Y:YP)(hd:Tm)(ab:Nat)(g1:Gl)(s1 o1:Int)(z1:D)(hz:gE r=.v (.pointer none))(hk:x.g.k=4)(hT:m.ai.length<=1000000)(AO:x.g.a.length<=1000000)(hxb:x.g.b.length<=1000000)(hxc:x.g.c.length<=1000000)(d v:Nat):aU Tryz.prog Y 20 [.lo 0 0] (ld P hd ab m d v (.bL (aY x.g x.sh x.to (.v (.pointer none))))) (bV true) (ie P hd ab {m with now:=r} x (bR x.g.c x.sh x.to r) (bR x.g.b x.sh x.to r) d v):=by
 have yc:(m.ai.map Tr.row).length=m.ai.length:=fQ _;have e:ld P hd ab m d v (.v (.pointer none))=dt P hd ab {m with now:=r} d v:=by rw[<-hz];rfl
 refine r8 λw S φ hg=>?_
 have hφ:φ.length=6:=hg.kh.len;refine ag ?_;refine ui ?_;refine gg ?_;refine mN ?_;refine mN ?_;refine mN ?_;refine Aa ?_;have hpc:=lH x.g.c x.sh x.to r hxc;have hpb:=lH x.g.b x.sh x.to r hxb;rw[hz]at hpc hpb;have Tl:=uf Y P hd ab (m:={m with now:=r}) hT d v x AO (.v (.pointer none)) (bR x.g.c x.sh x.to r) (bR x.g.b x.sh x.to r);rcases il (bR x.g.c x.sh x.to r)with ⟨c1,c2,c3,c4,hc⟩|hc<;>rcases il (bR x.g.b x.sh x.to r)with ⟨b1,b2,b3,b4,hb⟩|hb
 all_goals
  rw[hc]at hpc Tl;rw[hb]at hpb Tl;refine aA (hpc) ?_;refine aA (hpb) ?_;refine akY ?_;exact QC
theorem MP(Y:YP)(hd:Tm)(ab:Nat)(g1:Gl)(s1 o1:Int)(z1:D)(hz:gE r=.bL (aY g1 s1 o1 z1))(hk:x.g.k=5)(hT:m.ai.length<=1000000)(AO:x.g.a.length<=1000000)(d v:Nat):aU Tryz.prog Y 20 [.lo 0 0] (ld P hd ab m d v (.bL (aY x.g x.sh x.to (.bL (aY g1 s1 o1 z1))))) (bV true) (ie P hd ab {m with now:=r} x r (bR [dE] 0 0 []) d v):=by
 have yc:(m.ai.map Tr.row).length=m.ai.length:=fQ _;have e:ld P hd ab m d v (.bL (aY g1 s1 o1 z1))=dt P hd ab {m with now:=r} d v:=by rw[<-hz];rfl
 refine r8 λw S φ hg=>?_
 have hφ:φ.length=6:=hg.kh.len;refine ag ?_;refine ui ?_;refine gg ?_;refine mN ?_;refine mN ?_;refine mN ?_;refine mN ?_;refine Aa ?_;have hpf:=lH [dE] 0 0 [] aD;have Tl:=uf Y P hd ab (m:={m with now:=r}) hT d v x AO (.bL (aY g1 s1 o1 z1)) (r) (bR [dE] 0 0 []);rw[hz]at Tl;refine aeU ?_;rw[show gE []=.v (.pointer none)from rfl,show gE (bR [dE] 0 0 [])=.bL (aY dE 0 0 (.v (.pointer none)))from rfl]at hpf;rw[show gE (bR [dE] 0 0 [])=.bL (aY dE 0 0 (.v (.pointer none)))from rfl]at Tl;refine aA (hpf) ?_;refine ak0 ?_;exact QC
theorem MQ(Y:YP)(hd:Tm)(ab:Nat)(g1:Gl)(s1 o1:Int)(z1:D)(hz:gE r=.v (.pointer none))(hk:x.g.k=5)(hT:m.ai.length<=1000000)(AO:x.g.a.length<=1000000)(d v:Nat):aU Tryz.prog Y 20 [.lo 0 0] (ld P hd ab m d v (.bL (aY x.g x.sh x.to (.v (.pointer none))))) (bV true) (ie P hd ab {m with now:=r} x r (bR [dE] 0 0 []) d v):=by
 have yc:(m.ai.map Tr.row).length=m.ai.length:=fQ _;have e:ld P hd ab m d v (.v (.pointer none))=dt P hd ab {m with now:=r} d v:=by rw[<-hz];rfl
 refine r8 λw S φ hg=>?_
 have hφ:φ.length=6:=hg.kh.len;refine ag ?_;refine ui ?_;refine gg ?_;refine mN ?_;refine mN ?_;refine mN ?_;refine mN ?_;refine Aa ?_;have hpf:=lH [dE] 0 0 [] aD;have Tl:=uf Y P hd ab (m:={m with now:=r}) hT d v x AO (.v (.pointer none)) (r) (bR [dE] 0 0 []);rw[hz]at Tl;refine aeU ?_;rw[show gE []=.v (.pointer none)from rfl,show gE (bR [dE] 0 0 [])=.bL (aY dE 0 0 (.v (.pointer none)))from rfl]at hpf;rw[show gE (bR [dE] 0 0 [])=.bL (aY dE 0 0 (.v (.pointer none)))from rfl]at Tl;refine aA (hpf) ?_;refine ak0 ?_;exact QC
theorem I8(Y:YP)(hd:Tm)(ab:Nat)(g1:Gl)(s1 o1:Int)(z1:D)(hz:gE r=.bL (aY g1 s1 o1 z1))(hk:x.g.k=1)(hdn:ab<=m.done)(hS:m.aF.length<1000000000000)(d v:Nat):aU Tryz.prog Y 20 [.lo 0 0] (ld P hd ab m d v (.bL (aY x.g x.sh x.to (.bL (aY g1 s1 o1 z1))))) (bV false) (dt P hd ab {m with now:=r,aF:=m.aF++[oY]} d v):=by
 have yc:(m.ai.map Tr.row).length=m.ai.length:=fQ _;have e:ld P hd ab m d v (.bL (aY g1 s1 o1 z1))=dt P hd ab {m with now:=r} d v:=by rw[<-hz];rfl
 refine r8 λw S φ hg=>?_
 have hφ:φ.length=6:=hg.kh.len;refine ag ?_;refine ui ?_;refine gg ?_;refine mN ?_;refine mN ?_;refine mN ?_;refine mN ?_;refine mN ?_;refine Aa ?_;refine mL6 ?_;refine cQ hg.ok rfl rfl Eu rfl rfl ?_;refine hH 127 rfl (ue 5 0 ByteArray.empty) ?_;refine akX ?_;exact ae9
theorem I9(Y:YP)(hd:Tm)(ab:Nat)(g1:Gl)(s1 o1:Int)(z1:D)(hz:gE r=.v (.pointer none))(hk:x.g.k=1)(hdn:ab<=m.done)(hS:m.aF.length<1000000000000)(d v:Nat):aU Tryz.prog Y 20 [.lo 0 0] (ld P hd ab m d v (.bL (aY x.g x.sh x.to (.v (.pointer none))))) (bV false) (dt P hd ab {m with now:=r,aF:=m.aF++[oY]} d v):=by
 have yc:(m.ai.map Tr.row).length=m.ai.length:=fQ _;have e:ld P hd ab m d v (.v (.pointer none))=dt P hd ab {m with now:=r} d v:=by rw[<-hz];rfl
 refine r8 λw S φ hg=>?_
 have hφ:φ.length=6:=hg.kh.len;refine ag ?_;refine ui ?_;refine gg ?_;refine mN ?_;refine mN ?_;refine mN ?_;refine mN ?_;refine mN ?_;refine Aa ?_;refine mL6 ?_;refine cQ hg.ok rfl rfl Eu rfl rfl ?_;refine hH 127 rfl (ue 5 0 ByteArray.empty) ?_;refine akX ?_;exact ae9
theorem MR(Y:YP)(hd:Tm)(ab:Nat)(g1:Gl)(s1 o1:Int)(z1:D)(hz:gE r=.bL (aY g1 s1 o1 z1))(hk:x.g.k=1)(gt:GT x.g.t)(ho:∀u∈Tm.cF x.g.t,0<=u/\u<V)(hV:x.sh+V<=110000)(hdn:¬ ab<=m.done)(RO:m.done<100000000)(d v:Nat)(dK:aU Tryz.prog Y 48 [.lo 0 0,.agg (ya ⟨m.B.length,m.aB,dw x.sh x.g.t,0,r,false⟩ (.bL (aY g1 s1 o1 z1)))] (dt P hd ab {m with now:=r,done:=m.done+1} d v) (bV true) (dt P hd ab m' d' v')):aU Tryz.prog Y 20 [.lo 0 0] (ld P hd ab m d v (.bL (aY x.g x.sh x.to (.bL (aY g1 s1 o1 z1))))) (bV true) (dt P hd ab m' d' v'):=by
 have yc:(m.ai.map Tr.row).length=m.ai.length:=fQ _;have e:ld P hd ab m d v (.bL (aY g1 s1 o1 z1))=dt P hd ab {m with now:=r} d v:=by rw[<-hz];rfl
 refine r8 λw S φ hg=>?_
 have hφ:φ.length=6:=hg.kh.len;refine ag ?_;refine ui ?_;refine gg ?_;refine mN ?_;refine mN ?_;refine mN ?_;refine mN ?_;refine mN ?_;refine Aa ?_;refine mL6 ?_;refine JT ?_;have e2:ld P hd ab {m with done:=m.done+1} d v (.bL (aY g1 s1 o1 z1))=dt P hd ab {m with now:=r,done:=m.done+1} d v:=by rw[<-hz];rfl
 refine akQ ?_;have eI:=mf x.g.t (x.sh:Int) gt.iI.1 (gt.iR 1);rw[mm gt ho hV]at eI;generalize dw x.sh x.g.t=u at eI dK;refine aA (eI) ?_;refine JJ ?_;refine aey ?_;refine r7 ?_;exact He
theorem MS(Y:YP)(hd:Tm)(ab:Nat)(g1:Gl)(s1 o1:Int)(z1:D)(hz:gE r=.v (.pointer none))(hk:x.g.k=1)(gt:GT x.g.t)(ho:∀u∈Tm.cF x.g.t,0<=u/\u<V)(hV:x.sh+V<=110000)(hdn:¬ ab<=m.done)(RO:m.done<100000000)(d v:Nat)(dK:aU Tryz.prog Y 48 [.lo 0 0,.agg (ya ⟨m.B.length,m.aB,dw x.sh x.g.t,0,r,false⟩ (.v (.pointer none)))] (dt P hd ab {m with now:=r,done:=m.done+1} d v) (bV true) (dt P hd ab m' d' v')):aU Tryz.prog Y 20 [.lo 0 0] (ld P hd ab m d v (.bL (aY x.g x.sh x.to (.v (.pointer none))))) (bV true) (dt P hd ab m' d' v'):=by
 have yc:(m.ai.map Tr.row).length=m.ai.length:=fQ _;have e:ld P hd ab m d v (.v (.pointer none))=dt P hd ab {m with now:=r} d v:=by rw[<-hz];rfl
 refine r8 λw S φ hg=>?_
 have hφ:φ.length=6:=hg.kh.len;refine ag ?_;refine ui ?_;refine gg ?_;refine mN ?_;refine mN ?_;refine mN ?_;refine mN ?_;refine mN ?_;refine Aa ?_;refine mL6 ?_;refine JT ?_;have e2:ld P hd ab {m with done:=m.done+1} d v (.v (.pointer none))=dt P hd ab {m with now:=r,done:=m.done+1} d v:=by rw[<-hz];rfl
 refine akR ?_;have eI:=mf x.g.t (x.sh:Int) gt.iI.1 (gt.iR 1);rw[mm gt ho hV]at eI;generalize dw x.sh x.g.t=u at eI dK;refine aA (eI) ?_;refine JJ ?_;refine aey ?_;refine r7 ?_;exact He
theorem Ja(Y:YP)(hd:Tm)(ab:Nat)(g1:Gl)(s1 o1:Int)(z1:D)(hz:gE r=.bL (aY g1 s1 o1 z1))(hk:x.g.k=1)(gt:GT x.g.t)(ho:∀u∈Tm.cF x.g.t,0<=u/\u<V)(hV:x.sh+V<=110000)(hdn:¬ ab<=m.done)(RO:m.done<100000000)(d v:Nat){d2:Nat}(dK:aU Tryz.prog Y 48 [.lo 0 0,.agg (ya ⟨m.B.length,m.aB,dw x.sh x.g.t,0,r,false⟩ (.bL (aY g1 s1 o1 z1)))] (dt P hd ab {m with now:=r,done:=m.done+1} d v) (bV false) (dt P hd ab {m with now:=r,done:=m.done+1} d2 v))(VZ:aU Tryz.prog Y 50 [.lo 0 0] (dt P hd ab {m with now:=r,done:=m.done+1} d2 v) (bV b) (dt P hd ab m' d' v')):aU Tryz.prog Y 20 [.lo 0 0] (ld P hd ab m d v (.bL (aY x.g x.sh x.to (.bL (aY g1 s1 o1 z1))))) (bV b) (dt P hd ab m' d' v'):=by
 have yc:(m.ai.map Tr.row).length=m.ai.length:=fQ _;have e:ld P hd ab m d v (.bL (aY g1 s1 o1 z1))=dt P hd ab {m with now:=r} d v:=by rw[<-hz];rfl
 refine r8 λw S φ hg=>?_
 have hφ:φ.length=6:=hg.kh.len;refine ag ?_;refine ui ?_;refine gg ?_;refine mN ?_;refine mN ?_;refine mN ?_;refine mN ?_;refine mN ?_;refine Aa ?_;refine mL6 ?_;refine JT ?_;have e2:ld P hd ab {m with done:=m.done+1} d v (.bL (aY g1 s1 o1 z1))=dt P hd ab {m with now:=r,done:=m.done+1} d v:=by rw[<-hz];rfl
 refine akQ ?_;have eI:=mf x.g.t (x.sh:Int) gt.iI.1 (gt.iR 1);rw[mm gt ho hV]at eI;generalize dw x.sh x.g.t=u at eI dK;refine aA (eI) ?_;refine JJ ?_;refine ak6 ?_;refine r7 ?_;refine aeD ?_;exact He
theorem Jc(Y:YP)(hd:Tm)(ab:Nat)(g1:Gl)(s1 o1:Int)(z1:D)(hz:gE r=.v (.pointer none))(hk:x.g.k=1)(gt:GT x.g.t)(ho:∀u∈Tm.cF x.g.t,0<=u/\u<V)(hV:x.sh+V<=110000)(hdn:¬ ab<=m.done)(RO:m.done<100000000)(d v:Nat){d2:Nat}(dK:aU Tryz.prog Y 48 [.lo 0 0,.agg (ya ⟨m.B.length,m.aB,dw x.sh x.g.t,0,r,false⟩ (.v (.pointer none)))] (dt P hd ab {m with now:=r,done:=m.done+1} d v) (bV false) (dt P hd ab {m with now:=r,done:=m.done+1} d2 v))(VZ:aU Tryz.prog Y 50 [.lo 0 0] (dt P hd ab {m with now:=r,done:=m.done+1} d2 v) (bV b) (dt P hd ab m' d' v')):aU Tryz.prog Y 20 [.lo 0 0] (ld P hd ab m d v (.bL (aY x.g x.sh x.to (.v (.pointer none))))) (bV b) (dt P hd ab m' d' v'):=by
 have yc:(m.ai.map Tr.row).length=m.ai.length:=fQ _;have e:ld P hd ab m d v (.v (.pointer none))=dt P hd ab {m with now:=r} d v:=by rw[<-hz];rfl
 refine r8 λw S φ hg=>?_
 have hφ:φ.length=6:=hg.kh.len;refine ag ?_;refine ui ?_;refine gg ?_;refine mN ?_;refine mN ?_;refine mN ?_;refine mN ?_;refine mN ?_;refine Aa ?_;refine mL6 ?_;refine JT ?_;have e2:ld P hd ab {m with done:=m.done+1} d v (.v (.pointer none))=dt P hd ab {m with now:=r,done:=m.done+1} d v:=by rw[<-hz];rfl
 refine akR ?_;have eI:=mf x.g.t (x.sh:Int) gt.iI.1 (gt.iR 1);rw[mm gt ho hV]at eI;generalize dw x.sh x.g.t=u at eI dK;refine aA (eI) ?_;refine JJ ?_;refine ak6 ?_;refine r7 ?_;refine aeD ?_;exact He
end Go.Proofs.YtmjmngigbachdaaGreatDoor

namespace Go.Proofs.YtmjmngigbachdaaGreatDoor
open Go ax Go.Proofs
theorem aaz (x:Td)(r:List Td):gE (x::r)=.bL (aY x.g x.sh x.to (gE r)):=by rw[gE];cases x;rename_i g _ _;cases g;rfl
theorem xR {Q:D->Prop}(r:List Td)(hP:∀g s o z,gE r=.bL (aY g s o z)->Q (.bL (aY g s o z)))(hN:gE r=.v (.pointer none)->Q (.v (.pointer none))):Q (gE r):=by
 rcases il r with ⟨g,s,o,z,h⟩|h
 rw[h];exact hP g s o z h;rw[h];exact hN h
structure HdG (hd:Tm):Prop where
 gt:∀x∈hd.l,GT x/\∀u∈Tm.cF x,u∈uD
 len:hd.l.length<=8
theorem VG (Y:YP){P:List Cs}(hP:rW P)(hd:Tm)(ab:Nat){m:Mo}(hs:eF uD m.B){t:Tr}(hf:m.aB=t.aB){done k0:Nat}(ht:Nv P.length ab done k0 t)(ho:t.other=false)(hT:m.ai.length<=1000000){res:Option (Nat×Cs×an)}{d d':Nat}(v:Nat)(hD:xQ m.B m.aB t.call t.pC d (P.drop t.pC) res d'):aU Tryz.prog Y 48 [.lo 0 0,.agg (ya t (gE t.uC))] (dt P hd ab m d v) (bV res.isSome) (o4 P hd ab m t d' v res) :=
 xR (Q:=λz=>aU Tryz.prog Y 48 [.lo 0 0,.agg (ya t z)] (dt P hd ab m d v) (bV res.isSome) (o4 P hd ab m t d' v res)) t.uC
  (λg s o z h=>vX Y hP hd ab hs hf ht ho hT v g s o z h hD)
  (λh=>vY Y hP hd ab hs hf ht ho hT v aN 0 0 (.v (.pointer none)) h hD)
theorem aaA (Y:YP){P:List Cs}(hP:rW P){hd:Tm}(hh:HdG hd)(ab:Nat){m:Mo}(hm:MI P.length ab m)(C5:ab<=1000)(hS:m.aF.length+1<1000000000000)(d v:Nat) :
  ∃d' v',aU Tryz.prog Y 20 [.lo 0 0] (dt P hd ab m d v) (bV (fq P hd ab m).2) (dt P hd ab (fq P hd ab m).1 d' v'):=by
 have Vv:m.ai.length<=1000000:=by have:=hm.p2;omega
 cases Ap:m.now with
 |nil=>
  have cY:fq P hd ab m=jx P hd m:=by unfold fq;rw[Ap]
  rw[cY]
  have hA:∃d' v',aea P hd m d v (jx P hd m).2 (jx P hd m).1 d' v':=by
   unfold jx;cases he:pz m.B hd.l with
   |true=>rw[if_pos (show(hd.l.any λx=>decide ((eL m.B x).2≠0))=true from he)];exact⟨_,_,.bad he⟩
   |false=>rw[if_neg (show ¬ (hd.l.any λx=>decide ((eL m.B x).2≠0))=true from by rw[show(hd.l.any λx=>decide ((eL m.B x).2≠0))=false from he];simp)];obtain⟨d',v',h⟩:=I1 hP (m:={m with aF:=m.aF++[oc (dP (bS m.B hd.l)).1]}) d v ⟨hm.s0,hm.tr⟩;exact⟨d',v',.ok he h⟩
  obtain⟨d',v',h⟩:=hA;exact⟨d',v',aay Y hd ab Ap (VF Y hP hh.gt hh.len ab hm.b Vv hS h)⟩
 |cons x r=>
  have yb:dt P hd ab m d v=ld P hd ab m d v (.bL (aY x.g x.sh x.to (gE r))):=by unfold dt ld;rw[Ap,aaz]
  rw[yb];have hn:=hm.now;have p1:=hm.p1;rw[Ap]at hn p1;rw[xP,PO]at p1;obtain⟨⟨V,hV,hg⟩,hto⟩:=hn.all x aD;have hgl:=ik.1 hg;have hF:=hgl.1;obtain⟨B,f,T,nw,dn,sn⟩:=m;simp only at Ap;subst Ap;by_cases c1:x.g.k=0\/x.g.k=3;rw [GR c1]
  exact ⟨d,v+1,xR (Q:=λz=>aU Tryz.prog Y 20 [.lo 0 0] (ld P hd ab ⟨B,f,T,x::r,dn,sn⟩ d v (.bL (aY x.g x.sh x.to z))) (bV true) (ld P hd ab ⟨B,f,T.take x.to,x::r,dn,sn⟩ d (v+1) z)) r
   (λg s o z h=>MN Y hd ab g s o z h c1 hto d v) (λh=>MO Y hd ab aN 0 0 (.v (.pointer none)) h c1 hto d v)⟩
  have k0:x.g.k≠0:=λe=>c1 (.inl e)
  have k3:x.g.k≠3:=λe=>c1 (.inr e)
  by_cases c2:x.g.k=2;rw [rj c2];obtain⟨gt,hk⟩:=hF.t (.inr c2);rw[if_pos (.inl c2)]at p1;have hVF:x.sh+V<=110000:=by show _<=_;have:x.sh+V<=f:=hV;have:f+8*_+_<=110000:=p1;omega
  obtain⟨g1,g2⟩:=DJ gt (hF.o (.inr c2)) hV (by have:f+8*_+_<=110000:=p1;show f<=_;omega);have hku:(dw x.sh x.g.t).k=3:=by unfold dw;rw[qp];exact hk
  have hJ:ku ((dw x.sh x.g.t).s,((dw x.sh x.g.t).l.length:Int))=true:=by
   have h:=hF.b c2;unfold dw;rw[qp];show ku (x.g.t.s,((Tm.dp _ x.g.t.l).length:Int))=true
   rw[Tm.j5,fQ];exact h
  have hl:∀y∈(dw x.sh x.g.t).l,GT y/\∀u∈Tm.cF y,u∈uD:=λy hy=>by obtain⟨a1,a2⟩:=IY g1 hku g2 hy;exact⟨a1,DK (by have:f+8*_+_<=110000:=p1;show f<=_;omega) a2⟩
  have hf8:f<=110000-8:=by have:f+8*_+_<=110000:=p1;omega
  obtain⟨d',v',hD⟩:=ajD hP (m:=⟨B,f,T,r,dn,sn⟩) d v (t:=dw x.sh x.g.t) (ab:=ab) ⟨hm.s0,hm.tr⟩ hl hf8;have Hg:=aax Y hP hd ab g1 hku hJ hl (m:=⟨B,f,T,r,dn,sn⟩) ⟨hm.s0,hm.tr⟩ hf8 Vv hS hD
  exact ⟨d',v',xR (Q:=λz=>aU Tryz.prog Y 20 [.lo 0 0] (ld P hd ab ⟨B,f,T,x::r,dn,sn⟩ d v (.bL (aY x.g x.sh x.to z))) (bV (oU P ⟨B,f,T,r,dn,sn⟩ (dw x.sh x.g.t)).2) (dt P hd ab (oU P ⟨B,f,T,r,dn,sn⟩ (dw x.sh x.g.t)).1 d' v')) r
   (λg s o z h=>I6 Y hd ab g s o z h c2 gt (hF.o (.inr c2)) hVF d v Hg) (λh=>I7 Y hd ab aN 0 0 (.v (.pointer none)) h c2 gt (hF.o (.inr c2)) hVF d v Hg)⟩
  have hla:=hF.len.1;have hlb:=hF.len.2.1;have hlc:=hF.len.2.2;by_cases c4:x.g.k=4;rw [xL c4]
  exact ⟨d,v+1,xR (Q:=λz=>aU Tryz.prog Y 20 [.lo 0 0] (ld P hd ab ⟨B,f,T,x::r,dn,sn⟩ d v (.bL (aY x.g x.sh x.to z))) (bV true) (ie P hd ab ⟨B,f,T,r,dn,sn⟩ x (bR x.g.c x.sh x.to r) (bR x.g.b x.sh x.to r) d v)) r
   (λg s o z h=>PQ Y hd ab g s o z h c4 Vv aq aq aq d v) (λh=>PR Y hd ab aN 0 0 (.v (.pointer none)) h c4 Vv aq aq aq d v)⟩
  by_cases c5:x.g.k=5;rw [y0 c5]
  exact ⟨d,v+1,xR (Q:=λz=>aU Tryz.prog Y 20 [.lo 0 0] (ld P hd ab ⟨B,f,T,x::r,dn,sn⟩ d v (.bL (aY x.g x.sh x.to z))) (bV true) (ie P hd ab ⟨B,f,T,r,dn,sn⟩ x r (bR [dE] 0 0 []) d v)) r
   (λg s o z h=>MP Y hd ab g s o z h c5 Vv aq d v) (λh=>MQ Y hd ab aN 0 0 (.v (.pointer none)) h c5 Vv aq d v)⟩
  by_cases c6:x.g.k=1;by_cases c7:ab<=dn;rw [DD c6 c7]
  exact ⟨d,v,xR (Q:=λz=>aU Tryz.prog Y 20 [.lo 0 0] (ld P hd ab ⟨B,f,T,x::r,dn,sn⟩ d v (.bL (aY x.g x.sh x.to z))) (bV false) (dt P hd ab ⟨B,f,T,r,dn,sn++[oY]⟩ d v)) r
   (λg s o z h=>I8 Y hd ab g s o z h c6 c7 (by show sn.length<_;have:sn.length+1<_:=hS;omega) d v) (λh=>I9 Y hd ab aN 0 0 (.v (.pointer none)) h c6 c7 (by show sn.length<_;have:sn.length+1<_:=hS;omega) d v)⟩
  rw [DE c6 c7];rw[sZ _ (m1:=⟨B,f,T,[],dn+1,sn⟩) (m2:=⟨B,f,T,r,dn+1,sn⟩) rfl rfl rfl rfl rfl];obtain⟨gt,hk⟩:=hF.t (.inl c6);have p1':f+8*((if x.g.k=2\/x.g.k=5 then 1 else 0)+uE x.g.a+uE x.g.b+uE x.g.c+zV r)+(ab-dn)*1160<=110000:=p1;have p2':T.length+nc (x::r)+(ab-dn)*90<=1000000:=hm.p2;rw[ub]at p2'
  have e3:(ab-dn)*1160=(ab-(dn+1))*1160+1160:=by
   have:ab-dn=(ab-(dn+1))+1:=by omega
   rw[this,Nat.add_mul]
  have e4:(ab-dn)*90=(ab-(dn+1))*90+90:=by
   have:ab-dn=(ab-(dn+1))+1:=by omega
   rw[this,Nat.add_mul]
  have hV':x.sh+V<=f:=hV;have hVF:x.sh+V<=110000:=by omega
  obtain⟨g1,g2⟩:=DJ gt (hF.o (.inl c6)) hV' aq;have hpw:=k8.1 hn.pw
  have ht:Nv P.length ab (dn+1) T.length ⟨B.length,f,dw x.sh x.g.t,0,r,false⟩:=by
   refine⟨⟨λy hy=>hn.all y iS,hpw.2⟩,?_,?_,bU _,λ_=>⟨g1,g2⟩⟩;show f+8*zV r+1160+(ab-(dn+1))*1160<=110000
   omega;show T.length+nc r+90+(ab-(dn+1))*90<=1000000
   omega
  obtain⟨res,d2,h1,h2⟩:=A7 hP (m:=⟨B,f,T,r,dn+1,sn⟩) (t:=⟨B.length,f,dw x.sh x.g.t,0,r,false⟩) hm.s0 rfl ht rfl P 0 d rfl;rw[h2];have dK:=VG Y hP hd ab (m:=⟨B,f,T,r,dn+1,sn⟩) (t:=⟨B.length,f,dw x.sh x.g.t,0,r,false⟩) hm.s0 rfl ht rfl Vv v h1;have RO:dn<100000000:=by omega
  cases res with
  |some y=>
   obtain⟨i,c,B'⟩:=y
   exact ⟨d2,v+1,xR (Q:=λz=>aU Tryz.prog Y 20 [.lo 0 0] (ld P hd ab ⟨B,f,T,x::r,dn,sn⟩ d v (.bL (aY x.g x.sh x.to z))) (bV true) (dt P hd ab (NG ⟨B,f,T,r,dn+1,sn⟩ ⟨B.length,f,dw x.sh x.g.t,0,r,false⟩ i c B') d2 (v+1))) r
    (λg s o z h=>MR Y hd ab g s o z h c6 gt (hF.o (.inl c6)) hVF c7 RO d v QR) (λh=>MS Y hd ab aN 0 0 (.v (.pointer none)) h c6 gt (hF.o (.inl c6)) hVF c7 RO d v QR)⟩
  |none=>
   have Sf:BI P.length ab ⟨B,f,T,r,dn+1,sn⟩:=⟨hm.s0,hm.tr.done (by show dn<=dn+1;omega)⟩;obtain⟨d',v',VZ⟩:=I1 hP d2 v Sf;have FL:=I3 Y hP hd ab Sf Vv (by show sn.length<_;have:sn.length+1<_:=hS;omega) VZ
   exact ⟨d',v',xR (Q:=λz=>aU Tryz.prog Y 20 [.lo 0 0] (ld P hd ab ⟨B,f,T,x::r,dn,sn⟩ d v (.bL (aY x.g x.sh x.to z))) (bV (ew P ⟨B,f,T,r,dn+1,sn⟩).2) (dt P hd ab (ew P ⟨B,f,T,r,dn+1,sn⟩).1 d' v')) r
    (λg s o z h=>Ja Y hd ab g s o z h c6 gt (hF.o (.inl c6)) hVF c7 RO d v QR FL) (λh=>Jc Y hd ab aN 0 0 (.v (.pointer none)) h c6 gt (hF.o (.inl c6)) hVF c7 RO d v QR FL)⟩
  rw [DG k0 c6 c2 k3 c4 c5]
  exact ⟨d,v,xR (Q:=λz=>aU Tryz.prog Y 20 [.lo 0 0] (ld P hd ab ⟨B,f,T,x::r,dn,sn⟩ d v (.bL (aY x.g x.sh x.to z))) (bV true) (ld P hd ab ⟨B,f,T,x::r,dn,sn⟩ d v z)) r
   (λg s o z h=>I4 Y hd ab g s o z h k0 c6 c2 k3 c4 c5 d v) (λh=>I5 Y hd ab aN 0 0 (.v (.pointer none)) h k0 c6 c2 k3 c4 c5 d v)⟩
def Qv (v left:Int):List Ob:=[.box [iV v,iV left]]
theorem Fc (Y:YP)(v left:Int)(t:Tm)(ht:SmT t):aU Tryz.prog Y 67 [.lo 0 0,t.av] (Qv v left) (bV (q6 v t)) (Qv v left):=by
 refine u0 Tryz.func67 λw S φ hg=>?_
 refine aA (fe t (by have:=ht.1;omega) (ht.2 1)) ?_;refine af (λh=>?_) λh=>?_
 have h:de t=false:=by simpa using h
 rw[show q6 v t=false by unfold q6;rw[h];rfl];exact lW;have h:de t=true:=by simpa using h
 have hv:=(tK [t] (by have:=ht.1;simp[Tm.aw];omega)).one;have a8:(bP [t]).length<=t.size:=uQ t;have hc:q6 v t=(bP [t]).all λx=>decide (x<v):=by unfold q6;rw[h];rfl
 generalize bP [t]=V at *;have hs:=ht.1;refine aA (hv) ?_;refine a7 (λk:Nat=>([(0,.lo 0 0),(12,.d (.sl (cD V))),(13,iV V.length),(14,iV k)],Qv v left++[aO t])) (λk=>k<=V.length/\q6 v t=(V.drop k).all λx=>decide (x<v)) (λk=>V.length-k) 0 ⟨bU _,hc⟩ ⟨.refl _,.refl _,by rw[bN];exact .refl _,.refl _,trivial⟩ rfl ?_;rintro k ⟨hk,hm⟩;refine ag ?_;refine af (λh=>?_) λh=>?_
 have aI:k<V.length:=bo h rfl;have e1:V[k]? = some V[k]:=dG aI;rw[List.drop_eq_getElem_cons aI,pK]at hm;generalize V[k]=x at e1 hm;refine cJ (iE e1) ?_;refine af (λh=>?_) λh=>?_
 rw [hm,show decide (x<v)=false by simpa using h];exact lW;exact aeB;have aI:V.length<=k:=bw h rfl;rw[hm,cX aI];exact lW
def Fb (g:Gl):Ob:=.box [.d (.v (.int .i64 g.k)),.d (.v (.int .i64 g.t.k)),.d (.v (.string g.t.s)),.d (.v (.int .i64 g.t.n)),.d (.sl (Tm.aa g.t.l)),.d (.sl (Gl.aa g.a)),.d (.sl (Gl.aa g.b)),.d (.sl (Gl.aa g.c))]
def CkG (Y:YP) (v:Int) (l:List Gl):Prop:=∀(left ak:Int) (aE:Bool),fv SmT l->(Gl.aw l:Int)-1000000000<=left->left<=1000->0<=ak->ak+Gl.aw l<=1000000000 ->
 aU Tryz.prog Y 68 [.lo 0 0,.d (.sl (Gl.aa l)),iV ak,bV aE] (Qv v left) (bV (cA v l left ak aE).1) (Qv v (cA v l left ak aE).2)
theorem aed (a b c:List Gl):(((a.length:Int)+b.length+c.length)==0)=fX a b c:=by unfold fX;rw[o5];simp only[beq_iff_eq,decide_eq_true_eq];omega
theorem PS (Y:YP)(v:Int)(l:List Gl):CkG Y v l:=by
 refine Gl.Cx (p:=CkG Y v) (λl eV=>?_) l;intro left ak aE hl h1 h2 h3 h4;have a8:=Gl.me l;refine u0 Tryz.func68 λw S φ hg=>?_
 refine a7 (λx:Nat×Int=>([(0,.lo 0 0),(2,iV ak),(3,bV aE),(13,.d (.sl (Gl.aa l))),(14,iV l.length),(15,iV x.1)],Qv v x.2)) (λx=>x.1<=l.length/\cA v l left ak aE=cA v (l.drop x.1) x.2 ak aE/\(Gl.aw (l.drop x.1):Int)-1000000000<=x.2/\x.2<=1000) (λx=>l.length-x.1) (0,left) ⟨bU _,rfl,h1,h2⟩ ⟨.refl _,.refl _,.refl _,.refl _,by rw[Gl.ao];exact .refl _,.refl _,trivial⟩ rfl ?_;rintro⟨k,eQ⟩ ⟨hk,hm,Sf,Ae⟩;refine ag ?_;refine af (λh=>?_) λh=>?_
 have aI:k<l.length:=bo h rfl;have e1:l[k]? = some l[k]:=dG aI;have hmem:=dy aI;rw[List.drop_eq_getElem_cons aI]at hm Sf;generalize l[k]=g at e1 hm hmem Sf;have hsz:=Gl.b8 hmem;obtain⟨sa,sb,sc⟩:=eV g hmem;obtain⟨st,ma,mb,mc⟩:=tN hl g hmem;simp only[Gl.aw]at Sf;have hge:=Gl.size_eq g;have hla:=Gl.me g.a;have hlb:=Gl.me g.b;have hlc:=Gl.me g.c;have htp:=Gl.uP g.t;have hw:IntKind.i64.wrap (eQ-1)=eQ-1:=pX aq aq;refine cJ (Gl.ay e1) ?_;rw[hw,Gl.ao g.a,Gl.ao g.b,Gl.ao g.c,pX (n:=(g.a.length:Int)+g.b.length) aq aq,pX (n:=(g.a.length:Int)+g.b.length+g.c.length) aq aq,aed];refine Og (λx:Bool×Int=>([(0,.lo 0 0),(2,iV ak),(3,bV aE),(12,bV x.1),(13,.d (.sl (Gl.aa l))),(14,iV l.length),(15,iV k)],Qv v x.2++[Fb g])) (λx=>x=iW v g (eQ-1) ak aE) rfl ?_ ?_;by_cases c1:g.k=1;have hx:iW v g (eQ-1) ak aE=(fX g.a g.b g.c&&q6 v g.t&&nV g.t,eQ-1):=by rw [kR,if_pos c1]
 refine cQ hg.ok rfl rfl (by simp[c1]) rfl rfl ?_;refine af (λn1=>?_) λn1=>?_
 refine aeJ ?_;refine af (λn2=>?_) λn2=>?_
 refine aA (Mp g.t) ?_;exact ox (nV g.t,eQ-1) (by rw[hx,n1,n2];rfl) Ep rfl;exact ahg;exact ahh;refine eG hg.ok rfl rfl (by simp[c1]) rfl rfl ?_;by_cases c2:g.k=2;have hx:iW v g (eQ-1) ak aE=(fX g.a g.b g.c&&q6 v g.t&&(g.t.k==3)&&ku (ef g.t),eQ-1):=by rw [kR,if_neg c1,if_pos c2]
 refine cQ hg.ok rfl rfl (by simp[c2]) rfl rfl ?_;refine af (λn1=>?_) λn1=>?_
 refine aeJ ?_;refine af (λn2=>?_) λn2=>?_
 refine af (λn3=>?_) λn3=>?_
 refine aA (zT g.t) ?_;exact ox (ku (ef g.t),eQ-1) (by rw[hx,n1,n2,n3];rfl) Ep rfl;exact ox (false,eQ-1) (by rw[hx,n1,n2,n3];rfl) ⟨.refl _,.refl _,.refl _,abW,.refl _,.refl _,.refl _,trivial⟩ rfl;exact ahg;exact ahh;refine eG hg.ok rfl rfl (by simp[c2]) rfl rfl ?_;by_cases c3:g.k=3;have hx:iW v g (eQ-1) ak aE=(fX g.a g.b g.c&&iy g.t&&aE,eQ-1):=by rw [kR,if_neg c1,if_neg c2,if_pos c3]
 refine cQ hg.ok rfl rfl (by simp[c3]) rfl rfl ?_;refine af (λn1=>?_) λn1=>?_
 refine aA (vU g.t) ?_;refine af (λn2=>?_) λn2=>?_
 exact ox (aE,eQ-1) (by rw[hx,n1,n2];rfl) Ep rfl;exact ahg;exact ahh;refine eG hg.ok rfl rfl (by simp[c3]) rfl rfl ?_;have la:=tO v g.a (eQ-1) (ak+1) false;have la2:=(Gv v g.a (eQ-1) (ak+1) false).2.2;have lb:=tO v g.b (cA v g.a (eQ-1) (ak+1) false).2 (ak+1) aE;have lb2:=(Gv v g.b (cA v g.a (eQ-1) (ak+1) false).2 (ak+1) aE).2.2;have PT:IntKind.i64.wrap (ak+1)=ak+1:=pX aq aq;have CA:=sa (eQ-1) (ak+1) false ma aq aq aq aq;by_cases c4:g.k=4;have CB:=sb (cA v g.a (eQ-1) (ak+1) false).2 (ak+1) aE mb aq aq aq aq;have CC:=sc (cA v g.b (cA v g.a (eQ-1) (ak+1) false).2 (ak+1) aE).2 (ak+1) aE mc aq aq aq aq;have hx:=kR v g (eQ-1) ak aE;rw[if_neg c1,if_neg c2,if_neg c3,if_pos c4]at hx;refine cQ hg.ok rfl rfl (by simp[c4]) rfl rfl ?_;refine aA (vU g.t) ?_;refine af (λn1=>?_) λn1=>?_
 rw [if_pos n1]at hx;rw[PT];refine aeK ?_;refine af (λn2=>?_) λn2=>?_
 rw [if_pos n2]at hx;rw[PT];refine aj hg.ok hg.cm hg.wide hg.Y [0] (Qv v (cA v g.b (cA v g.a (eQ-1) (ak+1) false).2 (ak+1) aE).2++[Fb g]) (CB) cN rfl rfl rfl rfl rfl rfl rfl rfl (ag ?_);refine af (λn3=>?_) λn3=>?_
 rw [if_pos n3]at hx;rw[PT];refine aj hg.ok hg.cm hg.wide hg.Y [0] (Qv v (cA v g.c (cA v g.b (cA v g.a (eQ-1) (ak+1) false).2 (ak+1) aE).2 (ak+1) aE).2++[Fb g]) (CC) cN rfl rfl rfl rfl rfl rfl rfl rfl (ag ?_);exact ox (cA v g.c (cA v g.b (cA v g.a (eQ-1) (ak+1) false).2 (ak+1) aE).2 (ak+1) aE) hx.symm Ep rfl;rw [if_neg (by rw [n3]; simp)]at hx;exact ox (false,(cA v g.b (cA v g.a (eQ-1) (ak+1) false).2 (ak+1) aE).2) hx.symm ⟨.refl _,.refl _,.refl _,abW,.refl _,.refl _,.refl _,trivial⟩ rfl;rw [if_neg (by rw [n2]; simp)]at hx;exact ox (false,(cA v g.a (eQ-1) (ak+1) false).2) hx.symm ⟨.refl _,.refl _,.refl _,abW,.refl _,.refl _,.refl _,trivial⟩ rfl;rw [if_neg (by rw [n1]; simp)]at hx;exact abL;refine eG hg.ok rfl rfl (by simp[c4]) rfl rfl ?_;by_cases c5:g.k=5;have hx:=kR v g (eQ-1) ak aE;rw[if_neg c1,if_neg c2,if_neg c3,if_neg c4,if_pos c5]at hx;refine cQ hg.ok rfl rfl (by simp[c5]) rfl rfl ?_;refine aA (vU g.t) ?_;refine af (λn1=>?_) λn1=>?_
 rw [Gl.ao g.b,Gl.ao g.c,pX (n:=(g.b.length:Int)+g.c.length) aq aq];refine af (λn2=>?_) λn2=>?_
 rw [n1,decide_eq_true (show g.b.length+g.c.length=0 by simp at n2; omega)]at hx;simp only[Fq,if_true]at hx;rw[PT];refine aeK ?_;exact ox (cA v g.a (eQ-1) (ak+1) false) hx.symm Ep rfl;rw [n1,decide_eq_false (show ¬ g.b.length+g.c.length=0 by simp at n2; omega)]at hx;exact abL;rw [n1]at hx;exact abL;refine eG hg.ok rfl rfl (by simp[c5]) rfl rfl ?_;have hx:=kR v g (eQ-1) ak aE;rw[if_neg c1,if_neg c2,if_neg c3,if_neg c4,if_neg c5]at hx;exact abL;rintro ⟨fair,SH⟩ hx;have hlw:=Zt v g (eQ-1) ak aE;simp only[cA]at hm;rw[<-hx]at hm hlw;simp only at hm hlw;refine ag ?_;refine af (λn1=>?_) λn1=>?_
 have n1:fair=false:=by simpa using n1
 subst n1;rw[if_pos aD]at hm;rw[hm];exact lW;have n1:fair=true:=by simpa using n1
 subst n1;refine af (λn2=>?_) λn2=>?_
 rw [if_pos (by rw [n2]; simp)]at hm;rw[hm];exact lW;refine af (λn3=>?_) λn3=>?_
 rw [if_pos (by rw [show decide (10<ak)=true from n3]; simp)]at hm;rw[hm];exact lW;rw [if_neg (by rw [n2,show decide (10<ak)=false from n3]; simp)]at hm;refine bf 1 (Qv v SH) (by show φ.length<=1;exact Nat.le_of_eq hg.kh.len) rfl rfl ?_;exact bb (k+1,SH) ⟨aI,hm,by show(Gl.aw (l.drop (k+1)):Int)-1000000000<=SH;omega,by show SH<=1000;omega⟩ gP ⟨.refl _,.refl _,.refl _,.refl _,.refl _,bJ.wrap gP gP gP,trivial⟩ rfl;have aI:l.length<=k:=bw h rfl;rw[hm,cX aI];simp only[cA];exact lW
def aaB (x:Cs):Ob:=.box [.d (.v (.int .i64 x.head.k)),.d (.v (.string x.head.s)),.d (.v (.int .i64 x.head.n)),.d (.sl (Tm.aa x.head.l)),.d (.sl (Gl.aa x.body)),.d (.v (.int .i64 x.vars))]
theorem zX (x:Cs)(hx:Ir x):br Tryz.prog 40 [x.av] (bV (iX x)):=by
 have hb:=hx.size;refine v8 Tryz.func40 λw S hg=>?_
 refine af (λn1=>?_) λn1=>?_
 rotate_left;refine bz ?_;unfold iX;rw[show decide (0<=x.vars)=false from n1];rfl;refine af (λn2=>?_) λn2=>?_
 rotate_left;refine bz ?_;unfold iX;rw[show decide (0<=x.vars)=true from n1,show decide (x.vars<=1000)=false from n2];rfl;refine aj hg.ok hg.cm ⟨rfl,rfl⟩ (λ_ _ _ _ h=>by cases h) [1] ([aaB x]++Qv x.vars 20) (Fc ⟨[],λ_=>true⟩ x.vars 20 x.head hx.head) cN rfl rfl rfl rfl rfl rfl rfl rfl (ag ?_);refine af (λn3=>?_) λn3=>?_
 rotate_left;refine bz ?_;unfold iX;rw[show decide (0<=x.vars)=true from n1,show decide (x.vars<=1000)=true from n2,n3];rfl;refine aA (Mp x.head) ?_;refine af (λn4=>?_) λn4=>?_
 rotate_left;refine bz ?_;unfold iX;rw[show decide (0<=x.vars)=true from n1,show decide (x.vars<=1000)=true from n2,n3,n4];rfl;refine aj hg.ok hg.cm ⟨rfl,rfl⟩ (λ_ _ _ _ h=>by cases h) [1] ([aaB x]++Qv x.vars (cA x.vars x.body 20 1 true).2) (PS ⟨[],λ_=>true⟩ x.vars x.body 20 1 true hx.body aq aq aq aq) cN rfl rfl rfl rfl rfl rfl rfl rfl (ag ?_);refine bz ?_;unfold iX;rw[show decide (0<=x.vars)=true from n1,show decide (x.vars<=1000)=true from n2,n3,n4];rfl
theorem MT (l:List Cs)(hl:l.length<=1000000):br Tryz.prog 63 [Al l] (.d (.map (dsM (hdS l)))):=by
 refine v8 Tryz.func63 λw S hg=>?_
 refine Eo ?_;refine a7 (λx:Nat×List Sg=>([(3,.mp 1),(8,.d (.sl (Cs.aa l))),(9,iV l.length),(10,iV x.1)],[.box [.d (.sl (Cs.aa l))],.map (mW (Nu x.2))])) (λx=>x.1<=l.length/\hdS l=(l.drop x.1).foldl (λks c=>EV ks (ef c.head)) x.2) (λx=>l.length-x.1) (0,[]) ⟨bU _,rfl⟩ ⟨.refl _,.refl _,by rw[Cs.fD];exact .refl _,.refl _,trivial⟩ rfl ?_;rintro⟨k,ks⟩ ⟨hk,hm⟩;refine ag ?_;refine iG (λh=>?_) λh=>?_
 refine ag ?_;have aI:k<l.length:=bo h rfl;have e1:l[k]? = some l[k]:=dG aI;rw[List.drop_eq_getElem_cons aI,wC]at hm;generalize l[k]=c at e1 hm;refine cJ (Cs.ay e1) ?_;refine aA (yX c.head) ?_;refine aiL hg.ok (ef c.head) (Nu ks) (Nu (EV ks (ef c.head))) IP rfl rfl rfl rfl rfl rfl (v':=bV true) (by first|exact .refl _|exact .tt) (adt _ _) (ag ?_);refine bf 2 [.box [.d (.sl (Cs.aa l))],.map (mW (Nu (EV ks (ef c.head))))] fO rfl (congrArg (λx=>[Ob.box [AV.d (.sl (Cs.aa l))],x]) (Zv rfl _)) ?_;exact bb (k+1,EV ks (ef c.head)) ⟨aI,hm⟩ gP ⟨.refl _,.refl _,.refl _,bJ.wrap gP gP gP,trivial⟩ rfl;have aI:l.length<=k:=bw h rfl;rw[cX aI]at hm;simp only[List.foldl_nil]at hm;rw[hm];refine yI hg.cm 1 (dsM ks) fO (by rw[OZ];rfl) rfl (ag ?_);refine bz ?_;rfl
theorem DN (ks:List Sg)(l:List Gl):Gl.aw l<=1000000->br Tryz.prog 64 [.d (.sl (Gl.aa l)),.d (.map (dsM ks))] (bV (bm (jg ks) l)):=by
 refine Gl.Cx (p:=λl=>Gl.aw l<=1000000->br Tryz.prog 64 [.d (.sl (Gl.aa l)),.d (.map (dsM ks))] (bV (bm (jg ks) l))) (λl eV=>?_) l;intro hl;have a8:=Gl.me l;refine v8 Tryz.func64 λw S hg=>?_
 refine a7 (λk:Nat=>([(1,.d (.map (dsM ks))),(7,.d (.sl (Gl.aa l))),(8,iV l.length),(9,iV k)],[])) (λk=>k<=l.length/\bm (jg ks) l=bm (jg ks) (l.drop k)) (λk=>l.length-k) 0 ⟨bU _,rfl⟩ ⟨.refl _,.refl _,by rw[Gl.ao];exact .refl _,.refl _,trivial⟩ rfl ?_;rintro k ⟨hk,hm⟩;refine ag ?_;refine af (λh=>?_) λh=>?_
 have aI:k<l.length:=bo h rfl;have e1:l[k]? = some l[k]:=dG aI;have hmem:=dy aI;rw[List.drop_eq_getElem_cons aI]at hm;generalize l[k]=g at e1 hm hmem;have hsz:=Gl.b8 hmem;have hge:=Gl.size_eq g;obtain⟨sa,sb,sc⟩:=eV g hmem;simp only[bm,tQ]at hm;refine cJ (Gl.ay e1) ?_;by_cases tk:((g.k==1)&&!jg ks (ef g.t))=true;rw [tk]at hm;simp only[aV,wE]at tk;refine cQ hg.ok rfl rfl (by simp[tk.1]) rfl rfl ?_;refine aA (yX g.t) ?_;refine Cw hg.ok (ef g.t) (Nu ks) (OZ ks) IP rfl rfl rfl rfl rfl rfl (v:=.ff) (by rw[Sl,tk.2];rfl) (ag ?_);refine bz ?_;rw[hm];rfl;have ajF:((g.k==1)&&!jg ks (ef g.t))=false:=Bool.eq_false_iff.2 tk;rw[ajF]at hm;cases hk1':(g.k==1)with
 |false=>
  refine eG hg.ok rfl rfl (by simp[hk1']) rfl rfl ?_;refine aA (sa aq) ?_;refine af (λn1=>?_) λn1=>?_
  refine bz ?_;rw[hm,show bm (jg ks) g.a=false by simpa using n1];rfl;have n1:bm (jg ks) g.a=true:=by simpa using n1
  refine aA (sb aq) ?_;refine af (λn2=>?_) λn2=>?_
  refine bz ?_;rw[hm,n1,show bm (jg ks) g.b=false by simpa using n2];rfl;have n2:bm (jg ks) g.b=true:=by simpa using n2
  refine aA (sc aq) ?_;refine af (λn3=>?_) λn3=>?_
  refine bz ?_;rw[hm,n1,n2,show bm (jg ks) g.c=false by simpa using n3];rfl;have n3:bm (jg ks) g.c=true:=by simpa using n3
  rw[n1,n2,n3]at hm;refine ze ?_;exact Wq
 |true=>
  have hh:jg ks (ef g.t)=true:=by rw[hk1']at ajF;simpa using ajF
  refine cQ hg.ok rfl rfl (by simp[hk1']) rfl rfl ?_;refine aA (yX g.t) ?_;refine Cw hg.ok (ef g.t) (Nu ks) (OZ ks) IP rfl rfl rfl rfl rfl rfl (v:=bV true) (by rw[Sl,hh];rfl) (ag ?_);refine gg ?_;refine aA (sa aq) ?_;refine af (λn1=>?_) λn1=>?_
  refine bz ?_;rw[hm,show bm (jg ks) g.a=false by simpa using n1];rfl;have n1:bm (jg ks) g.a=true:=by simpa using n1
  refine aA (sb aq) ?_;refine af (λn2=>?_) λn2=>?_
  refine bz ?_;rw[hm,n1,show bm (jg ks) g.b=false by simpa using n2];rfl;have n2:bm (jg ks) g.b=true:=by simpa using n2
  refine aA (sc aq) ?_;refine af (λn3=>?_) λn3=>?_
  refine bz ?_;rw[hm,n1,n2,show bm (jg ks) g.c=false by simpa using n3];rfl;have n3:bm (jg ks) g.c=true:=by simpa using n3
  rw[n1,n2,n3]at hm;refine ze ?_;exact Wq
 have aI:l.length<=k:=bw h rfl;refine bz ?_;rw[hm,cX aI];rfl
theorem G0 (l:List Cs):jg (hdS l)=eO l:=funext (adu l)
theorem G1 (g:List Gl)(l:List Cs)(hg:Gl.aw g<=1000000)(hl:l.length<=1000000):br Tryz.prog 37 [.d (.sl (Gl.aa g)),Al l] (bV (bm (eO l) g)):=by
 have h:=DN (hdS l) g hg;rw[G0]at h;refine v8 Tryz.func37 λw S hg=>?_
 refine aA (MT l hl) ?_;refine aA (h) ?_;refine bz ?_;rfl
theorem oW {α:Type}(p:α->Bool){l:List α}{k:Nat}{x:α}(h:l[k]? = some x):fG p (l.drop k) k=if p x then fG p (l.drop (k+1)) (k+1)else some k:=by exact ahG
theorem MU (l:List Cs)(hl:∀c∈l,Ir c):br Tryz.prog 35 [Al l] (.cP [iV (fH l).1,iV (fH l).2]):=by
 refine v8 Tryz.func35 λw S hg=>?_
 by_cases h2:200<l.length;refine cQ hg.ok rfl rfl (by simp [Cs.fD]; omega) rfl rfl ?_;refine bz ?_;unfold fH;rw[if_pos h2];rfl;refine eG hg.ok rfl rfl (by simp[Cs.fD];omega) rfl rfl ?_;have hc0:fH l=match fG iX l 0 with
  |some i=>((i:Int),1)
  |none=>match fG (λc=>bm (eO l) c.body) l 0 with
   |some i=>((i:Int),9)
   |none=>(0,0):=by unfold fH;rw[if_neg h2];rfl
 refine qV (λ_:Unit=>([(1,.lo 0 0)],[.box [.d (.sl (Cs.aa l))]])) (λ_=>fG iX l 0=none) rfl ?_ ?_;refine a7 (λk:Nat=>([(1,.lo 0 0),(14,.d (.sl (Cs.aa l))),(15,iV l.length),(16,iV k)],[.box [.d (.sl (Cs.aa l))]])) (λk=>k<=l.length/\fG iX l 0=fG iX (l.drop k) k) (λk=>l.length-k) 0 ⟨bU _,rfl⟩ ⟨.refl _,.refl _,by rw [Cs.fD]; exact .refl _,.refl _,trivial⟩ rfl ?_;rintro k ⟨hk,hm⟩;refine ag ?_;refine af (λh=>?_) λh=>?_
 have aI:k<l.length:=bo h rfl;have e1:l[k]? = some l[k]:=dG aI;have hs:=hl _ (dy aI);generalize l[k]=c at e1 hs;rw[oW iX e1]at hm;refine cJ (Cs.ay e1) ?_;refine aA (zX c hs) ?_;refine af (λh=>?_) λh=>?_
 have h:iX c=false:=by simpa using h
 rw[if_neg (by rw[h];simp)]at hm;rw[hc0,hm];refine bz ?_;rfl;have h:iX c=true:=by simpa using h
 rw[if_pos h]at hm;refine bf 1 [.box [.d (.sl (Cs.aa l))]] fO rfl rfl ?_;exact Wq;have aI:l.length<=k:=bw h rfl;rw[cX aI]at hm;exact ox () hm NI rfl;rintro _ hn;rw[hn]at hc0;simp only at hc0;refine ag ?_;refine aA (MT l aq) ?_;refine a7 (λk:Nat=>([(6,.d (.map (dsM (hdS l)))),(29,.d (.sl (Cs.aa l))),(30,iV l.length),(31,iV k)],[.box [.d (.sl (Cs.aa l))]])) (λk=>k<=l.length/\fG (λc=>bm (eO l) c.body) l 0=fG (λc=>bm (eO l) c.body) (l.drop k) k) (λk=>l.length-k) 0 ⟨bU _,rfl⟩ ⟨.refl _,.refl _,by rw[Cs.fD];exact .refl _,.refl _,trivial⟩ rfl ?_;rintro k ⟨hk,hm⟩;refine ag ?_;refine af (λh=>?_) λh=>?_
 have aI:k<l.length:=bo h rfl;have e1:l[k]? = some l[k]:=dG aI;have hs:=hl _ (dy aI);generalize l[k]=c at e1 hs;rw[oW (λc=>bm (eO l) c.body) e1]at hm;have ht:=DN (hdS l) c.body hs.size;rw[G0]at ht;refine cJ (Cs.ay e1) ?_;refine aA (ht) ?_;refine af (λh=>?_) λh=>?_
 have h:bm (eO l) c.body=false:=by simpa using h
 rw[if_neg (by rw[h];simp)]at hm;rw[hc0,hm];refine bz ?_;rfl;have h:bm (eO l) c.body=true:=by simpa using h
 rw[if_pos h]at hm;refine bf 1 [.box [.d (.sl (Cs.aa l))]] fO rfl rfl ?_;exact Wq;have aI:l.length<=k:=bw h rfl;rw[cX aI]at hm;rw[hc0,hm];refine bz ?_;rfl
theorem EZ (s:ByteArray)(n:Int):br Tryz.prog 53 [.d (.v (.string s)),.d (.v (.int .i64 n))] (bV (ku (s,n))):=by
 rw[adq];unfold ai5;refine ng Tryz.func53 λw S hg=>?_
 repeat' (refine iq rfl rfl (λ_=>?_) (λ_=>?_)<;>refine dJ hg.ok rfl rfl ?_)
 all_goals (
  refine bz ?_;simp_all[bV])
theorem E3 (s:ByteArray)(n:Int):br Tryz.prog 54 [.d (.v (.string s)),.d (.v (.int .i64 n))] (bV (Ip (s,n))):=by
 rw[adr];unfold ai6;refine ng Tryz.func54 λw S hg=>?_
 repeat' (refine iq rfl rfl (λ_=>?_) (λ_=>?_)<;>refine dJ hg.ok rfl rfl ?_)
 all_goals (
  refine bz ?_;simp_all[bV])
theorem s6 (t:Tm):br Tryz.prog 53 [.d (.v (.string t.s)),.d (.v (.int .i64 ((Tm.aa t.l).length:Int)))] (bV (ku (ef t))):=by rw[Tm.ao];exact EZ t.s t.l.length
theorem DP (t:Tm):br Tryz.prog 54 [.d (.v (.string t.s)),.d (.v (.int .i64 ((Tm.aa t.l).length:Int)))] (bV (Ip (ef t))):=by rw[Tm.ao];exact E3 t.s t.l.length
theorem G2 (t:Tm):br Tryz.prog 30 [t.av] (bV (nV t)):=by
 refine v8 Tryz.func30 λw S hg=>?_
 refine af (λh=>?_) λh=>?_
 refine aA (s6 t) ?_;refine af (λh2=>?_) λh2=>?_
 refine aA (DP t) ?_;refine bz ?_;unfold nV;rw[h,h2];rfl;refine bz ?_;unfold nV;rw[h,h2];rfl;refine bz ?_;unfold nV;rw[h];rfl
theorem s7 (t:Tm)(v:Int)(ht:SmT t):br Tryz.prog 29 [t.av,iV v] (bV (nW v t)):=by
 have hs:=ht.1;have hv:=(CV [t] J1).one;have hr:=zF t aq ht.2;have a8:(Tm.fA [] [t]).length<=t.size:=by have:=Tm.qT [t] [];simpa[Tm.aw]using this
 have hw:nW v t=((Tm.fA [] [t]).all (λx=>decide (x<v))&&t.bB):=by
  unfold nW;cases h:t.bB with
  |false=>simp
  |true=>rw[vr [t] (Tm.l9 _ (Lj ln))]
 rw[hw];generalize Tm.fA [] [t]=V at *;refine v8 Tryz.func29 λw S hg=>?_
 refine aA (hv) ?_;refine a7 (λk:Nat=>([(1,iV v),(2,.lo 0 0),(5,.d (.sl (cD V))),(6,iV k)],[aO t])) (λk=>k<=V.length/\V.all (λx=>decide (x<v))=(V.drop k).all λx=>decide (x<v)) (λk=>V.length-k) 0 ⟨bU _,rfl⟩ Bi rfl ?_;rintro k ⟨hk,hm⟩;refine ag ?_;refine af (λh=>?_) λh=>?_
 have aI:k<V.length:=bo h Tt;have e1:V[k]? = some V[k]:=dG aI;rw[List.drop_eq_getElem_cons aI,pK]at hm;generalize V[k]=x at e1 hm;refine cJ (iE e1) ?_;refine af (λh=>?_) λh=>?_
 refine bz ?_;rw[hm,show decide (x<v)=false by simpa using h];rfl;exact aeB;have aI:V.length<=k:=bw h Tt;refine aA (hr) ?_;refine bz ?_;rw[hm,cX aI];rfl
theorem aaD (a b c:List Gl):fX a b c=(decide (a.length=0)&&decide (b.length=0)&&decide (c.length=0)):=by unfold fX;rw[o5];simp only[decide_eq_true_eq,aV];omega
theorem PU (g:Gl)(v:Int)(ht:SmT g.t):br Tryz.prog 52 [g.av,iV v] (bV (oQ v g)):=by
 have hs:=CD g.t aJ (by have:=ht.1;omega);rw[UO]at hs
 have hf:oQ v g=if g.k=1 then fX g.a g.b g.c&&nV g.t&&nW v g.t
  else if g.k=2 then fX g.a g.b g.c&&(g.t.k==3)&&ku (ef g.t)&&nW v g.t
  else if g.k=3 then fX g.a g.b g.c&&iy g.t
  else iy g.t&&((g.k==4)||(g.k==5)&&decide (g.b.length+g.c.length=0)):=by cases g;rw[oQ];rfl
 rw[hf];refine v8 Tryz.func52 λw S hg=>?_
 refine aA (hs) ?_;have z:∀l:List Gl,(((Gl.aa l).length:Int)==0)=decide (l.length=0):=λl=>by rw[Gl.ao,o5];simp
 refine Og (λ_:Unit=>([(1,iV v),(2,.lo 0 0),(5,bV (iy g.t)),(6,bV (fX g.a g.b g.c))],[Fb g])) (λ_=>True) rfl ?_ ?_;rw [aaD,z];cases ha:decide (g.a.length=0)with
 |false=>refine gg ?_;exact Wz
 |true=>
  refine mM ?_;rw[z];cases hb:decide (g.b.length=0)with
  |false=>refine gg ?_;exact Wz
  |true=>refine mM ?_;rw[z];exact Wz
 rintro _ _;refine ag ?_;by_cases c1:g.k=1;rw [if_pos c1];refine cQ hg.ok rfl rfl (by simp[c1]) rfl rfl ?_;refine af (λn1=>?_) λn1=>?_
 refine aA (G2 g.t) ?_;refine af (λn2=>?_) λn2=>?_
 refine aA (s7 g.t v ht) ?_;refine bz ?_;rw[n1,n2];rfl;refine bz ?_;rw[n1,n2];rfl;refine bz ?_;rw[n1];rfl;rw[if_neg c1];refine eG hg.ok rfl rfl (by simp[c1]) rfl rfl ?_;by_cases c2:g.k=2;rw [if_pos c2];refine cQ hg.ok rfl rfl (by simp[c2]) rfl rfl ?_;refine af (λn1=>?_) λn1=>?_
 refine af (λn2=>?_) λn2=>?_
 refine aA (s6 g.t) ?_;refine af (λn3=>?_) λn3=>?_
 refine aA (s7 g.t v ht) ?_;refine bz ?_;rw[n1,n2,n3];rfl;refine bz ?_;rw[n1,n2,n3];rfl;refine bz ?_;rw[n1,n2];rfl;refine bz ?_;rw[n1];rfl;rw[if_neg c2];refine eG hg.ok rfl rfl (by simp[c2]) rfl rfl ?_;by_cases c3:g.k=3;rw [if_pos c3];refine cQ hg.ok rfl rfl (by simp[c3]) rfl rfl ?_;refine af (λn1=>?_) λn1=>?_
 refine bz ?_;rw[n1];rfl;refine bz ?_;rw[n1];rfl;rw[if_neg c3];refine eG hg.ok rfl rfl (by simp[c3]) rfl rfl ?_;refine af (λn1=>?_) λn1=>?_
 rotate_left;refine bz ?_;rw[n1];rfl;rw[n1];refine af (λn2=>?_) λn2=>?_
 refine bz ?_;rw[n2];rfl;rw[n2];refine af (λn3=>?_) λn3=>?_
 rotate_left;refine bz ?_;rw[n3];rfl;rw[n3,z];cases hb:decide (g.b.length=0)with
 |false=>refine gg ?_;refine bz ?_;rw[decide_eq_false (show ¬ g.b.length+g.c.length=0 by have:=of_decide_eq_false hb;omega)];rfl
 |true=>have hb:=of_decide_eq_true hb;refine mM ?_;rw[z];refine bz ?_;rw[hb,zj];rfl
theorem MV (v:Int)(l:List Gl):∀(ak:Int) (aE:Bool),fv SmT l->Gl.aw l<=1000000->0<=ak->ak+Gl.aw l<=1000000000->br Tryz.prog 28 [.d (.sl (Gl.aa l)),iV v,iV ak,bV aE] (iV (gS v l ak aE)):=by
 refine Gl.Cx (p:=λl=>∀(ak:Int) (aE:Bool),fv SmT l->Gl.aw l<=1000000->0<=ak->ak+Gl.aw l<=1000000000->br Tryz.prog 28 [.d (.sl (Gl.aa l)),iV v,iV ak,bV aE] (iV (gS v l ak aE))) (λl eV=>?_) l;intro ak aE hl hz h3 h4;have a8:=Gl.me l;have mF:=Gl.ao l;refine v8 Tryz.func28 λw S hg=>?_
 by_cases hd:l.length≠0/\10<ak;refine iq rfl rfl (λ_=>?_) Bh <;> refine eW hg.ok 1000 rfl rfl ?_
 refine iq rfl rfl (λ_=>?_) Bh<;>refine dJ hg.ok rfl rfl ?_
 refine bz ?_;unfold gS;rw[if_pos hd];rfl;have Ii:gS v l ak aE=jT v l ak aE:=by unfold gS;rw[if_neg hd]
 have PT:IntKind.i64.wrap (ak+1)=ak+1:=pX aq aq;rw[Ii];refine Og (λ_:Unit=>([(0,.d (.sl (Gl.aa l))),(1,iV v),(2,iV ak),(3,bV aE),(9,iV 0),(21,bV false)],[])) (λ_=>True) rfl ?_ ?_;by_cases h0:l.length=0;refine iq rfl rfl Hi (λ_=>?_) <;> refine eW hg.ok 1000 rfl rfl ?_
 exact ae6;refine iq rfl rfl (λ_=>?_) Bh <;> refine eW hg.ok 1000 rfl rfl ?_
 rw[decide_eq_false (show ¬ ak > 10 by omega)];exact ae6;rintro _ _;refine gg ?_
 refine a7 (λx:Nat×Int=>([(0,.d (.sl (Gl.aa l))),(1,iV v),(2,iV ak),(3,bV aE),(9,iV x.2),(10,iV x.1)],[])) (λx=>x.1<=l.length/\jT v l ak aE=Iu v (l.drop x.1) ak aE x.2/\0<=x.2/\x.2+Gl.aw (l.drop x.1)<=Gl.aw l) (λx=>l.length-x.1) (0,0) ⟨bU _,by
  show jT v l ak aE=Iu v l ak aE 0
  unfold Iu;have:=nX v l ak aE;rw[Ii]at this;split<;>omega,kH _,by simp⟩ alp rfl ?_
 rintro⟨k,m⟩ ⟨hk,hm,hm0,hms⟩;refine ag ?_;refine af (λh=>?_) λh=>?_
 have aI:k<l.length:=bo h Ex;have e1:l[k]? = some l[k]:=dG aI;have hmem:=dy aI;rw[List.drop_eq_getElem_cons aI]at hm hms;generalize l[k]=g at e1 hm hms hmem;have hsz:=Gl.b8 hmem;have hge:=Gl.size_eq g;have htp:=Gl.uP g.t;obtain⟨sa,sb,sc⟩:=eV g hmem;obtain⟨st,ma,mb,mc⟩:=tN hl g hmem;rw[UP,xz]at hm;simp only[Gl.aw]at hms;have la:=O0 v g.a (ak+1) false;have lb:=O0 v g.b (ak+1) aE;have lc:=O0 v g.c (ak+1) aE;have ga:=nX v g.a (ak+1) false;have gb:=nX v g.b (ak+1) aE;have gc:=nX v g.c (ak+1) aE;have ca:=sa (ak+1) false ma aq aq aq;have cb:=sb (ak+1) aE mb aq aq aq;have cc:=sc (ak+1) aE mc aq aq aq;refine cJ (Gl.ay e1) ?_;have hF:=PU g v st;cases hf:oQ v g with
 |false=>rw[hf]at hF hm;refine aA (hF) ?_;refine mM ?_;refine bz ?_;rw[hm];rfl
 |true=>
  rw[hf]at hF hm;refine aA (hF) ?_;refine gg ?_;cases h3k:(g.k==3)with
  |false=>
   rw[h3k]at hm;refine eG hg.ok rfl rfl (by simp[h3k]) rfl rfl ?_;simp only[u9,uq,rA,Ki,Bool.not_false,Fq,lq,if_false]at hm;rw[PT];refine aA (ca) ?_;rw[PT];refine aA (cb) ?_;rw[PT];refine aA (cc) ?_;generalize gS v g.a (ak+1) false=qa at *;generalize gS v g.b (ak+1) aE=qb at *;generalize gS v g.c (ak+1) aE=qc at *;by_cases h1:qa<0;rw [show(if qa<0\/qb<0\/qc<0 then(-1:Int)else 1+qa+qb+qc)=-1 from if_pos (.inl h1),if_pos eA]at hm;refine iq rfl rfl (λ_=>?_) Bh<;>refine dJ hg.ok rfl rfl ?_
   refine bz ?_;rw[hm];rfl;refine iq rfl rfl Hi (λ_=>?_)<;>refine dJ hg.ok rfl rfl ?_
   by_cases h2:qb<0;rw [show(if qa<0\/qb<0\/qc<0 then(-1:Int)else 1+qa+qb+qc)=-1 from if_pos (.inr (.inl h2)),if_pos eA]at hm;refine iq rfl rfl (λ_=>?_) Bh<;>refine dJ hg.ok rfl rfl ?_
   refine bz ?_;rw[hm];rfl;refine iq rfl rfl Hi (λ_=>?_)<;>refine dJ hg.ok rfl rfl ?_
   by_cases h3:qc<0;rw [show(if qa<0\/qb<0\/qc<0 then(-1:Int)else 1+qa+qb+qc)=-1 from if_pos (.inr (.inr h3)),if_pos eA]at hm;refine iq rfl rfl (λ_=>?_) Bh<;>refine dJ hg.ok rfl rfl ?_
   refine bz ?_;rw[hm];rfl;refine iq rfl rfl Hi (λ_=>?_)<;>refine dJ hg.ok rfl rfl ?_
   rw[show(if qa<0\/qb<0\/qc<0 then(-1:Int)else 1+qa+qb+qc)=1+qa+qb+qc from if_neg aq,if_neg aq,show m+(1+qa+qb+qc)=m+1+qa+qb+qc by omega]at hm;rw[pX (n:=m+1) aq aq,pX (n:=m+1+qa) aq aq,pX (n:=m+1+qa+qb) aq aq,pX (n:=m+1+qa+qb+qc) aq aq];refine ze ?_;exact ak1
  |true=>
   rw[h3k]at hm;refine cQ hg.ok rfl rfl (by simp[h3k]) rfl rfl ?_;cases aE with
   |false=>refine mM ?_;refine bz ?_;rw[hm];rfl
   |true=>
    refine gg ?_;simp only[u9,uq,rA,Ki,Bool.not_false,Fq,lq,if_false]at hm;rw[PT];refine aA (ca) ?_;rw[PT];refine aA (cb) ?_;rw[PT];refine aA (cc) ?_;generalize gS v g.a (ak+1) false=qa at *;generalize gS v g.b (ak+1) true=qb at *;generalize gS v g.c (ak+1) true=qc at *;by_cases h1:qa<0;rw [show(if qa<0\/qb<0\/qc<0 then(-1:Int)else 1+qa+qb+qc)=-1 from if_pos (.inl h1),if_pos eA]at hm;refine iq rfl rfl (λ_=>?_) Bh<;>refine dJ hg.ok rfl rfl ?_
    refine bz ?_;rw[hm];rfl;refine iq rfl rfl Hi (λ_=>?_)<;>refine dJ hg.ok rfl rfl ?_
    by_cases h2:qb<0;rw [show(if qa<0\/qb<0\/qc<0 then(-1:Int)else 1+qa+qb+qc)=-1 from if_pos (.inr (.inl h2)),if_pos eA]at hm;refine iq rfl rfl (λ_=>?_) Bh<;>refine dJ hg.ok rfl rfl ?_
    refine bz ?_;rw[hm];rfl;refine iq rfl rfl Hi (λ_=>?_)<;>refine dJ hg.ok rfl rfl ?_
    by_cases h3:qc<0;rw [show(if qa<0\/qb<0\/qc<0 then(-1:Int)else 1+qa+qb+qc)=-1 from if_pos (.inr (.inr h3)),if_pos eA]at hm;refine iq rfl rfl (λ_=>?_) Bh<;>refine dJ hg.ok rfl rfl ?_
    refine bz ?_;rw[hm];rfl;refine iq rfl rfl Hi (λ_=>?_)<;>refine dJ hg.ok rfl rfl ?_
    rw[show(if qa<0\/qb<0\/qc<0 then(-1:Int)else 1+qa+qb+qc)=1+qa+qb+qc from if_neg aq,if_neg aq,show m+(1+qa+qb+qc)=m+1+qa+qb+qc by omega]at hm;rw[pX (n:=m+1) aq aq,pX (n:=m+1+qa) aq aq,pX (n:=m+1+qa+qb) aq aq,pX (n:=m+1+qa+qb+qc) aq aq];refine ze ?_;exact ak1
 have aI:l.length<=k:=bw h Ex;refine bz ?_;have hm:jT v l ak aE=Iu v (l.drop k) ak aE m:=hm;rw[cX aI]at hm;rw[hm,show Iu v [] ak aE m=m by simp[Iu,jT]];rfl
theorem xS (x:Cs)(hx:Ir x):br Tryz.prog 13 [x.av] (bV (adp x)):=by
 have hb:=hx.size;have hc:=MV x.vars x.body 1 true hx.body aq aq aq;refine v8 Tryz.func13 λw S hg=>?_
 refine aA (hc) ?_;unfold adp;refine af (λn1=>?_) λn1=>?_
 rotate_left;refine bz ?_;rw[show decide (0<=x.vars)=false from n1];rfl;rw[show decide (0<=x.vars)=true from n1];refine af (λn2=>?_) λn2=>?_
 rotate_left;refine bz ?_;rw[show decide (x.vars<=1000)=false from n2];rfl;rw[show decide (x.vars<=1000)=true from n2];refine aA (s7 x.head x.vars hx.head) ?_;refine af (λn3=>?_) λn3=>?_
 rotate_left;refine bz ?_;rw[n3];rfl;rw[n3];refine aA (G2 x.head) ?_;refine af (λn4=>?_) λn4=>?_
 rotate_left;refine bz ?_;rw[n4];rfl;rw[n4];refine af (λn5=>?_) λn5=>?_
 rotate_left;refine bz ?_;rw[show decide (0<=gS x.vars x.body 1 true)=false from n5];rfl;rw[show decide (0<=gS x.vars x.body 1 true)=true from n5];refine bz ?_;rfl
theorem aaE (a b:Tm):decide (ef a=ef b)=(aX a.s b.s&&(((Tm.aa a.l).length:Int)==((Tm.aa b.l).length:Int))):=by rw[Tm.ao,Tm.ao,o5];simp only[decide_eq_true_eq,ef,Prod.mk.injEq,aV,beq_iff_eq,Tm.bn]
theorem VH {l:List Cs}{k:Nat}{c:Cs}(p:Sg)(h:l[k]? = some c):eO (l.drop k) p=(decide (ef c.head=p)||eO (l.drop (k+1)) p):=by exact ahG
theorem VI (has:Sg->Bool)(g:Gl):yQ has g=(((g.k != 1)||has (ef g.t))&&bm has g.a&&bm has g.b&&bm has g.c):=by
 rw[tQ]
 have:(!((g.k==1)&&!has (ef g.t)))=((g.k != 1)||has (ef g.t)):=by
  show _=(!(g.k==1)||has (ef g.t))
  cases (g.k==1)<;>cases has (ef g.t)<;>rfl
 rw[this]
theorem zY (p:List Cs)(hp:p.length<=1000000)(l:List Gl):Gl.aw l<=1000000->br Tryz.prog 14 [.d (.sl (Gl.aa l)),Al p] (bV (bm (eO p) l)):=by
 refine Gl.Cx (p:=λl=>Gl.aw l<=1000000->br Tryz.prog 14 [.d (.sl (Gl.aa l)),Al p] (bV (bm (eO p) l))) (λl eV=>?_) l;intro hl;have a8:=Gl.me l;have mF:=Gl.ao l;have hrp:=Cs.fD p;refine v8 Tryz.func14 λw S hg=>?_
 refine a7 (λk:Nat=>([(0,.d (.sl (Gl.aa l))),(3,.lo 0 0),(5,iV k)],[.box [.d (.sl (Cs.aa p))]])) (λk=>k<=l.length/\bm (eO p) l=bm (eO p) (l.drop k)) (λk=>l.length-k) 0 ⟨bU _,rfl⟩ pI rfl ?_;rintro i ⟨hi,hm⟩;refine ag ?_;refine af (λh=>?_) λh=>?_
 rotate_left;have aI:l.length<=i:=bw h Ex;refine bz ?_;rw[hm,cX aI];rfl;have aI:i<l.length:=bo h (by rw[mF]);have e1:l[i]? = some l[i]:=dG aI;have hmem:=dy aI;rw[List.drop_eq_getElem_cons aI]at hm;generalize l[i]=g at e1 hm hmem;have hsz:=Gl.b8 hmem;have hge:=Gl.size_eq g;obtain⟨sa,sb,sc⟩:=eV g hmem;simp only[bm,VI]at hm;refine cJ (Gl.ay e1) ?_;refine qV (λ_:Unit=>([(0,.d (.sl (Gl.aa l))),(3,.lo 0 0),(5,iV i),(6,bV ((g.k != 1)||eO p (ef g.t)))],[.box [.d (.sl (Cs.aa p))]])) (λ_=>True) rfl ?_ ?_
 ·refine a7 (λx:Nat×Bool=>([(0,.d (.sl (Gl.aa l))),(3,.lo 0 0),(5,iV i),(6,bV x.2),(7,iV x.1)],[.box [.d (.sl (Cs.aa p))]])) (λx=>x.1<=p.length/\((g.k != 1)||eO p (ef g.t))=(x.2||eO (p.drop x.1) (ef g.t))) (λx=>p.length-x.1) (0,g.k != 1) ⟨bU _,rfl⟩ abT rfl ?_;rintro⟨k,f⟩ ⟨hk,hn⟩;refine ag ?_;refine af (λh=>?_) λh=>?_
  rotate_left;have mn:p.length<=k:=bw h (by rw [hrp]);have hn:((g.k != 1)||eO p (ef g.t))=(f||eO (p.drop k) (ef g.t)):=hn;rw[cX mn]at hn;exact ox () trivial ⟨.refl _,.refl _,.refl _,by rw[hn,show eO [] (ef g.t)=false from rfl,Kh];exact .refl _,trivial⟩ rfl;have mn:k<p.length:=bo h (by rw[hrp]);have e2:p[k]? = some p[k]:=dG mn;generalize p[k]=c at e2;have hn:((g.k != 1)||eO p (ef g.t))=(f||eO (p.drop k) (ef g.t)):=hn;rw[VH _ e2,aaE]at hn;refine cJ (Cs.ay e2) ?_;cases f with
  |true=>refine mM ?_;refine WG ?_;exact bb (k+1,true) ⟨mn,hn⟩ gP ⟨.refl _,.refl _,.refl _,(by first|exact .refl _|exact .tt),bJ.wrap gP gP gP,trivial⟩ rfl
  |false=>
   refine gg ?_;refine cJ (Gl.ay e1) ?_;refine af (λn1=>?_) λn1=>?_
   refine cJ (Gl.ay e1) ?_;rw[n1,iu,uq]at hn;refine WG ?_;exact bb (k+1,((Tm.aa c.head.l).length:Int)==((Tm.aa g.t.l).length:Int)) ⟨mn,hn⟩ gP ⟨.refl _,.refl _,.refl _,.refl _,bJ.wrap gP gP gP,trivial⟩ rfl;rw [n1,rA,uq]at hn;refine WG ?_;exact bb (k+1,false) ⟨mn,hn⟩ gP ⟨.refl _,.refl _,.refl _,abW,bJ.wrap gP gP gP,trivial⟩ rfl
 rintro _ _;refine ag ?_;refine af (λn0=>?_) λn0=>?_
 refine bz ?_;rw[hm,show((g.k != 1)||eO p (ef g.t))=false from(wE _).mp n0];rfl;have n0:((g.k != 1)||eO p (ef g.t))=true:=(J9 _).mp n0;refine cJ (Gl.ay e1) ?_;refine aA (sa aq) ?_;refine af (λn1=>?_) λn1=>?_
 refine bz ?_;rw[hm,n0,show bm (eO p) g.a=false by simpa using n1];rfl;have n1:bm (eO p) g.a=true:=by simpa using n1
 refine cJ (Gl.ay e1) ?_;refine aA (sb aq) ?_;refine af (λn2=>?_) λn2=>?_
 refine bz ?_;rw[hm,n0,n1,show bm (eO p) g.b=false by simpa using n2];rfl;have n2:bm (eO p) g.b=true:=by simpa using n2
 refine cJ (Gl.ay e1) ?_;refine aA (sc aq) ?_;refine af (λn3=>?_) λn3=>?_
 refine bz ?_;rw[hm,n0,n1,n2,show bm (eO p) g.c=false by simpa using n3];rfl;have n3:bm (eO p) g.c=true:=by simpa using n3
 rw[n0,n1,n2,n3]at hm;exact bb (i+1) ⟨aI,hm⟩ aq JX rfl
theorem MW (l:List Cs)(hl:∀c∈l,Ir c)(a8:l.length<=1000000):br Tryz.prog 10 [Al l] (.cP [iV (fH l).1,iV (fH l).2]):=by
 have mF:=Cs.fD l;refine v8 Tryz.func10 λw S hg=>?_
 by_cases h2:200<l.length;refine iq rfl rfl (λ_=>?_) Bh <;> refine eW hg.ok 1000 rfl rfl ?_
 refine bz ?_;unfold fH;rw[if_pos h2];rfl;refine iq rfl rfl Hi (λ_=>?_)<;>refine dJ hg.ok rfl rfl ?_
 have hc0:fH l=match fG iX l 0 with
  |some i=>((i:Int),1)
  |none=>match fG (λc=>bm (eO l) c.body) l 0 with
   |some i=>((i:Int),9)
   |none=>(0,0):=by unfold fH;rw[if_neg h2];rfl
 refine qV (λ_:Unit=>([(1,.lo 0 0)],[.box [.d (.sl (Cs.aa l))]])) (λ_=>fG iX l 0=none) rfl ?_ ?_;refine a7 (λk:Nat=>([(1,.lo 0 0),(4,iV k)],[.box [.d (.sl (Cs.aa l))]])) (λk=>k<=l.length/\fG iX l 0=fG iX (l.drop k) k) (λk=>l.length-k) 0 ⟨bU _,rfl⟩ Bj rfl ?_;rintro k ⟨hk,hm⟩;refine ag ?_;refine af (λh=>?_) λh=>?_
 have aI:k<l.length:=bo h Ex;have e1:l[k]? = some l[k]:=dG aI;have hs:=hl _ (dy aI);generalize l[k]=c at e1 hs;rw[oW iX e1]at hm;have dK:=xS c hs;rw[<-LS]at dK;refine cJ (Cs.ay e1) ?_;refine aA (dK) ?_;refine af (λh=>?_) λh=>?_
 have h:iX c=false:=by simpa using h
 rw[if_neg (by rw[h];simp)]at hm;rw[hc0,hm];refine bz ?_;rfl;have h:iX c=true:=by simpa using h
 rw[if_pos h]at hm;exact afa;have aI:l.length<=k:=bw h Ex;rw[cX aI]at hm;exact ox () hm NI rfl;rintro _ hn;rw[hn]at hc0;simp only at hc0;refine ag ?_;refine a7 (λk:Nat=>([(1,.lo 0 0),(5,iV k)],[.box [.d (.sl (Cs.aa l))]])) (λk=>k<=l.length/\fG (λc=>bm (eO l) c.body) l 0=fG (λc=>bm (eO l) c.body) (l.drop k) k) (λk=>l.length-k) 0 ⟨bU _,rfl⟩ Bj rfl ?_;rintro k ⟨hk,hm⟩;refine ag ?_;refine af (λh=>?_) λh=>?_
 have aI:k<l.length:=bo h Ex;have e1:l[k]? = some l[k]:=dG aI;have hs:=hl _ (dy aI);generalize l[k]=c at e1 hs;rw[oW (λc=>bm (eO l) c.body) e1]at hm;refine cJ (Cs.ay e1) ?_;refine aA (zY l a8 c.body hs.size) ?_;refine af (λh=>?_) λh=>?_
 have h:bm (eO l) c.body=false:=by simpa using h
 rw[if_neg (by rw[h];simp)]at hm;rw[hc0,hm];refine bz ?_;rfl;have h:bm (eO l) c.body=true:=by simpa using h
 rw[if_pos h]at hm;exact afa;have aI:l.length<=k:=bw h Ex;rw[cX aI]at hm;rw[hc0,hm];refine bz ?_;rfl
theorem PV (l:List Gl):∀(m d:Int),(∀g∈l,g.Ok)->l.length<=140737488355328->-1000<=d/\d<=1000->br Tryz.prog 23 [.d (.sl (Gl.aa l)),iV m,iV d] (iV (fh l m d)):=by
 refine Gl.Cx (p:=λl=>∀(m d:Int),(∀g∈l,g.Ok)->l.length<=140737488355328->-1000<=d/\d<=1000->br Tryz.prog 23 [.d (.sl (Gl.aa l)),iV m,iV d] (iV (fh l m d))) (λl eV=>?_) l;intro m d dA a8 hd0;have mF:=Gl.ao l;refine ng Tryz.func23 λw S hg=>?_
 by_cases hd:d<1;refine iq rfl rfl (λ_=>?_) Bh <;> refine eW hg.ok 1000 rfl rfl ?_
 refine bz ?_;unfold fh;rw[if_pos hd];rfl;refine iq rfl rfl Hi (λ_=>?_)<;>refine dJ hg.ok rfl rfl ?_
 have hfe:fh l m d=mg l m d:=by unfold fh;rw[if_neg hd]
 rw[hfe];have PT:IntKind.i64.wrap (d-1)=d-1:=pX aq aq;refine a7 (λx:Nat×Int=>([(0,.d (.sl (Gl.aa l))),(1,iV x.2),(2,iV d),(7,iV x.1)],[])) (λx=>x.1<=l.length/\mg l m d=mg (l.drop x.1) x.2 d) (λx=>l.length-x.1) (0,m) ⟨bU _,rfl⟩ Bi rfl ?_;rintro⟨k,q⟩ ⟨hk,hm⟩;have hm:mg l m d=mg (l.drop k) q d:=hm;have hk:k<=l.length:=hk;refine ag ?_;refine af (λh=>?_) λh=>?_
 rotate_left;have aI:l.length<=k:=bw h Ex;refine bz ?_;rw[hm,cX aI];rfl;have aI:k<l.length:=bo h (by rw[mF]);have e1:l[k]? = some l[k]:=dG aI;have hmem:=dy aI;rw[List.drop_eq_getElem_cons aI,mg]at hm;generalize l[k]=g at e1 hm hmem;obtain⟨sa,sb,sc⟩:=eV g hmem;have ho:=dA g hmem;refine af (λh2=>?_) λh2=>?_
 rw [if_pos (of_decide_eq_true h2),LV]at hm;refine cJ (Gl.ay e1) ?_;refine aA (Y1 g.t ho.tm.1 q 200) ?_;refine cJ (Gl.ay e1) ?_;rw[PT];refine aA (sa (g.t.pB q 200) (d-1) ho.ma ho.la aq) ?_;refine cJ (Gl.ay e1) ?_;rw[PT];refine aA (sb (fh g.a (g.t.pB q 200) (d-1)) (d-1) ho.mb ho.lb aq) ?_;refine cJ (Gl.ay e1) ?_;rw[PT];refine aA (sc (fh g.b (fh g.a (g.t.pB q 200) (d-1)) (d-1)) (d-1) ho.mc ho.lc aq) ?_;exact bb (k+1,fh g.c (fh g.b (fh g.a (g.t.pB q 200) (d-1)) (d-1)) (d-1)) ⟨aI,hm⟩ gP ⟨.refl _,.refl _,.refl _,bJ.wrap gP gP gP,trivial⟩ rfl;rw [if_neg (of_decide_eq_false h2)]at hm;refine bz ?_;rw[hm];rfl
theorem JP (l:List Cs)(dA:∀c∈l,c.Ok)(a8:l.length<=140737488355328):br Tryz.prog 9 [Al l] (bV (UQ l)):=by
 have mF:=Cs.fD l;refine v8 Tryz.func9 λw S hg=>?_
 refine qV (λ_:Unit=>([(1,.lo 0 0),(3,iV (nY l 3000))],[.box [.d (.sl (Cs.aa l))]])) (λ_=>True) rfl ?_ ?_
 ·refine a7 (λx:Nat×Int=>([(1,.lo 0 0),(3,iV x.2),(4,iV x.1)],[.box [.d (.sl (Cs.aa l))]])) (λx=>x.1<=l.length/\nY l 3000=nY (l.drop x.1) x.2) (λx=>l.length-x.1) (0,3000) ⟨bU _,rfl⟩ pI rfl ?_;rintro⟨k,q⟩ ⟨hk,hm⟩;have hm:nY l 3000=nY (l.drop k) q:=hm;have hk:k<=l.length:=hk;refine ag ?_;refine af (λh=>?_) λh=>?_
  rotate_left;have aI:l.length<=k:=bw h Ex;refine ox () trivial ⟨.refl _,?_,trivial⟩ rfl;rw[hm,cX aI];exact .refl _;have aI:k<l.length:=bo h (by rw[mF]);have e1:l[k]? = some l[k]:=dG aI;have hmem:=dy aI;rw[List.drop_eq_getElem_cons aI,nY]at hm;generalize l[k]=c at e1 hm hmem;have ho:=dA c hmem;refine af (λh2=>?_) λh2=>?_
  rw [if_pos (of_decide_eq_true h2)]at hm;refine cJ (Cs.ay e1) ?_;refine aA (Y1 c.head ho.head.1 q 200) ?_;refine cJ (Cs.ay e1) ?_;refine aA (PV c.body (c.head.pB q 200) 30 ho.body ho.len aq) ?_;exact bb (k+1,fh c.body (c.head.pB q 200) 30) ⟨aI,hm⟩ gP ⟨.refl _,.refl _,bJ.wrap gP gP gP,trivial⟩ rfl;rw [if_neg (of_decide_eq_false h2)]at hm;refine ox () trivial ⟨.refl _,?_,trivial⟩ rfl;rw[hm];exact .refl _
 rintro _ _;refine ag ?_;unfold UQ;refine af (λh2=>?_) λh2=>?_
 refine bz ?_;rw[show decide (nY l 3000 ≥ 0)=true from h2,iu];rw[show decide (((Cs.aa l).length:Int)<=210)=decide (l.length<=210) by rw[mF];exact decide_eq_decide.2 aq];rfl;refine bz ?_;rw[show decide (nY l 3000 ≥ 0)=false from h2];rfl
end Go.Proofs.YtmjmngigbachdaaGreatDoor

namespace ax
open Go
section
variable {S:Bs} {L:List Tk} {T:TF} {st:JG}
end
end ax

namespace ax
open Go
abbrev ajH:=Tm×List Bs
end ax

namespace ax
open Go
section
variable {S:Bs} {L:List Tk} {T:TF} {st:JG}
end
end ax

namespace ax
open Go
section
variable {S:Bs} {L:List Tk} {T:TF} {st:JG} {m:Nat}
end
end ax

namespace ax
open Go
section
variable {S:Bs} {L:List Tk} {T:TF} {st:JG} {m:Nat}
end
end ax

namespace ax
open Go
section
variable {S:Bs} {L:List Tk} {T T':TF} {st:JG}
end
end ax

namespace ax
open Go
section
variable {S:Bs} {L:List Tk} {T T':TF} {st:JG}
end
end ax

namespace ax
open Go
end ax

namespace ax
open Go
section
variable {S:Bs} {L:List Tk} {T:TF} {st:JG}
end
end ax

namespace ax
open Go
section
variable {S:Bs} {L:List Tk} {T:TF} {st:JG}
end
end ax

namespace ax
open Go
section
variable {S:Bs} {L:List Tk} {T:TF} {st:JG}
end
end ax

namespace ax
open Go
section
variable {S:Bs} {L:List Tk} {T:TF} {st:JG} {B:Nat}
end
end ax

namespace ax
open Go
section
variable {S:Bs} {L:List Tk} {T:TF} {st:JG} {B:Nat}
end
end ax

namespace ax
open Go
end ax

namespace ax
open Go
def ajI (ex:Bool)(d:Int)(a b:Tk):Prop :=(b.kind=a.kind/\b.text=a.text/\b.n=a.n/\b.opn=a.opn/\(a.kind≠0->b.at_=a.at_+d))\/(ex=false/\a.kind=5/\b.kind=4/\b.text=[41])
structure Sim (ex:Bool) (m k δ:Nat) (d:Int) (S1:Bs) (L1:List Tk) (S2:Bs) (L2:List Tk):Prop where
 tok:∀i,(ex=true\/i<=m)->ajI ex d ((L1[i]?).getD aaa) ((L2[i+k]?).getD aaa)
 plc:ex=true->∀i,anY L2 S2.length (i+k)=anY L1 S1.length i+d
 byte:∀i t,L1[i]? = some t->(ex=true\/i<=m)->t.kind=1->decide (S2[(t.at_+d).toNat]? = some 45)=decide (S1[t.at_.toNat]? = some 45)
 ak:δ=0\/(ex=false/\m+δ<=999)
 len:L1.length<=L2.length
structure StR (k:Nat) (d:Int) (a b:JG):Prop where
 at_:b.at_=a.at_+k
 names:b.names=a.names
 e:b.e=a.e
 bad:a.e≠0->b.bad=a.bad+d
section
variable {ex:Bool} {m k δ:Nat} {d:Int} {S1 S2:Bs} {L1 L2:List Tk} {T1 T2:TF} {a b:JG} {S:Bs} {L:List Tk} {T:TF}
variable (H:Sim ex m k δ d S1 L1 S2 L2) (r:StR k d a b)
include H r
end
end ax

namespace ax
open Go
section
variable {ex:Bool} {m k δ:Nat} {d:Int} {S1 S2:Bs} {L1 L2:List Tk} {T1 T2:TF} {a b:JG} (H:Sim ex m k δ d S1 L1 S2 L2)
include H
end
end ax

namespace ax
open Go
end ax

namespace ax
open Go
section
variable {B:Int->Prop} {S:Bs} {L:List Tk} {T:TF} {st:JG}
end
section
variable {S:Bs} {L:List Tk} {T:TF} {st:JG}
end
end ax

namespace ax
open Go
def PW (t:Tm)(i:Nat):Tm:=(t.l[i]?).getD aJ
def MX (st:Int×Int)(c:Int):Int×Int:=if st.2=0 then(st.1,c)else st
def sgC:Sg:=(Tx [44],2)
def sgT:Sg:=(Tx [116,114,117,101],0)
def sgX:Sg:=(Tx [33],0)
def sgN:Sg:=(Tx [92,43],1)
def E4:Nat->Tm->Int×Int->Int->Bool->List Gl×(Int×Int)
 |0,_,st,_,_=>([],st)
 |n+1,t,st,ak,aE=>
  if(if t.k=3 then st else MX st 5).2≠0 then([],if t.k=3 then st else MX st 5)
  else if ef t=sgC then((E4 n (PW t 0) st ak aE).1++(E4 n (PW t 1) (E4 n (PW t 0) st ak aE).2 ak aE).1,(E4 n (PW t 1) (E4 n (PW t 0) st ak aE).2 ak aE).2)
  else if ef t=sgT then([],st)
  else if st.1-1<0\/10<ak then([],MX (st.1-1,st.2) 3)
  else if ef t=sgX then([.mk 3 aJ [] [] []],if aE then(st.1-1,st.2)else MX (st.1-1,st.2) 5)
  else if ef t=sgN then([.mk 5 aJ (E4 n (PW t 0) (st.1-1,st.2) (ak+1) false).1 [] []],(E4 n (PW t 0) (st.1-1,st.2) (ak+1) false).2)
  else if ku (ef t)then([.mk 2 t [] [] []],(st.1-1,st.2))
  else if Ip (ef t)then([],MX (st.1-1,st.2) 5)
  else([.mk 1 t [] [] []],(st.1-1,st.2))
def ajJ (t:Tm):List Gl×Int :=if de t then(if(E4 t.size t (20,0) 1 true).2.2≠0 then([],(E4 t.size t (20,0) 1 true).2.2)else((E4 t.size t (20,0) 1 true).1,0))else([],1)
end ax
namespace ax
open Go
def aq5 (k:Nat):List Tm:=(List.range k).map λi:Nat=>Tm.vT (i:Int)
def DQ (x:ajH):Cs:=⟨.mk 3 (Tx [63]) 0 (aq5 x.2.length),(ajJ x.1).1,x.2.length⟩
end ax

namespace Go.Proofs.YtmjmngigbachdaaGreatDoor
open Go ax Go.Proofs
theorem getD_some {l:List Bs}{k:Nat}(h:k<l.length):l[k]? = some (l.getD k []):=by simp[List.getD,dG h]
end Go.Proofs.YtmjmngigbachdaaGreatDoor

namespace ax
open Go Go.RowKit Go.MapKept
theorem DR {g:G}{pf:Nat->cI}{ad:Array Oper}{Fin:Exit->Act->World->Prop}(hg:di g){dst:Option Nat}{T:Nat}{x y:Operand}{ok:Bool}{ty:Nat}{pos:String}{after:Array Edge}{gd:Option (Nat×Bool)}{az:List Oper}{k:List It}{E:bq}{objs:List Ob}
  {q cq q' pA kt et:Nat} {z z':List Value} {n:ByteArray} {zv:Value} {ds:List (Value×D)} (l:List (ByteArray×AV)) (hl:ds.map (λp=>(p.1,AV.d p.2))=eK l)
  (bt:aH ad.toList E gd=some true) (hd:aQ ⟨g.ty,g.N⟩ dst=true) (hx:ev E x=.d (.map ds)) (hy:ev E y=.d (.v (.string n))) (hT:g.ty T=some ⟨q,cq,z,.map kt et⟩)
  (o7:g.ty kt=some ⟨q',pA,z',.str⟩) (hz:(g.P.info? et).bind (·.zero)=some zv) {v:AV} (hv:jG ok (lZ zv) (dQ l n)=v)
  (hr:R g pf Fin (.dr ad az::k) (bh E dst v) objs):R g pf Fin (.dr ad (⟨dst,.lookup T x y ok,ty,pos,after,gd⟩::az)::k) E objs:=by
 subst hv;have hu:=(hg.ty _ _ o7).sh;simp only[bH]at hu;obtain⟨r,h1,h2⟩:=je (n:=n) (l:=l) (i:=0);refine F3 hg bt hd hx hy hT hu NJ (by rw[hl];exact h1) hz ?_;have:pV ok (lZ zv) r=jG ok (lZ zv) (dQ l n):=by rw[<-h2];cases r<;>rfl
 rw[this];exact hr
end ax

namespace Go.Proofs.YtmjmngigbachdaaGreatDoor
open Go ax Go.Proofs
end Go.Proofs.YtmjmngigbachdaaGreatDoor

namespace ax
open Go
end ax

namespace Go.Proofs.YtmjmngigbachdaaGreatDoor
open Go ax Go.Proofs
theorem G3 {t:Tm}(h:t.bB=true):SmT t:=⟨by have:=(Tm.dM.1 h).2.1;omega,λx e he=>vE (lA h) x e he⟩
theorem MY {s:ByteArray}(h:(rI s).bB=true){q:Cs}(hq:Ir q):Ir (pfC s q):=⟨G3 h,hq.body,hq.size⟩
theorem Jd (q:Cs)(l:List Cs)(hq:Ir q)(hl:∀c∈l,Ir c)(a8:l.length<=1000000):br Tryz.prog 17 [q.av,Al l] (bV (lj q l)):=by
 have hs:=hq.head.1;have hr:=fe q.head aq (λe he=>hq.head.2 1 e he);rw[cV]at hr;have hv:=(tK [q.head] J1).one;have hc:=zX (pfC O6 q) (MY xB.1 hq);have ht:=G1 q.body l hq.size a8;have hf:lj q l=(((fH l).2==0)&&(q.head.k==3)&&aX q.head.s ⟨#[63]⟩&&q.head.bB&&(bP [q.head]).all (λx=>decide (x<q.vars))&&iX (pfC O6 q)&&bm (eO l) q.body):=rfl;rw[hf];clear hf;have Oa:(bP [q.head]).length<=1000000:=vd (O5 q.head) hs;generalize bP [q.head]=V at *;refine ng Tryz.func17 λw S hg=>?_
 refine aA (MU l hl) ?_;refine af (λh1=>?_) λh1=>?_
 refine bz ?_;rw[show((fH l).2==0)=false by simpa using h1];rfl;rw[show((fH l).2==0)=true by simpa using h1,iu];refine af (λh2=>?_) λh2=>?_
 refine bz ?_;rw[show(q.head.k==3)=false by simpa using h2];rfl;rw[show(q.head.k==3)=true by simpa using h2,iu];refine af (λh3=>?_) λh3=>?_
 refine bz ?_;rw[show aX q.head.s ⟨#[63]⟩=false by simpa using h3];rfl;rw[show aX q.head.s ⟨#[63]⟩=true by simpa using h3,iu];refine aA (hr) ?_;refine af (λh4=>?_) λh4=>?_
 refine bz ?_;rw[show q.head.bB=false by simpa using h4];rfl;rw[show q.head.bB=true by simpa using h4,iu];refine aA (hv) ?_;refine a7 (λk:Nat=>([(2,.lo 0 0),(3,.lo 1 0),(38,.d (.sl (cD V))),(39,iV V.length),(40,iV k)],[.box [.d (.v (.int .i64 q.head.k)),.d (.v (.string q.head.s)),.d (.v (.int .i64 q.head.n)),.d (.sl (Tm.aa q.head.l)),.d (.sl (Gl.aa q.body)),.d (.v (.int .i64 q.vars))],.box [.d (.sl (Cs.aa l))]])) (λk=>k<=V.length/\V.all (λx=>decide (x<q.vars))=(V.drop k).all λx=>decide (x<q.vars)) (λk=>V.length-k) 0 ⟨bU _,rfl⟩ ⟨.refl _,.refl _,.refl _,by rw[bN];exact .refl _,.refl _,trivial⟩ rfl ?_;rintro k ⟨hk,hm⟩;refine ag ?_;refine af (λh=>?_) λh=>?_
 have aI:k<V.length:=bo h rfl;have e1:V[k]? = some V[k]:=dG aI;rw[List.drop_eq_getElem_cons aI,pK]at hm;generalize V[k]=x at e1 hm;refine cJ (iE e1) ?_;refine af (λh=>?_) λh=>?_
 refine bz ?_;rw[hm,show decide (x<q.vars)=false by simpa using h];rfl;exact bb (k+1) ⟨aI,by rw[hm,show decide (x<q.vars)=true by simpa using h,iu]⟩ aq JW rfl;have aI:V.length<=k:=bw h rfl;rw[hm,cX aI];refine aA (hc) ?_;refine af (λh5=>?_) λh5=>?_
 refine aA (ht) ?_;refine bz ?_;rw[h5];rfl;refine bz ?_;rw[h5];rfl
def ag0:Nat->cI:=λf=>bif Nat.beq f 18 then .bT 0 else .jz
def aoi (P:List Cs)(q:Cs)(ab:Nat)(fr:Int)(v:Nat)(z:D)(dn:Int)(sl d:Nat)(B:an)(T:List Tr)(S:List Ev):List Ob:=[.box [.d (.sl (Cs.aa P))],uF q,.map (ct (uJ B)),.box [.mp 2,.ow 5 (B.length+d)],.box [.d (.sl (Cs.aa P)),.lo 3 0,.d (.v (.int .i64 q.head.k)),.d (.v (.string q.head.s)),.d (.v (.int .i64 q.head.n)),.d (.sl (Tm.aa q.head.l)),iV fr,.ow 6 v,.d z,iV ab,iV dn,.ow 7 sl],.arr 1 (B.length+d) (cD (B.map (·.1))),.arr 9 v (T.map Tr.row),.arr 4 sl (S.map Ev.row)]
def Qp (P:List Cs)(q:Cs)(ab:Nat)(m:Mo)(d v:Nat):List Ob:=aoi P q ab m.aB v (gE m.now) m.done m.aF.length d m.B m.ai m.aF
def mcR (P:List Cs)(hd:Tm)(ab:Nat)(m:Mo)(d v:Nat):List Ob:=[.box [.d (.sl (Cs.aa P)),.lo 3 0,.d (.v (.int .i64 hd.k)),.d (.v (.string hd.s)),.d (.v (.int .i64 hd.n)),.d (.sl (Tm.aa hd.l)),iV m.aB,.ow 6 v,.d (gE m.now),iV ab,iV m.done,.ow 7 m.aF.length],.box [.mp 2,.ow 5 (m.B.length+d)],.map (ct (uJ m.B)),.arr 1 (m.B.length+d) (cD (m.B.map (·.1))),.arr 9 v (m.ai.map Tr.row),.arr 4 m.aF.length (m.aF.map Ev.row)]
theorem Qq (n:Nat)(P:List Cs)(hd:Tm)(ab:Nat)(m:Mo)(d v:Nat):(dt P hd ab m d v).map (bG (rn [4,3,2,5,6,7] n))=mcR P hd ab m d v:=by
 have e:(bG (rn [4,3,2,5,6,7] n))=aR (dh (rn [4,3,2,5,6,7] n)):=by funext o;cases o<;>simp[bG,aR,gR]
 rw[e];unfold dt s4 mcS mcR;simp only[bM,eR,fm];rw[dS (λt=>rfl)];rcases il m.now with ⟨g,s,o,z,h⟩|h<;>rw[h]<;>rfl
theorem aaF (objs:List Ob)(sl:Nat)(aa:List (List D))(h:dq objs 7=some (.arr 4 sl aa)):iP objs 5 (.cP [.ow 7 sl,.d (.v (.int .i64 0))])=some (.cP [.d (.sl aa),.d (.v (.int .i64 0))]):=by have h1:iP objs 4 (.ow 7 sl)=some (.d (.sl aa)):=r9 h;simp only[iP,uu,h1];rw[h];simp
theorem aaG {m:Mo}{r:Mo×Bool}(h:Grow m r)(hs:r.2=false):m.aF.length+1<=r.1.aF.length:=by obtain⟨X,e,h1,_,_⟩:=h.stop hs;rw[h1,List.length_append,List.length_append];simp;try omega
theorem VJ {l:List Cs}{q:Cs}(hq:Ir q)(hl:∀c∈l,Ir c)(hP:rW l)(hh:HdG q.head)(aoj:lj q l=true)(hv0:0<=q.vars)(hJ:q.body.length<=1000000){ab:Nat}(C5:ab<=300)(hm:MI l.length ab ⟨[],q.vars.toNat,[],bR q.body 0 0 [],0,[]⟩){s:List Ev}(hs:ll l q.head ab ⟨[],q.vars.toNat,[],bR q.body 0 0 [],0,[]⟩ s)(Jz:s.length<=900000000000) :
  br Tryz.prog 7 [Al l,q.av,iV ab] (.cP [.d (.sl (s.map Ev.row)),iV 0]):=by
 have hPl:=hP.len;refine akM Tryz.func7 λw S hg=>?_
 refine To ?_;refine To ?_;have hmf:=Jd q l hq hl aq;rw[aoj]at hmf;refine aA (hmf) ?_;refine r7 ?_;refine yM hg.ok hg.cm ⟨rfl,rfl⟩ (λ_ _ _ _ h=>by cases h) [.box [.d (.sl (Cs.aa l))],uF q,.map [],.box [.mp 2,.d (.v (.slice none 0 0))]] (Vu ⟨[],λ_=>true⟩) cN rfl rfl rfl rfl rfl rfl ?_;refine wo ?_;refine mx 3 1 1 rfl rfl rfl ?_;refine mx 4 7 9 rfl rfl rfl ?_;refine mx 4 11 4 rfl rfl rfl (ag ?_);have kq:=lH q.body 0 0 [] hJ;rw[show gE []=.v (.pointer none)from rfl]at kq;have hvv:((q.vars.toNat:Nat):Int)=q.vars:=by omega
 obtain⟨n0,m0',TV,kh⟩:=hs;have jb:∀z,gE (bR q.body 0 0 [])=z->Qp l q ab ⟨[],q.vars.toNat,[],bR q.body 0 0 [],0,[]⟩ 0 0=aoi l q ab q.vars 0 z 0 0 0 [] [] []:=λz h=>by rw[<-h,<-hvv];rfl
 rcases il (bR q.body 0 0 [])with ⟨g2,s2,o2,z2,hp⟩|hp
 all_goals
  rw[hp]at kq;refine aA (kq) ?_;refine a7 (λx:Nat×Mo×Nat×Nat=>([(8,.lo 4 0)],Qp l q ab x.2.1 x.2.2.1 x.2.2.2)) (λx=>MI l.length ab x.2.1/\∃m',x9 l q.head ab x.1 x.2.1=(m',false)/\m'.aF=s) (λx=>x.1) (n0,⟨[],q.vars.toNat,[],bR q.body 0 0 [],0,[]⟩,0,0) ⟨hm,m0',TV,kh⟩ NI (by rw[jb _ hp];rfl) ?_;rintro⟨n,m,d,v⟩ ⟨hmi,m',hr,hse⟩;simp only at hmi hr;show R _ _ _ _ [(8,.lo 4 0)] (Qp l q ab m d v)
  have a8:m.aF.length+1<=s.length:=by have h:=aaG (GP l q.head ab n m) (by rw[hr]);rw[hr]at h;rw[<-hse];exact h
  obtain⟨d',v',cY⟩:=aaA ⟨[],λ_=>true⟩ hP hh ab hmi aq aq d v;cases n with
  |zero=>rw[x9]at hr;cases hr
  |succ n=>
  rw[x9]at hr;refine ag ?_;cases hb:(fq l q.head ab m).2 with
  |true=>rw[if_pos hb]at hr;rw[hb]at cY;refine ak4 ?_;refine mM ?_;exact bb (n,(fq l q.head ab m).1,d',v') ⟨aat hP hmi hb,m',hr,hse⟩ (by show n<n+1;omega) NI rfl
  |false=>
   rw[if_neg (by rw[hb];simp)]at hr;rw[hb]at cY;have acB:(fq l q.head ab m).1.aF=s:=by rw[<-hse];exact congrArg (λx=>x.1.aF) hr
   refine ak4 ?_;refine gg ?_;refine wj hg 5 rfl (aaF _ _ _ rfl) ?_;rw[<-acB];rfl
end Go.Proofs.YtmjmngigbachdaaGreatDoor

namespace ax
open Go Go.RowKit
def DS:Op->Bool| .call {callee:=.builtin .append,.. }=>true| .build .. => true| .buildSlice .. => true|o=>mQ o
theorem PX {o:Oper}(h:DS o.op=true)(ro:Option Nat)(ρ:Operand->Value)(P:Program)(w:World):(∃v w',(o.semAt ro ρ).run P w=.ok (.value v) w')\/(∃x w',(o.semAt ro ρ).run P w=.halt x w'):=by
 have key:∀s:Sem Value,(∃v w',(do pure (Next.value (<-s)):Sem Next).run P w=.ok (.value v) w')\/(∃x w',(do pure (Next.value (<-s)):Sem Next).run P w=.halt x w'):=λs=>by
  rw[Sem.run_bind];cases s.run P w with
  |ok v w'=>exact .inl ⟨v,w',rfl⟩
  |halt x w'=>exact .inr ⟨x,w',rfl⟩
 have e:o.semAt ro ρ=execOp ρ o:=Oper.semAt_eq ro ρ o (λc hc=>by rw[hc]at h;cases h);rw[e];unfold execOp;cases ho:o.op<;>rw[ho]at h
 case call c=>
  obtain⟨XL,args,ts⟩:=c;cases XL
  case builtin b=>
   cases b<;>first
    |(cases h;done)
    | (simp only [resolve,Sem.run_bind,Sem.run_pure,Result.andThen_ok,invoke,builtin]
       first
       |(have:=key (Builtin.len_ ts o.type (args.map ρ));simp only[Sem.run_bind]at this;exact this)
       |(have:=key (Builtin.append_ ts o.type (args.map ρ));simp only[Sem.run_bind]at this;exact this)
       |exact key _)
  all_goals cases h
 case nilCheck x=>
  have hp:(∃v w',(runtimePanic .nilDeref:Sem Next).run P w=.ok (.value v) w')\/(∃x w',(runtimePanic .nilDeref:Sem Next).run P w=.halt x w'):=.inr ⟨_,_,rfl⟩
  have bind:∀{α:Type} (s:Sem α) (k:α->Sem Next) (w:World),(∀a w',(∃v w2,(k a).run P w'=.ok (.value v) w2)\/(∃x w2,(k a).run P w'=.halt x w2))->(∃v w',(s >>= k).run P w=.ok (.value v) w')\/(∃x w',(s >>= k).run P w=.halt x w'):=λs k w h=>by
   rw[Sem.run_bind];cases s.run P w with
   |halt x w'=>exact .inr ⟨x,w',rfl⟩
   |ok a w'=>exact h a w'
  simp only;split;exact hp;exact hp;exact hp;split;exact hp;refine bind _ _ _ λa w'=>?_
  refine bind _ _ _ λb w'=>?_
  split;exact bind _ _ _ λc w'=>.inl ⟨_,_,rfl⟩
  exact .inl ⟨_,_,rfl⟩;exact .inl ⟨_,_,rfl⟩;exact .inl ⟨_,_,rfl⟩
 all_goals first
  |(cases h;done)
  |exact key _
  |exact .inl ⟨_,_,rfl⟩
section
variable {g:G} {pf:Nat->cI} {ad:Array Oper}
theorem PY {q:Nat}(dA:∀(j:Nat) (o:Oper),ad[j]? = some o->(∀e∈o.after.toList,Region.binds .any e=true->e.on<j)/\∀(i:Nat) (x:Oper),i<j->ad[i]? = some x->gQ pf ad x o=true->Reach ad i j\/j=q){K:bq->List Ob->Prop}(hK:KC K){Q:Exit->Act->World->Prop}(hQ:∀E objs a w,K E objs->fi g E objs a w->Q .normal a w) :
  ∀(ab:Nat) (aM:Array Bool) (R:List Nat) (E:bq) (objs:List Ob) (a:Act) (w:World),aM.size=ad.size->Cl ad aM->(∀i,i∈R↔i<ad.size/\aM.getD i true=false)->R.Pairwise (· < ·)->R.length<=ab->q ∉ R ->
   Dr g pf ad (R.filterMap (ad[·]?)) E objs K->fi g E objs a w->wpAnyIn g.F g.dep g.P .any ad Q ab aM a w:=by
 intro ab;induction ab with
 |zero=>intro aM R E objs a w uM hc hR _ hf hpq hd hs;have:R=[]:=kG.1 aq;subst this;exact alS
 |succ ab ih=>
  intro aM R E objs a w uM hc hR hp hf hpq hd hs;refine⟨λKm=>?_,λi hi=>?_⟩;cases R with
  |nil=>exact hQ E objs a w hd hs
  |cons k R'=>exfalso;exact aly
  obtain ⟨ny,Np,o,ho,ia⟩:=mem_ready.1 hi;obtain⟨pre,post,rfl⟩:=NO ((hR i).2 ⟨ny,Np⟩);have rQ:∀k∈pre,k<i:=λk hk=>(mw.1 hp).2.2 k hk i aD
  have V6:Dr g pf ad (pre.filterMap (ad[·]?)++o::post.filterMap (ad[·]?)) E objs K:=by
   have:(pre++i::post).filterMap (ad[·]?)=pre.filterMap (ad[·]?)++o::post.filterMap (ad[·]?):=by rw[List.filterMap_append,ur,ho]
   rw[<-this];exact hd
  obtain⟨v,objs',lu,fK⟩:=Dr.front hK (λx hx=>by
   obtain⟨k,hk,mE⟩:=yo.1 hx;cases NX:gQ pf ad x o;rfl;exfalso
   have NY:Reach ad k i:=by
    rcases (dA i o ho).2 k x (rQ k hk) mE NX with h|h2
    exact h;exfalso;exact hpq (by rw[<-h2];simp)
   have hl:=kN hc NY (λo' we e he hb=>by rw[ho]at we;cases we;exact ia e he hb);obtain⟨_,mn⟩:=(hR k).1 Ew;have hsz:k<aM.size:=by have:=rQ k hk;omega
   simp only[Array.getD,hsz,dif_pos]at hl mn;rw[hl]at mn;cases mn) V6
  have eX:=lu.step E objs objs' a w (λt _=>.refl _) (.inr (.inr ⟨rfl,rfl⟩)) hs Q;refine wpOpIn_mono (K:=λa' w'=>fi g (bh E o.dst v) objs' a' w') (λa' w' fk=>?_) abV;have kZ:∀(k:Nat) (d:Bool),(aM.setIfInBounds i true).getD k d=if k=i then true else aM.getD k d:=by intro k d;simp only[Hm,TH];by_cases mo:k=i;subst mo;simp[uM,ny];rw[if_neg (λe=>mo e.symm),if_neg mo]
  refine ih _ (pre++post) _ objs' a' w' (by simp[uM]) ?_ ?_ ?_ ?_ ?_ ?_ fk;intro k o' hk sA e he hb;rw[kZ]at hk ⊢;by_cases mo:k=i;subst mo;rw[ho]at sA;cases sA;have:=ia e he hb;split;rfl;exact this;rw [if_neg mo]at hk;have:=hc k o' hk sA e he hb;split;rfl;exact this;intro k;rw[kZ];have hk:=hR k
  have rO:i ∉ pre++post:=by
   intro hm;rcases cu.1 hm with hm|hm
   have:=rQ i hm;omega;have:=(k8.1 (mw.1 hp).2.1).1 i hm;omega
  by_cases mo:k=i;subst mo;simp only[if_true];exact⟨λh=>absurd h rO,λh=>by simp at h⟩;simp only [mo,if_false];rw[<-hk];simp[mo];obtain ⟨p1,p2,p3⟩:=mw.1 hp;exact mw.2 ⟨p1,(k8.1 p2).2,λx hx y hy=>p3 x hx y iS⟩;simp at hf ⊢;omega;exact λhm=>hpq ahq
  simp_all
theorem PZ {F:Fence}{n:Nat}{P:Program}{Q:Exit->Act->World->Prop}{i:Nat}{o:Oper}{ι:Type}(x0:ι)(ho:ad[i]? = some o)(hp:DS o.op=true){K:ι->Act->World->Prop}{a:Act}{w:World}(h:∀x,wpOpIn F n P ad Q i (K x) a w):wpOpIn F n P ad Q i (λa' w'=>∀x,K x a' w') a w:=by
 have h0:=h x0;unfold wpOpIn at *;rw[ho]at h0 ⊢;have h:∀x,_:=λx=>by have:=h x;rw[ho]at this;exact this
 simp only at h h0 ⊢;split;rename_i hw;rw[if_pos hw]at h0;have h:∀x,_:=λx=>by have:=h x;rw[if_pos hw]at this;exact this
 unfold Oper.wpIn at *;refine⟨h0.1,?_⟩;have h0:=h0.2;have h:∀x,_:=λx=>(h x).2
 rcases PX hp F.round a.eval P w with ⟨v,w',e⟩|⟨x,w',e⟩
 rw [e]at h0 ⊢;intro x;have:=h x;rw[e]at this;exact this;rw [e]at h0 ⊢;cases x<;>exact h0
 simp_all
end
end ax
namespace ax
open Go Go.RowKit
section
variable {g:G} {pf:Nat->cI} {ad:Array Oper}
def aaH (pf:Nat->cI)(ad:Array Oper)(oq:Oper)(B:List Nat):Prop:=B=[]\/∃b B' y,B=b::B'/\ad[b]? = some y/\gQ pf ad y oq=true
def ncB (pf:Nat->cI)(ad:Array Oper)(oq:Oper)(k:Nat):Bool:=match ad[k]? with|some y=>!gQ pf ad y oq|none=>true
theorem aaJ {α:Type}{p:α->Bool}:∀{l:List α} {x:α},x∈l.takeWhile p->p x=true
 |y::l,x,h=>by
  rw[List.takeWhile_cons]at h;split at h;rcases cE.1 h with rfl| h
  assumption;exact aaJ h;cases h
theorem P0 {q:Nat}{oq:Oper}(hoq:ad[q]? = some oq)(dA:∀(j:Nat) (o:Oper),ad[j]? = some o->(∀e∈o.after.toList,Region.binds .any e=true->e.on<j)/\(∀(i:Nat) (x:Oper),i<j->ad[i]? = some x->gQ pf ad x o=true->Reach ad i j\/j=q)/\(q<j->Reach ad q j))
  (hps:∀(i j:Nat) (x y:Oper),i<j->j<q->ad[i]? = some x->ad[j]? = some y->gQ pf ad x oq=true->gQ pf ad oq y=true->Reach ad i j)
  {K:bq->List Ob->Prop} (hK:KC K) {Q:Exit->Act->World->Prop} (hQ:∀E objs a w,K E objs->fi g E objs a w->Q .normal a w) (post:List Nat) :
  ∀(ab:Nat) (aM:Array Bool) (R:List Nat) (a:Act) (w:World),(∀i∈R,∀o,ad[i]? = some o->DS o.op=true)->aM.size=ad.size->Cl ad aM->(∀i,i∈R++q::post↔i<ad.size/\aM.getD i true=false)->(R++q::post).Pairwise (· < ·)->(R++q::post).length<=ab ->
   (∀A B:List Nat,R=A++B->aaH pf ad oq B->∃E objs,Dr g pf ad (A.filterMap (ad[·]?)++oq::(B++post).filterMap (ad[·]?)) E objs K/\fi g E objs a w)->wpAnyIn g.F g.dep g.P .any ad Q ab aM a w:=by
 intro ab;induction ab with
 |zero=>intro aM R a w _ _ _ _ _ hf _;simp at hf
 |succ ab ih=>
  intro aM R a w vm uM hc hR hp hf hd;obtain⟨pp1,pp2,pp3⟩:=mw.1 hp;have hRq:∀k∈R,k<q:=λk hk=>pp3 k hk q aD
  have oI:∀k∈post,q<k:=λk hk=>(k8.1 pp2).1 k hk
  have unl:∀k,k∈R++q::post->aM.getD k false=false:=λk hk=>by exact ahF
  refine⟨λKm=>?_,λi hi=>?_⟩;exfalso
  obtain⟨k,R',hkR⟩:∃k R',R++q::post=k::R':=by
   cases R with
   |nil=>exact⟨q,_,rfl⟩
   |cons k r=>exact⟨k,_,rfl⟩
  rw[hkR]at hR hp;exact mB5;obtain ⟨ny,Np,o,ho,ia⟩:=mem_ready.1 hi;have jY:∀k,k∈R++q::post->Reach ad k i->False:=λk hk hr=>by have hl:=kN hc hr (λo' we e he hb=>by rw[ho]at we;cases we;exact ia e he hb);rw[unl k hk]at hl;cases hl
  have hmem:=(hR i).2 ⟨ny,Np⟩;rcases cu.1 hmem with hmem|hmem
  obtain ⟨RA,RB,rfl⟩:=NO hmem;have hiq:i<q:=hRq i hmem;have hRA:∀k∈RA,k<i:=λk hk=>(mw.1 pp1).2.2 k hk i aD
  have NX:∀k x,k∈RA->ad[k]? = some x->gQ pf ad x o=false:=λk x hk mE=>by
   cases wc:gQ pf ad x o;rfl;exfalso;rcases (dA i o ho).2.1 k x (hRA k hk) mE wc with h|h
   exact jY k Ew h;omega
  have hfm:∀{A:List Nat},(∀k∈A,k∈RA)->∀x∈A.filterMap (ad[·]?),gQ pf ad x o=false:=λhA x hx=>by obtain⟨k,hk,mE⟩:=yo.1 hx;exact NX k x (hA k hk) mE
  have H:∀x:{p:List Nat×List Nat // RA++RB=p.1++p.2/\aaH pf ad oq p.2},∃E1 o1,Dr g pf ad (x.1.1.filterMap (ad[·]?)++oq::(x.1.2++post).filterMap (ad[·]?)) E1 o1 K/\wpOpIn g.F g.dep g.P ad Q i (λa' w'=>fi g E1 o1 a' w') a w:=by
   rintro⟨⟨A,B⟩,Iv,hB⟩;have one:∀(a':List Nat),A=RA++a'->RB=a'++B->∃E1 o1,Dr g pf ad (A.filterMap (ad[·]?)++oq::(B++post).filterMap (ad[·]?)) E1 o1 K/\wpOpIn g.F g.dep g.P ad Q i (λa' w'=>fi g E1 o1 a' w') a w:=λa' h1 h2=>by obtain⟨E,objs,EC,hs⟩:=hd (RA++i::a') B Fi hB;rw[List.filterMap_append,ur,ho,List.append_assoc]at EC;obtain⟨v,objs',lu,fK⟩:=Dr.front hK (hfm λk hk=>hk) EC;refine⟨_,objs',by rw[h1,List.filterMap_append,List.append_assoc];exact fK,?_⟩;unfold wpOpIn;rw[ho];exact lu.step E objs objs' a w (λt _=>.refl _) (.inr (.inr ⟨rfl,rfl⟩)) hs Q
   rcases List.append_eq_append_iff.1 Iv with ⟨a',h1,h2⟩|⟨c',h1,h2⟩
   exact one a' h1 h2;cases c' with
   |nil=>exact one [] (by simpa using h1.symm) (by simpa using h2.symm)
   |cons b c'=>
    simp only at h2 hB
    have hB2:aaH pf ad oq ((b::c')++i::RB):=by
     rcases hB with h|⟨b2,B',y,h3,h4,h5⟩
     rw[h2]at h;cases h;rw [h2]at h3; cases h3;exact .inr ⟨b,_,y,rfl,h4,h5⟩
    obtain⟨E,objs,EC,hs⟩:=hd A ((b::c')++i::RB) Et hB2;have e:A.filterMap (ad[·]?)++oq::((b::c')++i::RB++post).filterMap (ad[·]?)=(A.filterMap (ad[·]?)++oq::(b::c').filterMap (ad[·]?))++o::(RB++post).filterMap (ad[·]?):=by rw[List.append_assoc,List.filterMap_append,jo,ur (a:=i),ho];simp
    rw[e]at EC
    obtain⟨v,objs',lu,fK⟩:=Dr.front hK (λx hx=>by
     rcases cu.1 hx with hx|hx
     exact hfm (λk hk=>by rw[h1];simp[hk]) x hx;rcases cE.1 hx with rfl| hx
     cases wc:gQ pf ad x o;rfl;exfalso;rcases hB2 with h|⟨b2,B',y,h3,h4,h5⟩
     cases h;cases h3;exact jY b Et (hps b i y o (hRA b Et) hiq h4 ho h5 wc);exact hfm (λk hk=>by rw[h1];exact cu.2 (.inr hk)) x hx) EC
    refine⟨_,objs',by
     show Dr g pf ad (A.filterMap (ad[·]?)++oq::(B++post).filterMap (ad[·]?)) _ _ K
     rw[h2,List.append_assoc,List.filterMap_append];rw[List.append_assoc,jo]at fK;exact fK,?_⟩
    unfold wpOpIn;rw[ho];exact lu.step E objs objs' a w (λt _=>.refl _) (.inr (.inr ⟨rfl,rfl⟩)) hs Q
  have ez:=PZ (F:=g.F) (n:=g.dep) (P:=g.P) (Q:=Q) (⟨(RA++RB,[]),by simp,.inl rfl⟩:{p:List Nat×List Nat // RA++RB=p.1++p.2/\aaH pf ad oq p.2}) ho (vm i aD o ho) (K:=λx a' w'=>fi g (H x).choose (H x).choose_spec.choose a' w') (λx=>(H x).choose_spec.choose_spec.2);refine wpOpIn_mono (λa' w' fk=>?_) ez;have kx:=kf (pre:=RA) (post:=RB++q::post) uM hc WT TB ny ho ia;refine ih _ (RA++RB) a' w' (λj hj o' we=>vm j ahr o' we) kx.1 kx.2.1 WR WV JZ λA B Iv hB=>?_
  exact⟨_,_,(H ⟨(A,B),Iv,hB⟩).choose_spec.choose_spec.1,fk ⟨(A,B),Iv,hB⟩⟩;rcases cE.1 hmem with hiq| hmem
  subst hiq;rw[hoq]at ho;cases ho;have hAB:R=R.takeWhile (ncB pf ad oq)++R.dropWhile (ncB pf ad oq):=List.takeWhile_append_dropWhile.symm
  have hB:aaH pf ad oq (R.dropWhile (ncB pf ad oq)):=by
   cases hdw:R.dropWhile (ncB pf ad oq)with
   |nil=>exact .inl rfl
   |cons b B'=>
    right;have hb:ncB pf ad oq b=false:=by have:=List.head_dropWhile_not (ncB pf ad oq) (show R.dropWhile (ncB pf ad oq)≠[] by rw[hdw];simp);simpa[hdw]using this
    unfold ncB at hb;cases wM:ad[b]? with
    |none=>rw[wM]at hb;cases hb
    |some y=>rw[wM]at hb;exact⟨b,B',y,rfl,wM,by simpa using hb⟩
  obtain⟨E,objs,EC,hs⟩:=hd _ _ hAB hB;obtain⟨v,objs',lu,fK⟩:=Dr.front hK (λx hx=>by obtain⟨k,hk,mE⟩:=yo.1 hx;have:=aaJ hk;unfold ncB at this;rw[mE]at this;simpa using this) EC;have eX:=lu.step E objs objs' a w (λt _=>.refl _) (.inr (.inr ⟨rfl,rfl⟩)) hs Q;refine wpOpIn_mono (K:=λa' w'=>fi g (bh E oq.dst v) objs' a' w') (λa' w' fk=>?_) (by unfold wpOpIn;rw[hoq];exact eX);have kx:=kf (pre:=R) (post:=post) uM hc hR hp ny hoq ia;have e:(R++post).filterMap (ad[·]?)=(R.takeWhile (ncB pf ad oq)).filterMap (ad[·]?)++(R.dropWhile (ncB pf ad oq)++post).filterMap (ad[·]?):=by rw[<-List.filterMap_append,<-List.append_assoc,<-hAB]
  refine PY (λj o ho=>⟨(dA j o ho).1,(dA j o ho).2.1⟩) hK hQ ab _ (R++post) _ objs' a' w' kx.1 kx.2.1 kx.2.2.1 kx.2.2.2 JZ (λh=>?_) (by rw[e];exact fK) fk;rcases cu.1 h with h|h
  have:=hRq _ h;omega;have:=oI _ h;omega;exact(jY q aD ((dA i o ho).2.2 (oI i hmem))).elim
end
end ax
namespace ax
open Go Go.RowKit
section
variable {g:G} {pf:Nat->cI} {ad:Array Oper}
def DT (q:Nat) (oq:Oper) (pf:Nat->cI) (ad:Array Oper):List Oper->List Nat->List Oper->Bool
 |_,_,[]=>true
 |dz,acc,o::r=>
  (o.after.toList.all λe=>!Region.binds .any e||Nat.blt e.on (len dz)) &&
  (dz.zipIdx.all λx=>!gQ pf ad x.1 o||(fV acc o).testBit x.2||Nat.beq (len dz) q) &&
  (Nat.ble (len dz) q||(fV acc o).testBit q) &&
  (dz.zipIdx.all λx=>!gQ pf ad x.1 oq||!gQ pf ad oq o||(fV acc o).testBit x.2||Nat.ble q (len dz)) &&
  DT q oq pf ad (dz++[o]) (acc++[fV acc o]) r
theorem zZ {q:Nat}{oq:Oper}:∀(az dz:List Oper) (acc:List Nat),ad.toList=dz++az->acc.length=dz.length->(∀j i m,acc[j]? = some m->m.testBit i=true->Reach ad i j)->DT q oq pf ad dz acc az=true ->
  ∀(j:Nat) (o:Oper),dz.length<=j->ad[j]? = some o->(∀e∈o.after.toList,Region.binds .any e=true->e.on<j)/\(∀(i:Nat) (x:Oper),i<j->ad[i]? = some x->gQ pf ad x o=true->Reach ad i j\/j=q)/\(q<j->Reach ad q j)/\(∀(i:Nat) (x:Oper),i<j->j<q->ad[i]? = some x->gQ pf ad x oq=true->gQ pf ad oq o=true->Reach ad i j)
 |[],dz,acc,h,_,_,_,j,o,hj,ho=>by grind
 |o'::r,dz,acc,h,hl,hr,hg,j,o,hj,ho=>by
  simp only[DT,aV]at hg;obtain⟨⟨⟨⟨h1,h2⟩,h4⟩,h5⟩,h3⟩:=hg;have Hn:ad[dz.length]? = some o':=by rw[<-Array.getElem?_toList,h];simp
  have hm:∀i,(fV acc o').testBit i=true->Reach ad i dz.length:=λi hi=>by exact ach
  rcases ab7 hj with hj|hj
  subst hj;rw[Hn]at ho;cases ho;have hmem:∀(i:Nat) (x:Oper),i<dz.length->ad[i]? = some x->(x,i)∈dz.zipIdx:=λi x hi hx=>by rw[Xe];rw[<-Array.getElem?_toList,h,mv hi]at hx;exact hx
  refine⟨λe he Rq=>?_,λi x hi hx hc=>?_,λhq=>?_,λi x hi hq hx wc Hs=>?_⟩;have:=fB.1 h1 e he;rw[bp]at this;simp_all;have:=fB.1 h2 _ (hmem i x hi hx);simp only[hc,u9,uq,oy]at this;rcases this with this|g2
  simp_all;rw[bp]at g2;simp_all;simp only [oy,bp,J8]at h4;grind;have:=fB.1 h5 _ (hmem i x hi hx);simp only[wc,Hs,u9,uq,oy,bp,J8]at this;grind;refine zZ r (dz++[o']) (acc++[fV acc o']) (by rw [h]; simp) (by simp [hl]) (λj i m hj hi=>?_) h3 j o J4 ho;grind
end
end ax
namespace ax
open Go Go.RowKit
section
variable {g:G} {pf:Nat->cI} {ad:Array Oper}
def ajK (m q:Nat)(oq:Oper)(l:List Oper):List Oper:=l.take m++oq::((l.drop m).take (q-m)++l.drop (q+1))
theorem ajL (hg:di g){q:Nat}{oq:Oper}(hoq:ad[q]? = some oq)(dA:DT q oq pf ad [] [] ad.toList=true){K:bq->List Ob->Prop}(hK:KC K){Q:Exit->Act->World->Prop}(hQ:∀E objs a w,K E objs->fi g E objs a w->Q .normal a w)
  {E:bq} {objs:List Ob} (vm:((ad.toList.take q).all λo=>DS o.op)=true) (hd:∀m,m<=q->(m=q\/∃y,ad[m]? = some y/\gQ pf ad y oq=true)->Dr g pf ad (ajK m q oq ad.toList) E objs K) {a:Act} {w:World} (hs:fi g E objs a w) (id:Nat):(Code.region id ad true).wpIn g.F g.dep g.P Q a w:=by
 refine wpIn_region_any hg.mixed ?_;have hq:q<ad.size:=(Ab.1 hoq).1;have hsz:ad.toList.length=ad.size:=by simp
 have SI:=zZ (pf:=pf) (ad:=ad) ad.toList [] [] rfl rfl aD dA;have f:∀a n,a+n<=ad.size->(List.range' a n).filterMap (ad[·]?)=(ad.toList.drop a).take n:=λa n h=>by have:=Lf ad.toList a n aq;simp_all
 have nI:List.range ad.size=List.range' 0 q++q::List.range' (q+1) (ad.size-(q+1)):=by
  obtain⟨m,hm⟩:∃m,ad.size=q+(1+m):=⟨ad.size-(q+1),by omega⟩;have e1:ad.size-(q+1)=m:=by omega
  rw[e1,TK,hm,<-List.range'_append,<-List.range'_append];simp_all
 refine P0 hoq (λj o ho=>⟨(SI j o fO ho).1,(SI j o fO ho).2.1,(SI j o fO ho).2.2.1⟩) (λi j x y Up hjq hx hy h1 h2=>(SI j y fO hy).2.2.2 i x Up hjq hx h1 h2) hK hQ (List.range' (q+1) (ad.size-(q+1))) ad.size (Array.replicate ad.size false) (List.range' 0 q) a _ ?_ aD ?_ ?_ ?_ ?_ ?_;grind;intro k o hk;simp[Array.getD]at hk;intro i;rw[<-nI];simp only[Ka,Array.getD,ahA];simp_all;rw[<-nI];exact TJ;grind;intro A B Iv hB;obtain⟨m,hm,rfl,rfl⟩:=List.range'_eq_append_iff.1 Iv;rw[Nat.mul_one]at hB ⊢;refine⟨E,objs,?_,hs.drew⟩
 have:=hd m hm (by
  rcases hB with h|⟨b,B',y,h1,h2,h3⟩
  left;have:=congrArg List.length h;simp at this;omega;right
  have hb:b=0+m:=by
   have:(List.range' (0+m) (q-m)).head? = some b:=by rw[h1];rfl
   cases hqm:q-m with
   |zero=>rw[hqm]at this;simp at this
   |succ n=>rw[hqm,NP]at this;simp at this;omega
  exact⟨y,by rw[<-h2,hb];simp,h3⟩)
 unfold ajK at this;rw[List.filterMap_append,f 0 m aq,f (0+m) (q-m) aq,f (q+1) _ aq,Xd];rw[Fm (i:=ad.size-(q+1)) aD];simp_all
end
end ax
namespace ax
open Go Go.RowKit
section
variable {g:G} {pf:Nat->cI} {ad:Array Oper}
theorem aee {Fin:Exit->Act->World->Prop}(hg:di g)(q:Nat)(oq:Oper){id:Nat}{k:List It}{E:bq}{objs:List Ob}(hoq:ad[q]? = some oq)(hx:DT q oq pf ad [] [] ad.toList=true)(vm:((ad.toList.take q).all λo=>DS o.op)=true)(h:∀m,m<=q->(m=q\/∃y,ad[m]? = some y/\gQ pf ad y oq=true)->R g pf Fin (.dr ad (ajK m q oq ad.toList)::k) E objs):R g pf Fin (.code (.region id ad true)::k) E objs:=by
 rintro⟨ov,ho⟩;intro a w hs;simp only[KP];have hQ:∀E objs a w,RK g Fin k E objs->fi g E objs a w->KP g Fin k .normal a w:=λ_ _ a w hr hs=>hr a w hs
 exact ajL hg hoq hx (BL k) hQ vm (λm h1 h2=>by have:=h m h1 h2 ho;omega) hs id
end
end ax

namespace Go.Proofs.YtmjmngigbachdaaGreatDoor
open Go ax Go.Proofs
def aok:Nat->cI:=λf=>bif Nat.beq f 9 then .look 0 else bif Nat.beq f 4900100001 then .bT 100 else bif Nat.beq f 4000000007 then .Fw else .still
def DU (l:List Cs)(q:Cs):Bool:=UQ (l++[q])&&decide ((l.length:Int)<=60)
theorem Bd (l:List Cs):∀r∈Cs.aa l,r.length=6:=λr hr=>by unfold Cs.aa at hr;obtain⟨c,_,rfl⟩:=gm.1 hr;rfl
theorem Je (l:List Cs)(q:Cs)(dA:∀c∈l,c.Ok)(hq:q.Ok)(hb:l.length*88<=140737488351232):br Tryz.prog 4 [Al l,q.av] (bV (DU l q)):=by
 have dK:=Cs.fD l
 have ez:∀c∈l++[q],c.Ok:=λc hc=>by
  rcases cu.1 hc with hc|hc
  exact dA c hc;rw[eu.1 hc];exact hq
 refine br.ej (pf:=aok) gK mixed Tryz.func4 rfl da da (by simp[Tryz.ntmps4]) λw S hg=>?_
 refine ag ?_;refine aee hg.ok 8 _ rfl da da ?_;intro m hm hB
 have h3:m=3\/m=6\/m=8:=by
  rcases hB with h|⟨y,h1,h2⟩
  exact .inr (.inr h);have:m=0\/m=1\/m=2\/m=3\/m=4\/m=5\/m=6\/m=7\/m=8:=by omega
  rcases this with rfl|rfl|rfl|rfl|rfl|rfl|rfl|rfl|rfl<;>first|(left;rfl)|(right;left;rfl)|(right;right;rfl)|(cases h1;exact absurd (h2.symm.trans (show _=false by kernel_rfl)) eA)
 clear hB hm;rcases h3 with rfl|rfl|rfl
 refine ag ?_;refine ahi ?_;refine ahc ?_;refine ahd ?_;unfold DU;refine af (λh=>?_) λh=>?_
 refine bz ?_;rw[h,dK];rfl;refine bz ?_;rw[h];rfl;refine ag ?_;refine ahi ?_;refine ahc ?_;refine ahd ?_;unfold DU;refine af (λh=>?_) λh=>?_
 refine bz ?_;rw[h,dK];rfl;refine bz ?_;rw[h];rfl;refine ag ?_;refine ahi ?_;refine ahc ?_;refine ahd ?_;unfold DU;refine af (λh=>?_) λh=>?_
 refine bz ?_;rw[h,dK];rfl;refine bz ?_;rw[h];rfl
end Go.Proofs.YtmjmngigbachdaaGreatDoor

namespace ax
open Go Tm
mutual
def nG:Gl->Nat| .mk _ _ a b c=>1+y2 a+y2 b+y2 c
def y2:List Gl->Nat|[]=>0|g::r=>nG g+y2 r
end
theorem xT (g:Gl):nG g=1+y2 g.a+y2 g.b+y2 g.c:=by cases g;rw[nG];rfl
theorem xU:∀l:List Gl,l.length<=y2 l|[]=>bU _|g::r=>by rw[y2,dx];have:=xU r;rw[xT];omega
theorem aol (g:Gl):nbG g<=nG g/\Dz g<=4*nG g:=by
 induction g using Gl.ind with
 |_ g ha hb hc=>
 have key:∀l:List Gl,(∀x∈l,nbG x<=nG x/\Dz x<=4*nG x)->uE l<=y2 l/\gH l<=4*y2 l:=λl=>by
  induction l with
  |nil=>intro _;simp[uE,y2,gH]
  |cons x r ih=>
   intro h;have h1:=h x aD;have h2:=ih λy hy=>h y iS
   rw[uE,y2,gH];omega
 have h1:=key _ ha;have h2:=key _ hb;have h3:=key _ hc;rw[PO,xT,j4];grind
theorem P3 (l:List Gl):uE l<=y2 l/\gH l<=4*y2 l:=by
 induction l with
 |nil=>simp[uE,y2,gH]
 |cons x r ih=>have:=aol x;rw[uE,y2,gH];omega
theorem Jf {v:Int}{t:Tm}(hf:t.Fit)(h:q6 v t=true):GT t/\∀u∈cF t,0<=u/\u<v.toNat:=by
 unfold q6 at h;rw[aV,cV]at h;refine⟨⟨h.1,hf⟩,λu hu=>?_⟩;have Ek:cv [t]=true:=fz.2 λx hx=>by rw[eu.1 hx];exact(dM.1 h.1).1
 have h1:=fB.1 h.2 u ((kj Ek).2 (by simpa[ep]using hu));have h2:=Tm.lz t (dM.1 h.1).1 u hu;grind
theorem xW {a b c:List Gl}(h:fX a b c=true):a=[]/\b=[]/\c=[]:=by unfold fX at h;simp_all
theorem aaK (v:Int)(g:Gl):∀(left ak:Int) (aE:Bool),(iW v g left ak aE).2<=left:=by
 induction g using Gl.ind with
 |_ g ha hb hc=>
 have key:∀l:List Gl,(∀x∈l,∀(left ak:Int) (aE:Bool),(iW v x left ak aE).2<=left)->∀(left ak:Int) (aE:Bool),(cA v l left ak aE).2<=left:=λl=>by
  induction l with
  |nil=>intro _ left ak aE;rw[cA];exact kH _
  |cons x r ih=>
   intro h left ak aE;have h1:=h x aD (left-1) ak aE;rw[cA];split;show(iW v x (left-1) ak aE).2<=left;omega
   have:=ih (λy hy=>h y (by simp [hy])) (iW v x (left-1) ak aE).2 ak aE;omega
 intro left ak aE;have A:=key _ ha;have B:=key _ hb;have C:=key _ hc;rw[kR];grind
theorem G4 (v:Int):∀(l:List Gl) (left ak:Int) (aE:Bool),(cA v l left ak aE).2<=left|[],left,ak,aE=>by rw[cA];omega|x::r,left,ak,aE=>by have h1:=aaK v x (left-1) ak aE;rw[cA];split;omega;have:=G4 v r (iW v x (left-1) ak aE).2 ak aE;omega
def E5 (g:Gl):Prop:=g.t.Fit
theorem ajM (v:Int)(g:Gl):∀(left ak:Int) (aE:Bool),left<=20->ka E5 g->(iW v g left ak aE).1=true->0<=(iW v g left ak aE).2->ka (GlF v.toNat) g/\(nG g:Int)-1<=left-(iW v g left ak aE).2:=by
 induction g using Gl.ind with
 |_ g ha hb hc=>
 have key:∀l:List Gl,(∀x∈l,∀(left ak:Int) (aE:Bool),left<=20->ka E5 x->(iW v x left ak aE).1=true->0<=(iW v x left ak aE).2->ka (GlF v.toNat) x/\(nG x:Int)-1<=left-(iW v x left ak aE).2) ->
   ∀(left ak:Int) (aE:Bool),left<=20->cL E5 l->(cA v l left ak aE).1=true->0<=(cA v l left ak aE).2->cL (GlF v.toNat) l/\(y2 l:Int)<=left-(cA v l left ak aE).2:=λl=>by
  induction l with
  |nil=>intro _ left ak aE _ _ _ _;rw[cL,y2,cA];exact⟨trivial,by simp⟩
  |cons x r ih=>
   intro h left ak aE hle lY h1 h2;rw[cL]at lY ⊢;rw[cA]at h1 h2 ⊢;split at h1;cases h1;rename_i hc;rw[if_neg hc]at h2 ⊢;simp only[oy,wE,decide_eq_true_eq,not_or,Bool.not_eq_false]at hc;obtain⟨k1,k2⟩:=h x aD (left-1) ak aE aq lY.1 hc.1.1 aq;have k3:(iW v x (left-1) ak aE).2<=20:=by have:=xT x;omega
   obtain⟨k4,k5⟩:=ih (λy hy=>h y iS) (iW v x (left-1) ak aE).2 ak aE k3 lY.2 h1 h2;refine⟨⟨k1,k4⟩,?_⟩;rw[y2];push_cast;omega
 intro left ak aE hle lY h1 h2;rw[ik]at lY ⊢;rw[kR]at h1 h2 ⊢;have nil:∀{a b c:List Gl},fX a b c=true->a.length<=20/\b.length<=20/\c.length<=20:=λh=>by obtain⟨rfl,rfl,rfl⟩:=xW h;simp
 by_cases c1:g.k=1;rw [if_pos c1]at h1 h2 ⊢;simp only[aV]at h1;obtain⟨⟨n1,n2⟩,n3⟩:=h1;obtain⟨q1,q2⟩:=Jf lY.1 n2;obtain⟨ea,eb,ec⟩:=xW n1;unfold nV at n3;simp only[aV,beq_iff_eq]at n3;refine⟨⟨⟨λ_=>⟨q1,n3.1.1⟩,λ_=>q2,λh=>by omega,nil n1⟩,?_⟩,?_⟩;rw[ea,eb,ec];simp[cL];rw[xT,ea,eb,ec];simp[y2];rw[if_neg c1]at h1 h2 ⊢;by_cases c2:g.k=2;rw [if_pos c2]at h1 h2 ⊢;simp only[aV,beq_iff_eq]at h1;obtain⟨⟨⟨n1,n2⟩,n3⟩,n4⟩:=h1;obtain⟨q1,q2⟩:=Jf lY.1 n2;obtain⟨ea,eb,ec⟩:=xW n1;refine⟨⟨⟨λ_=>⟨q1,n3⟩,λ_=>q2,λ_=>n4,nil n1⟩,?_⟩,?_⟩;rw[ea,eb,ec];simp[cL];rw[xT,ea,eb,ec];simp[y2];rw[if_neg c2]at h1 h2 ⊢;have VK:∀{X:Prop},(g.k=1\/g.k=2)->X:=λh=>absurd h aq
 by_cases c3:g.k=3;rw [if_pos c3]at h1 h2 ⊢;simp only[aV]at h1;obtain⟨ea,eb,ec⟩:=xW h1.1.1;refine⟨⟨⟨λh=>VK h,λh=>VK h,λh=>absurd h c2,nil h1.1.1⟩,?_⟩,?_⟩;rw[ea,eb,ec];simp[cL];rw[xT,ea,eb,ec];simp[y2];rw[if_neg c3]at h1 h2 ⊢;have hla:=xU g.a;have hlb:=xU g.b;have hlc:=xU g.c;by_cases c4:g.k=4;rw [if_pos c4]at h1 h2 ⊢;by_cases d0:iy g.t=true;rw [if_pos d0]at h1 h2 ⊢;by_cases d1:(cA v g.a left (ak+1) false).1=true;rw [if_pos d1]at h1 h2 ⊢;by_cases d2:(cA v g.b (cA v g.a left (ak+1) false).2 (ak+1) aE).1=true;rw [if_pos d2]at h1 h2 ⊢;have mono:=G4 v;obtain⟨k1,k2⟩:=key g.c hc _ (ak+1) aE (by have:=mono g.a left (ak+1) false;have:=mono g.b (cA v g.a left (ak+1) false).2 (ak+1) aE;omega) lY.2.2.2 h1 h2;obtain⟨k3,k4⟩:=key g.b hb _ (ak+1) aE (by have:=mono g.a left (ak+1) false;omega) lY.2.2.1 d2 aq;obtain⟨k5,k6⟩:=key g.a ha _ (ak+1) false hle lY.2.1 d1 aq;refine⟨⟨⟨λh=>VK h,λh=>VK h,λh=>absurd h c2,by omega,by omega,by omega⟩,k5,k3,k1⟩,?_⟩;rw[xT];push_cast;omega;rw[if_neg d2]at h1;cases h1;rw[if_neg d1]at h1;cases h1;rw[if_neg d0]at h1;cases h1;rw[if_neg c4]at h1 h2 ⊢;by_cases c5:g.k=5;rw [if_pos c5]at h1 h2 ⊢;split at h1;rename_i hh;rw[if_pos hh]at h2 ⊢;simp only[aV,decide_eq_true_eq]at hh;have eb:g.b=[]:=kG.1 aq;have ec:g.c=[]:=kG.1 aq;obtain⟨k5,k6⟩:=key g.a ha _ (ak+1) false hle lY.2.1 h1 h2;refine⟨⟨⟨λh=>VK h,λh=>VK h,λh=>absurd h c2,by omega,by rw[eb];simp,by rw[ec];simp⟩,k5,by rw[eb,cL];trivial,by rw[ec,cL];trivial⟩,?_⟩;rw[xT,eb,ec];simp only[y2];omega;cases h1;simp_all
theorem A8 (v:Int):∀(l:List Gl) (left ak:Int) (aE:Bool),left<=20->0<=left->cL E5 l->(cA v l left ak aE).1=true->cL (GlF v.toNat) l/\(y2 l:Int)<=left-(cA v l left ak aE).2/\0<=(cA v l left ak aE).2
 |[],left,ak,aE,_,h0,_,_=>by rw[cL,y2,cA];simp_all
 |x::r,left,ak,aE,hle,h0,lY,h1=>by
  rw[cL]at lY ⊢;rw[cA]at h1 ⊢;split at h1;cases h1;rename_i hc;rw[if_neg hc];simp only[oy,wE,decide_eq_true_eq,not_or,Bool.not_eq_false]at hc;obtain⟨k1,k2⟩:=ajM v x (left-1) ak aE aq lY.1 hc.1.1 aq;have k3:(iW v x (left-1) ak aE).2<=20:=by have:=xT x;omega
  obtain⟨k4,k5,k6⟩:=A8 v r (iW v x (left-1) ak aE).2 ak aE k3 aq lY.2 h1;refine⟨⟨k1,k4⟩,?_,k6⟩;rw[y2];omega
structure rl (c:Cs):Prop where
 head:c.head.Fit
 body:cL E5 c.body
theorem aom {c:Cs}(hf:rl c)(h:iX c=true):ajz c:=by unfold iX at h;simp only[aV,decide_eq_true_eq]at h;obtain⟨⟨⟨⟨h1,h2⟩,h3⟩,_⟩,h5⟩:=h;obtain⟨g1,g2⟩:=Jf hf.head h3;obtain⟨k1,k2,k3⟩:=A8 c.vars c.body 20 1 true aq aq hf.body h5;have h6:=xU c.body;have h7:=P3 c.body;exact⟨g1,g2,by omega,h1,k1,by omega,by omega,by omega⟩
theorem agR {l:List Cs}(hf:∀c∈l,rl c)(h:(fH l).2=0):rW l:=by obtain⟨h1,h2,_⟩:=(tS l).1 h;exact⟨h1,λc hc=>aom (hf c hc) (h2 c hc)⟩
theorem aef {l:List Cs}{q:Cs}(hf:rl q)(h:lj q l=true){n ab:Nat}(C5:ab<=90):MI n ab ⟨[],q.vars.toNat,[],bR q.body 0 0 [],0,[]⟩:=by
 have hq:=ql h;obtain⟨k1,k2,k3⟩:=A8 q.vars q.body 20 1 true aq aq hf.body hq.body;have h7:=P3 q.body;have hv:=hq.agE;have n0:zV []=0:=by simp[zV,uE]
 have g0:nc []=0:=by simp[nc,gH]
 have m1:(ab-0)*1160<=90*1160:=Fo _ aq;have m2:(ab-0)*90<=90*90:=Fo _ aq;refine⟨.nil _,?_,?_,.put k1 ir fO (.nil _ _) aD,⟨λi t hi=>by simp at hi,λi j ti tj _ hi=>by simp at hi⟩⟩;show q.vars.toNat+8*zV (bR q.body 0 0 [])+(ab-0)*1160<=110000
 rw[rk,n0];omega;show 0+nc (bR q.body 0 0 [])+(ab-0)*90<=1000000
 rw[oh,g0];omega
end ax

namespace ax
open Go Tm
theorem SJ {l:List Cs}{q:Cs}(hf:rl q)(h:lj q l=true):(∀x∈q.head.l,GT x/\∀u∈cF x,u∈uD)/\q.head.l.length<=8:=by
 have hq:=ql h;have gt:GT q.head:=⟨hq.right,hf.head⟩;have Ek:cv [q.head]=true:=fz.2 λx hx=>by rw[eu.1 hx];exact gt.fair
 have ho:∀u∈cF q.head,0<=u/\u<1000:=λu hu=>by have h1:=hq.vars u ((kj Ek).2 (by simpa[ep]using hu));have h2:=Tm.lz q.head gt.fair u hu;have h3:=hq.agE;omega
 refine⟨λx hx=>?_,?_⟩;obtain ⟨h1,h2⟩:=IY gt hq.kind ho hx;exact⟨h1,DK (F:=1000) aq h2⟩;have h1:=gt.fair;rw[Tm.kO]at h1;simp only[aV]at h1;have h2:=h1.2;unfold Tm.l8 at h2;rw[if_neg (by have:=hq.kind;omega),if_neg (by have:=hq.kind;omega)]at h2;simp only[aV,decide_eq_true_eq]at h2;omega
theorem MZ {l:List Cs}{q:Cs}(hl:∀c∈l,rl c)(hf:rl q)(h:lj q l=true){ab:Nat}(C5:ab<=90):∃n w',er A3 l q.head.l (.run (c9 q.body 0 0 [])) [] q.vars.toNat ⟨ab,[],0,false⟩ n w'/\ll l q.head ab ⟨[],q.vars.toNat,[],bR q.body 0 0 [],0,[]⟩ (rJ w')/\(rJ w').length<=900000000000:=by
 have hq:=ql h;have hP:=agR hl hq.prog;obtain⟨k1,k2,k3⟩:=A8 q.vars q.body 20 1 true aq aq hf.body hq.body;have h7:=P3 q.body;obtain⟨n,w',hr⟩:=er.total A3 l q.head.l ab (mC (c9 q.body 0 0 [])) (c9 q.body 0 0 []) [] q.vars.toNat ⟨ab,[],0,false⟩ cZ cZ;refine⟨n,w',hr,DH hr,?_⟩;have hg:mC (c9 q.body 0 0 [])<=80:=by rw[dF,pJ];omega
 have hK:l.length*(7280+1)<=1456200:=by have:=hP.len;omega
 have pB:=er.pB (bs:=80) (Dm:=7280) (K:=1456200) (λc hc=>(hP.cls c hc).bsz) hK hr;simp only at pB;have h1:=(pB aq).1;have h2:(rJ w').length<=w'.aF.length+1:=by unfold rJ;split<;>simp
 have h3:ab*1456200<=90*1456200:=Fo _ C5;simp only[mu]at h1;omega
structure aeg (l:List Cs) (q:Cs) (ab:Nat) (s:List Ev):Prop where
 ends:ll l q.head ab ⟨[],q.vars.toNat,[],bR q.body 0 0 [],0,[]⟩ s
 len:s.length<=900000000000
end ax

namespace Go.Proofs.YtmjmngigbachdaaGreatDoor
open Go ax Go.Proofs
theorem VL (e:Ev)(hs:Tm.aw e.ts<1000000000):br Tryz.prog 21 [evA e,evA e] (bV true):=by
 have sd:Tm.gJ e.ts e.ts=true:=Tm.Oe _;have hc:=OI e.ts e.ts hs;rw[sd]at hc;refine v8 Tryz.func21 λw S hg=>?_
 refine mM ?_;have cY:aX e.tx e.tx=true:=Tm.bn.2 rfl;refine cQ hg.ok rfl rfl (by simp[cY]) rfl rfl ?_;refine mM ?_;refine aA (hc) ?_;refine bz ?_;rfl
theorem DV {l:List Ev}{i:Nat}{e:Ev}(h:l[i]? = some e):(l.map Ev.row)[i]? = some [.v (.int .i64 e.k),.v (.string e.tx),.sl (Tm.aa e.ts),.v (.int .i64 e.c)]:=by rw[fP,h];rfl
theorem Jg (l:List Ev)(hs:∀e∈l,Tm.aw e.ts<1000000000)(hl:l.length<=900000000000):br Tryz.prog 8 [.d (.sl (l.map Ev.row)),.d (.sl (l.map Ev.row))] (bV true):=by
 have mF:(l.map Ev.row).length=l.length:=fQ _;refine v8 Tryz.func8 λw S hg=>?_
 refine gg ?_;refine a7 (λk:Nat=>([(0,.d (.sl (l.map Ev.row))),(1,.d (.sl (l.map Ev.row))),(5,iV k)],[])) (λk=>k<=l.length) (λk=>l.length-k) 0 fO pI rfl ?_;intro k hk;refine ag ?_;refine af (λh=>?_) λh=>?_
 have aI:k<l.length:=bo h Ex;have e1:l[k]? = some l[k]:=dG aI;have hm:=hs _ (dy aI);generalize l[k]=x at e1 hm;refine cJ (DV e1) ?_;refine cJ (DV e1) ?_;refine aA (VL x hm) ?_;refine gg ?_;exact bb (k+1) aI aq JX rfl;refine bz ?_;rfl
end Go.Proofs.YtmjmngigbachdaaGreatDoor

namespace ax
open Go
namespace Tm
end Tm
namespace Tm
end Tm
end ax

namespace ax
open Go
end ax
namespace ax
open Go
section
variable {ty:Nat->Option Ty} {T B:Nat} {n:Nat} {τ:Ty} {row:List D} {a:AV}
end
end ax

namespace ax
open Go
theorem HZ {l:List Tm}{x:Tm}{v:Int}(hx:x∈l)(hv:v∈Tm.cF x):v∈Tm.ep l:=by
 induction l with
 |nil=>cases hx
 |cons y r ih=>
  rw[Tm.ep];rcases cE.1 hx with rfl|hx
  exact Xf _ hv;exact List.mem_append_right _ (ih hx)
end ax

namespace Go.Proofs.YtmjmngigbachdaaGreatDoor
open Go ax Go.Proofs
def sY:Tm:=Tm.vT 1
def sB:an:=[(0,.mk 3 ⟨#[102]⟩ 0 [sY]),(1,.mk 3 ⟨#[97]⟩ 0 [])]
theorem y3 {l:List Cs}{q:Cs}(h:DU l q=true):Med (l++[q])/\l.length<=60:=by unfold DU at h;simp only[aV,decide_eq_true_eq]at h;obtain⟨h1,h2⟩:=h;obtain⟨a,b,c⟩:=Sn h1;exact⟨⟨a,b,c⟩,by omega⟩
end Go.Proofs.YtmjmngigbachdaaGreatDoor

namespace ax
open Go Tm
def EvQ (S:Nat)(l:List Ev):Prop:=∀e∈l,aw e.ts<=S
theorem EvQ.add {S:Nat}{l:List Ev}{e:Ev}(h:EvQ S l)(he:aw e.ts<=S):EvQ S (l++[e]):=λx hx=>by
 rcases cu.1 hx with hx|hx
 exact h x hx;rw[eu.1 hx];exact he
theorem EvQ.said {S:Nat}{w:Wo}(h:EvQ S w.aF)(tx:Bs):EvQ S (w.said tx).aF:=by unfold Wo.said;split;exact h;exact h.add (by simp[sU,aw])
theorem er.evs {β:Type}{D:Dt β}{P:List Cs}{head:List Tm}{S:Nat}(aec:∀b l,D.A2 b head=some l->aw l<=S){j:Jb}{b:β}{f:Nat}{w:Wo}{n:Option Nat}{w':Wo}(h:er D P head j b f w n w'):EvQ S w.aF->EvQ S w'.aF:=by
 have z:∀(k c:Int) (tx:ByteArray),aw (Ev.mk k tx [] c).ts<=S:=λ_ _ _=>by simp[aw]
 induction h with
 |mB=>exact λhq=>hq.add (z _ _ _)
 |A2 h=>exact λhq=>hq.add (aec _ _ h)
 |cut _ _ ih=>exact ih
 |bad=>exact λhq=>hq.add (z _ _ _)
 |no=>exact id
 |yes _ _ _ ih=>exact λhq=>ih (hq.said _)
 |stop=>exact λhq=>EvQ.add hq (z _ _ _)
 |call _ _ _ ih=>exact ih
 |px _ _ _ ih=>exact ih
 |wI _ _ _ _ ih1 wg=>exact λhq=>wg (ih1 hq)
 |py _ _ _ ih=>exact ih
 |uU _ _ _ ih=>exact ih
 |Ho _ _ _ _ ih1 wg=>exact λhq=>wg (ih1 hq)
 |skip _ _ _ _ _ _ _ ih=>exact ih
 |none=>exact id
 |other _ _ ih=>exact ih
 |fail _ _ _ ih=>exact ih
 |over _ _ _ _ ih=>exact ih
 |aE _ _ _ _ ih=>exact ih
 |more _ _ _ _ _ ih1 wg=>exact λhq=>wg (ih1 hq)
theorem P4 (g:Int->Int)(t:Tm):(Tm.gi g t).size=t.size:=by
 induction t using Tm.ind with
 |_ t ih=>
 rw[qp,Tm.size_eq,Tm.size_eq t];show 1+aw (Tm.dp g t.l)=1+aw t.l
 have key:∀l:List Tm,(∀x∈l,(Tm.gi g x).size=x.size)->aw (Tm.dp g l)=aw l:=λl=>by
  induction l with
  |nil=>intro _;rfl
  |cons a l ihl=>intro h;rw[Tm.dp,aw,aw,h a aD,ihl λx hx=>h x oZ]
 rw[key _ ih]
theorem z6 (g:Int->Int):∀l:List Tm,aw (Tm.dp g l)=aw l|[]=>rfl|a::l=>by rw[Tm.dp,aw,aw,P4,z6 g l]
theorem Jh {b:an}{head l:List Tm}(h:A3.A2 b head=some l):aw l<=3000*head.length:=by
 have h:(if head.any (λx=>(eL b x).2≠0)then none else some (dP (head.map λx=>(eL b x).1)).1)=some l:=h;split at h;cases h;cases h
 have hv:∀k:List Tm,aw (k.map λx=>(eL b x).1)<=3000*k.length:=λk=>by
  induction k with
  |nil=>simp[aw]
  |cons x k ih=>
   rw[bM,aw,dx];have:(eL b x).1.size<=3000:=by unfold eL EL;split;rename_i hc;simp only[aV,decide_eq_true_eq]at hc;exact hc.1;simp[aJ,Tm.size,aw]
   omega
 unfold dP;split;rw[z6];exact hv head;simp[aw]
theorem P5 {l:List Cs}{q:Cs}(hl:∀c∈l,rl c)(hf:rl q)(h:lj q l=true){ab:Nat}(C5:ab<=90){s:List Ev}(hs:aeg l q ab s):∀e∈s,aw e.ts<1000000000:=by
 obtain⟨n,w',hr,h1,_⟩:=MZ hl hf h C5;have e:s=rJ w':=hs.ends.fun h1;have h8:=(SJ hf h).2;have hq:=er.evs (S:=24000) (λb k hk=>by have:=Jh hk;omega) hr (by intro e he;cases he);intro x hx;rw[e]at hx;have:aw x.ts<=24000:=by unfold rJ at hx;split at hx;exact hq x hx;exact hq.add (e:=sT) (by simp[sT,aw]) x hx
 omega
def DW {β:Type} (U:β->Tm->Tm->Option (Option β)) (Do:β->Nat->Tm->Option (Dn β)) (An:β->List Tm->Option (Option (List Tm))) (P:List Cs) (head:List Tm):Nat->Jb->β->Nat->Wo->Option (Option Nat×Wo)
 |0,_,_,_,_=>none
 |n+1,.run [],b,_,w=>match An b head with
  |none=>none
  |some none=>some (none,w.stop (kU 3))
  |some (some l)=>some (none,w.see (oc l))
 |n+1,.run (x::r),b,f,w=>
  if x.g.k=0\/x.g.k=3 then match DW U Do An P head n (.run r) b f w with|none=>none|some (m,w')=>some (sX m x.id,w')
  else if x.g.k=2 then match Do b f (dw x.sh x.g.t)with|none=>none|some (.bad e)=>some (none,w.stop (kU e))|some .no=>some (none,w)|some (.yes b' f' tx)=>DW U Do An P head n (.run r) b' f' (w.said tx)
  else if x.g.k=1 then match w.left with|0=>some (none,w.next.stop oY)|c+1=>DW U Do An P head n (.cls P (dw x.sh x.g.t) (w.ids+1) r) b f {w.next with left:=c}
  else if x.g.k=5 then match DW U Do An P head n (.run (c9 x.g.a x.sh (w.ids+1) [⟨aN,0,w.ids+1⟩,⟨dE,0,0⟩])) b f w.next with|none=>none|some (m,w1)=>if m.isSome=true\/w1.over=true then some (none,w1)else DW U Do An P head n (.run r) b f w1
  else if x.g.k=4 then match DW U Do An P head n (.run (c9 x.g.a x.sh (w.ids+1) (⟨aN,0,w.ids+1⟩::c9 x.g.b x.sh x.id r))) b f w.next with
   |none=>none
   |some (m,w1)=>if w1.over=true then some (none,w1)else match m with
    |some k=>some (pt k (w.ids+1),w1)
    |none=>DW U Do An P head n (.run (c9 x.g.c x.sh x.id r)) b f w1
  else DW U Do An P head n (.run r) b f w
 |n+1,.cls [] _ _ _,_,_,w=>some (none,w)
 |n+1,.cls (c::cs) t id r,b,f,w=>
  if c.head.s=t.s/\c.head.l.length=t.l.length then match U b t (dw f c.head)with
   |none=>none
   |some none=>DW U Do An P head n (.cls cs t id r) b f w
   |some (some b')=>match DW U Do An P head n (.run (c9 c.body f id r)) b' (f+c.vars.toNat) w with
    |none=>none
    |some (m,w1)=>if w1.over=true then some (none,w1)else match m with
     |some k=>some (pt k id,w1)
     |none=>DW U Do An P head n (.cls cs t id r) b f w1
  else DW U Do An P head n (.cls cs t id r) b f w
theorem P6 {β:Type}{U:β->Tm->Tm->Option (Option β)}{Do:β->Nat->Tm->Option (Dn β)}{An:β->List Tm->Option (Option (List Tm))}{D:Dt β}(hU:∀b s t r,U b s t=some r->D.uni b s t=r)(hD:∀b f t r,Do b f t=some r->D.pr b f t=r)(hA:∀b l r,An b l=some r->D.A2 b l=r)(P:List Cs)(head:List Tm):∀(n:Nat) (j:Jb) (b:β) (f:Nat) (w:Wo) (m:Option Nat) (w':Wo),DW U Do An P head n j b f w=some (m,w')->er D P head j b f w m w'
 |0,_,_,_,_,_,_,h=>by rw[DW]at h;cases h
 |n+1,.run [],b,f,w,m,w',h=>by
  rw[DW]at h;cases ha:An b head with
  |none=>simp_all
  |some o=>
   rw[ha]at h;cases o with
   |none=>cases h;exact .mB (hA _ _ _ ha)
   |some l=>cases h;exact .A2 (hA _ _ _ ha)
 |n+1,.run (x::r),b,f,w,m,w',h=>by
  have ih:=P6 hU hD hA P head n;rw[DW]at h;by_cases c1:x.g.k=0\/x.g.k=3;rw [if_pos c1]at h;cases he:DW U Do An P head n (.run r) b f w with
  |none=>simp_all
  |some y=>obtain⟨m1,w1⟩:=y;rw[he]at h;cases h;exact .cut c1 (ih _ _ _ _ _ _ he)
  rw[if_neg c1]at h;by_cases c2:x.g.k=2;rw [if_pos c2]at h;cases hd:Do b f (dw x.sh x.g.t)with
  |none=>simp_all
  |some y=>
   rw[hd]at h;have Fz:=hD _ _ _ _ hd;cases y with
   |bad e=>cases h;exact .bad c2 Fz
   |no=>cases h;exact .no c2 Fz
   |yes b' f' tx=>exact .yes c2 Fz (ih _ _ _ _ _ _ h)
  rw[if_neg c2]at h;by_cases c3:x.g.k=1;rw [if_pos c3]at h;cases hl:w.left with
  |zero=>rw[hl]at h;cases h;exact .stop c3 hl
  |succ c=>rw[hl]at h;exact .call c3 hl (ih _ _ _ _ _ _ h)
  rw[if_neg c3]at h;by_cases c5:x.g.k=5;rw [if_pos c5]at h;cases he:DW U Do An P head n (.run (c9 x.g.a x.sh (w.ids+1) [⟨aN,0,w.ids+1⟩,⟨dE,0,0⟩])) b f w.next with
  |none=>simp_all
  |some y=>
   obtain⟨m1,w1⟩:=y;rw[he]at h;simp only at h;have h1:=ih _ _ _ _ _ _ he;split at h;rename_i hc;cases h;exact .px c5 h1 hc;rename_i hc;have hm:m1=none:=by simp_all
   have ho:w1.over=false:=by simp_all
   subst hm;exact .wI c5 h1 ho (ih _ _ _ _ _ _ h)
  rw[if_neg c5]at h;by_cases c4:x.g.k=4;rw [if_pos c4]at h;cases he:DW U Do An P head n (.run (c9 x.g.a x.sh (w.ids+1) (⟨aN,0,w.ids+1⟩::c9 x.g.b x.sh x.id r))) b f w.next with
  |none=>simp_all
  |some y=>
   obtain⟨m1,w1⟩:=y;rw[he]at h;simp only at h;have h1:=ih _ _ _ _ _ _ he;split at h;rename_i hc;cases h;exact .py c4 h1 hc;rename_i hc;have ho:w1.over=false:=by simpa using hc
   cases m1 with
   |some k=>cases h;exact .uU c4 h1 ho
   |none=>exact .Ho c4 h1 ho (ih _ _ _ _ _ _ h)
  rw[if_neg c4]at h;exact .skip (λe=>c1 (.inl e)) c3 c2 (λe=>c1 (.inr e)) c4 c5 (ih _ _ _ _ _ _ h)
 |n+1,.cls [] t id r,b,f,w,m,w',h=>by rw[DW]at h;cases h;exact .none
 |n+1,.cls (c::cs) t id r,b,f,w,m,w',h=>by
  have ih:=P6 hU hD hA P head n;rw[DW]at h;by_cases hh:c.head.s=t.s/\c.head.l.length=t.l.length;rw [if_pos hh]at h;cases hu:U b t (dw f c.head)with
  |none=>simp_all
  |some o=>
   rw[hu]at h;have TU:=hU _ _ _ _ hu;cases o with
   |none=>exact .fail hh TU (ih _ _ _ _ _ _ h)
   |some b'=>
    simp only at h;cases he:DW U Do An P head n (.run (c9 c.body f id r)) b' (f+c.vars.toNat) w with
    |none=>simp_all
    |some y=>
     obtain⟨m1,w1⟩:=y;rw[he]at h;simp only at h;have h1:=ih _ _ _ _ _ _ he;split at h;rename_i hc;cases h;exact .over hh TU h1 hc;rename_i hc;have ho:w1.over=false:=by simpa using hc
     cases m1 with
     |some k=>cases h;exact .aE hh TU h1 ho
     |none=>exact .more hh TU h1 ho (ih _ _ _ _ _ _ h)
  rw [if_neg hh]at h;exact .other hh (ih _ _ _ _ _ _ h)
def ugC (B:an)(a b:Tm):Option (Option an):=match ugF 1000 [(a,b)] B []with|some (B',true)=>some (some B')|some (_,false)=>some none|none=>none
theorem aaL (B:an)(a b:Tm)(r:Option an)(h:ugC B a b=some r):sV B a b=r:=by
 unfold ugC at h;cases hu:ugF 1000 [(a,b)] B []with
 |none=>simp_all
 |some y=>
  obtain⟨B',ok⟩:=y;have hr:=xE _ _ _ _ _ _ hu;rw[hu]at h;unfold sV;cases ok with
  |true=>cases h;have hx:∃B',ZV B a b B':=⟨_,_,hr⟩;rw[dif_pos hx];obtain⟨n2,h2⟩:=Classical.choose_spec hx;exact congrArg some (xM h2 hr).1
  |false=>cases h;rw[dif_neg];rintro⟨B2,n2,h2⟩;have:=(xM h2 hr).2;cases this
def P7 (B:an):List Tm->Option (Option an)
 |a::b::r=>match ugC B a b with
  |none=>none
  |some none=>some none
  |some (some B')=>P7 B' r
 |_=>some (some B)
theorem SK:∀(l:List Tm) (B:an) (r:Option an),P7 B l=some r->fY B l=r
 |[],B,r,h=>by rw[P7]at h;cases h;rw[fY];simp;simp
 |[_],B,r,h=>by rw[P7]at h;cases h;rw[fY];simp;simp
 |a::b::l,B,r,h=>by
  rw[P7]at h;rw[fY];cases hu:ugC B a b with
  |none=>simp_all
  |some o=>
   rw[hu]at h;rw[aaL _ _ _ _ hu];cases o with
   |none=>cases h;rfl
   |some B'=>exact SK l B' r h
def doC (b:an)(f:Nat)(t:Tm):Option (Dn an) :=
 if t.l.any (λx=>(eL b x).2≠0)then some (.bad 3)
 else
  let a:=eg t.s (t.l.map λx=>(eL b x).1) f
  if a.e≠0 then some (.bad a.e)
  else if a.h=false then some .no
  else match P7 b a.al with
   |none=>none
   |some o=>if a.ap then(match o with
     |some _=>some .no
     |none=>some (.yes b f []))
    else match o with|none=>some .no|some b'=>some (.yes b' a.nx.toNat a.tx)
theorem ajN (b:an)(f:Nat)(t:Tm)(r:Dn an)(h:doC b f t=some r):A3.pr b f t=r:=by
 unfold doC at h;show(if _ then _ else _)=_
 by_cases c1:(t.l.any λx=>decide ((eL b x).2≠0))=true;simp_all;rw[if_neg c1]at h ⊢;simp only at h ⊢;generalize eg t.s (t.l.map λx=>(eL b x).1) f=a at h ⊢;by_cases c2:a.e≠0;simp_all;rw[if_neg c2]at h ⊢;by_cases c3:a.h=false;simp_all;rw[if_neg c3]at h ⊢;cases hu:P7 b a.al with
 |none=>simp_all
 |some o=>rw[hu]at h;rw[SK _ _ _ hu];grind
def Ji (l:List Cs)(q:Cs)(ab:Nat):Option (List Ev):=(DW ugC doC (λb k=>some (if k.any (λx=>(eL b x).2≠0)then none else some (dP (k.map λx=>(eL b x).1)).1)) l q.head.l 1000 (.run (c9 q.body 0 0 [])) [] q.vars.toNat ⟨ab,[],0,false⟩).map λx=>rJ x.2
theorem G5 {l:List Cs}{q:Cs}{ab:Nat}{s:List Ev}(h:Ji l q ab=some s):ll l q.head ab ⟨[],q.vars.toNat,[],bR q.body 0 0 [],0,[]⟩ s:=by unfold Ji at h;rw[ahB]at h;obtain⟨⟨m,w'⟩,h1,rfl⟩:=h;exact DH (P6 (D:=A3) aaL ajN (λb k r hr=>by cases hr;rfl) l q.head.l _ _ _ _ _ _ _ h1)
end ax

namespace ax
open Go Tm
def aei (n:Int):Bool:=decide (-9223372036854775808<=n)&&decide (n<9223372036854775808)
theorem SL {n:Int}(h:aei n=true):ji n:=by unfold aei at h;simp only[aV,decide_eq_true_eq]at h;unfold ji;omega
mutual
def M0:Tm->Bool| .mk k _ n l=>aei k&&aei n&&SM l
def SM:List Tm->Bool|[]=>true|x::r=>M0 x&&SM r
end
mutual
theorem DX:∀t:Tm,M0 t=true->t.Fit| .mk k s n l,h=>by rw[M0]at h;simp only[aV]at h;exact pq.2 ⟨⟨SL h.1.1,SL h.1.2⟩,M3 l h.2⟩
theorem M3:∀l:List Tm,SM l=true->∀x∈l,x.Fit
 |[],_,x,hx=>by cases hx
 |a::l,h,x,hx=>by
  rw[SM]at h;simp only[aV]at h;cases hx with
  |head=>exact DX a h.1
  |tail _ hx=>exact M3 l h.2 x hx
end
mutual
def aaM:Gl->Bool| .mk _ t a b c=>M0 t&&vZ a&&vZ b&&vZ c
def vZ:List Gl->Bool|[]=>true|x::r=>aaM x&&vZ r
end
mutual
theorem aaN:∀g:Gl,aaM g=true->ka E5 g| .mk k t a b c,h=>by rw[aaM]at h;simp only[aV]at h;rw[ka];exact⟨DX t h.1.1.1,qv a h.1.1.2,qv b h.1.2,qv c h.2⟩
theorem qv:∀l:List Gl,vZ l=true->cL E5 l|[],_=>by rw[cL];trivial|x::r,h=>by rw[vZ]at h;simp only[aV]at h;rw[cL];exact⟨aaN x h.1,qv r h.2⟩
end
def aaO (c:Cs):Bool:=M0 c.head&&vZ c.body
theorem DY {c:Cs}(h:aaO c=true):rl c:=by unfold aaO at h;rw[aV]at h;exact⟨DX _ h.1,qv _ h.2⟩
end ax

namespace ax
open Go Go.RowKit
noncomputable def s8 {α:Type} (l:List α) (i:Nat):Option α:=List.rec (motive:=λ_=>Nat->Option α) (λ_=>none) (λx _ ih i=>Nat.rec (some x) (λm _=>ih m) i) l i
theorem gf{α:Type}:∀(l:List α) (i:Nat),s8 l i=dq l i|[],_=>rfl|_::_,0=>rfl|_::l,i+1=>gf l i
noncomputable def lkX (E:bq) (t:Nat):AV:=List.rec (motive:=λ_=>AV) .any (λp _ ih=>Bool.rec (motive:=λ_=>AV) ih p.2 (Nat.beq p.1 t)) E
theorem P8(t:Nat):∀(E:bq),lkX E t=lk E t
 |[]=>rfl
 |(k,v)::E=>by
  simp only[lk,<-P8 t E];show Bool.rec (motive:=λ_=>AV) (lkX E t) v (Nat.beq k t)=_
  cases Nat.beq k t<;>rfl
noncomputable def wh (E:bq):Operand->AV| .tmp t=>lkX E t|x=>ev E x
theorem jh(E:bq):wh E=ev E:=by funext x;cases x<;>simp only[wh,ev,P8]
noncomputable def P9 (ad:List Oper) (E:bq):Option (Nat×Bool)->Option Bool
 |none=>some true
 |some (j,want)=>match s8 ad j with
  |some o=>match o.dst with
   |some d=>match lkX E d with
    | .tt=>some want
    | .ff=>some (!want)
    | .cP []=>some false
    |_=>none
   |none=>none
  |none=>none
theorem VM(ad:List Oper)(E:bq)(x:Option (Nat×Bool)):P9 ad E x=aH ad E x:=by unfold P9 aH;simp only[gf,P8];rfl
noncomputable def rmX {β:Type} (E:bq) (t:Nat) (k:bq->β):β:=List.rec (motive:=λ_=>(bq->β)->β) (λk=>k []) (λp _ ih k=>Bool.rec (motive:=λ_=>β) (ih λr=>k (p::r)) (ih k) (Nat.beq p.1 t)) E k
noncomputable def SN {β:Type} (V:Nat) (E:bq) (k:bq->β):β:=List.rec (motive:=λ_=>(bq->β)->β) (λk=>k []) (λp _ ih k=>Bool.rec (motive:=λ_=>β) (ih k) (ih λr=>k (p::r)) (Nat.blt p.1 V)) E k
noncomputable def Qa {β:Type} (V:Nat) (E:bq) (d:Option Nat) (v:AV) (k:bq->β):β:=match d with|none=>k E|some t=>bif Nat.blt t V then rmX E t λr=>k ((t,v)::r)else k ((t,v)::E)
theorem Qb{β:Type}(t:Nat):∀(E:bq) (k:bq->β),rmX E t k=k (rm E t)
 |[],_=>rfl
 |(a,v)::E,k=>by
  show Bool.rec (motive:=λ_=>β) (rmX E t λr=>k ((a,v)::r)) (rmX E t k) (Nat.beq a t)=_
  rw[Qb t E,Qb t E];simp only[rm];cases Nat.beq a t<;>rfl
def G6 (V:Nat)(E:bq)(d:Option Nat)(v:AV):bq:=match d with|none=>E|some t=>bif Nat.blt t V then put E t v else(t,v)::E
theorem xX{β:Type}(V:Nat)(E:bq)(d:Option Nat)(v:AV)(k:bq->β):Qa V E d v k=k (G6 V E d v):=by
 unfold Qa G6;cases d with
 |none=>rfl
 |some t=>simp only;cases Nat.blt t V;rfl;rw[cond_true,Qb];rfl
theorem aaP(V:Nat)(E:bq)(d:Option Nat)(v:AV)(u:Nat):lk (G6 V E d v) u=lk (bh E d v) u:=by
 unfold G6;cases d with
 |none=>rfl
 |some t=>simp only;cases Nat.blt t V;rw [cond_false,gz];simp only[lk];by_cases h:t=u;subst h;simp;rw[tA h,cond_false,if_neg λe=>h (Option.some.inj e)];rfl
def oi (V:Nat):bq->bq|[]=>[]|p::E=>bif Nat.blt p.1 V then p::oi V E else oi V E
theorem DZ{β:Type}(V:Nat):∀(E:bq) (k:bq->β),SN V E k=k (oi V E)
 |[],_=>rfl
 |p::E,k=>by
  show Bool.rec (motive:=λ_=>β) (SN V E k) (SN V E λr=>k (p::r)) (Nat.blt p.1 V)=_
  rw[DZ V E,DZ V E];simp only[oi];cases Nat.blt p.1 V<;>rfl
theorem Qc(V:Nat)(E:bq):Af E (oi V E):=by
 have key:∀u,lk (oi V E) u=lk E u\/lk (oi V E) u=.any:=λu=>by
  have:lk (oi V E) u=bif Nat.blt u V then lk E u else .any:=by
   induction E with
   |nil=>simp only[oi,lk];cases Nat.blt u V<;>rfl
   |cons p E ih=>obtain⟨a,v⟩:=p;simp only[oi,lk];cases hb:Nat.beq a u;cases ha:Nat.blt a V;simp only[cond_false,ih];simp only[cond_true,cond_false,lk,hb,ih];have:=Nat.eq_of_beq_eq_true hb;subst this;cases ha:Nat.blt a V;simp only[cond_false,ih,ha];simp only[cond_true,lk,hb]
  rw[this];cases Nat.blt u V;exact .inr rfl;exact .inl rfl
 intro u;rcases key u with h|h<;>rw[h]
 exact .refl _;exact .any _
section
variable {β:Type}
def JH (n:Nat)(k:Nat->β):β:=match n with|0=>k 0|m+1=>k (m+1)
theorem oo(n:Nat)(k:Nat->β):JH n k=k n:=by cases n<;>rfl
def nfI (n:Int)(k:Int->β):β:=match n with| .ofNat m=>JH m λm=>k (.ofNat m)| .negSucc m=>JH m λm=>k (.negSucc m)
theorem ajO(n:Int)(k:Int->β):nfI n k=k n:=by cases n<;>simp only[nfI,oo]
def aej (l:List UInt8)(k:List UInt8->β):β:=match l with|[]=>k []|b::r=>JH b.toNat λn=>aej r λr'=>k (UInt8.ofNat n::r')
theorem SO:∀(l:List UInt8) (k:List UInt8->β),aej l k=k l|[],_=>rfl|b::r,k=>by rw[aej,oo,SO r,UInt8.ofNat_toNat]
def aaQ (x:Value)(k:Value->β):β:=match x with| .int q n=>nfI n λn=>k (.int q n)| .string s=>aej s.data.toList λl=>k (.string ⟨⟨l⟩⟩)| .bool b=>bif b then k (.bool true)else k (.bool false)|x=>k x
theorem aaR(x:Value)(k:Value->β):aaQ x k=k x:=by
 unfold aaQ;split;rw[ajO];rw[SO];rename_i b;cases b<;>rfl
 rfl
def nfD (x:D)(k:D->β):β:=match x with| .v x=>aaQ x λx=>k (.v x)|x=>k x
theorem aaS(x:D)(k:D->β):nfD x k=k x:=by unfold nfD;split<;>first|rw[aaR]|rfl
def VN (aa:List (List D))(k:List (List D)->β):β:=Jx aa (λr f=>Jx r nfD f) k
theorem xY(aa:List (List D))(k:List (List D)->β):VN aa k=k aa:=lv _ (λ_ _=>lv _ (λ_ _=>aaS _ _) _ _) _ _
mutual
def Qd:AV->(AV->β)->β| .d x,k=>nfD x λx=>k (.d x)| .agg l,k=>Jj l λl=>k (.agg l)| .cP l,k=>Jj l λl=>k (.cP l)| .b9 f a c,k=>JH f λf=>Jj a λa=>Jj c λc=>k (.b9 f a c)| .fs aa,k=>VN aa λaa=>k (.fs aa)| .lo i o,k=>JH i λi=>JH o λo=>k (.lo i o)| .el i s r j,k=>JH i λi=>JH s λs=>JH r λr=>JH j λj=>k (.el i s r j)| .ow i s,k=>JH i λi=>JH s λs=>k (.ow i s)| .mp i,k=>JH i λi=>k (.mp i)| .any,k=>k .any| .tt,k=>k .tt| .ff,k=>k .ff| .vw i s r,k=>k (.vw i s r)| .yl i,k=>k (.yl i)
def Jj:List AV->(List AV->β)->β|[],k=>k []|x::l,k=>Qd x λx=>Jj l λl=>k (x::l)
end
mutual
theorem D0:∀(x:AV) (k:AV->β),Qd x k=k x| .d x,k=>by simp only[Qd,aaS]| .agg l,k=>by simp only[Qd,rp l]| .cP l,k=>by simp only[Qd,rp l]| .b9 f a c,k=>by simp only[Qd,oo,rp a,rp c]| .fs aa,k=>by simp only[Qd,xY]| .lo i o,k=>by simp only[Qd,oo]| .el i s r j,k=>by simp only[Qd,oo]| .ow i s,k=>by simp only[Qd,oo]| .mp i,k=>by simp only[Qd,oo]| .any,_=>rfl| .tt,_=>rfl| .ff,_=>rfl| .vw _ _ _,_=>rfl| .yl _,_=>rfl
theorem rp:∀(l:List AV) (k:List AV->β),Jj l k=k l|[],_=>rfl|x::l,k=>by simp only[Jj,D0 x,rp l]
end
def aaT (o:Ob)(k:Ob->β):β:=match o with| .box l=>Jj l λl=>k (.box l)| .arr sz s aa=>JH sz λsz=>JH s λs=>k (.arr sz s aa)| .Jw s p=>JH p λp=>k (.Jw s p)|o=>k o
theorem SP(o:Ob)(k:Ob->β):aaT o k=k o:=by unfold aaT;split<;>first|rw[rp]|rw[oo,oo]|rw[oo]|rfl
def SQ (l:List Ob)(k:List Ob->β):β:=Jx l aaT k
theorem D1(l:List Ob)(k:List Ob->β):SQ l k=k l:=lv _ (λ_ _=>SP _ _) _ _
end
inductive OU where
 |same
 |set (i:Nat) (o:Ob)
 |app (o:Ob)
 |put (is:List Nat) (new:List Ob)
variable{objs o2:List Ob}{is:List Nat}{k:List It}{dW:List AV}{E:bq}{f n:Nat}{r v:AV}{u:OU}
def s9:OU->List Ob->List Ob| .same,l=>l| .set i o,l=>dj l i o| .app o,l=>l++[o]| .put is new,l=>db is new l
section
variable {β:Type}
noncomputable def ajP (l:List Ob) (i:Nat) (y:Ob) (k:List Ob->β):β:=List.rec (motive:=λ_=>Nat->(List Ob->β)->β) (λ_ k=>k []) (λx r ih i k=>Nat.rec (motive:=λ_=>β) (k (y::r)) (λm _=>ih m λr=>k (x::r)) i) l i k
theorem Jk(y:Ob):∀(l:List Ob) (i:Nat) (k:List Ob->β),ajP l i y k=k (dj l i y)|[],_,_=>rfl|x::l,0,_=>rfl|x::l,i+1,k=>Jk y l i λr=>k (x::r)
noncomputable def ajQ (l new:List Ob) (k:List Ob->β):β:=List.rec (motive:=λ_=>(List Ob->β)->β) (λk=>k new) (λx _ ih k=>ih λr=>k (x::r)) l k
theorem Jl(new:List Ob):∀(l:List Ob) (k:List Ob->β),ajQ l new k=k (l++new)|[],_=>rfl|x::l,k=>Jl new l λr=>k (x::r)
noncomputable def A9:List Nat->List Ob->List Ob->(List Ob->β)->β|[],new,l,k=>ajQ l new k|j::is,o::new,l,k=>ajP l j o λl=>A9 is new l k|_::_,[],l,k=>k l
theorem D2:∀(is:List Nat) (new l:List Ob) (k:List Ob->β),A9 is new l k=k (db is new l)|[],_,_,_=>Jl _ _ _|_::is,_::new,l,k=>by simp only[A9,Jk,D2 is,db]|_::_,[],_,_=>rfl
noncomputable def doU (u:OU) (l:List Ob) (k:List Ob->β):β:=match u with| .same=>k l| .set i o=>aaT o λo=>ajP l i o k| .app o=>aaT o λo=>ajQ l [o] k| .put is new=>SQ new λnew=>A9 is new l k
theorem aaU(u:OU)(l:List Ob)(k:List Ob->β):doU u l k=k (s9 u l):=by cases u<;>simp only[doU,s9,SP,D1,Jk,Jl,D2]
end
def Aq:List UInt8->List UInt8->Bool|[],[]=>true|a::r,b::s=>bif Nat.beq a.toNat b.toNat then Aq r s else false|_,_=>false
theorem D3:∀{l m:List UInt8},Aq l m=true↔l=m
 |[],[]=>by simp[Aq]
 |[],_::_=>by simp[Aq]
 |_::_,[]=>by simp[Aq]
 |a::r,b::s=>by
  simp only[Aq,List.cons.injEq];cases h:Nat.beq a.toNat b.toNat;have:a≠b:=λe=>by subst e; simp at h
  simp[this];have:a=b:=UInt8.toNat_inj.1 (Nat.eq_of_beq_eq_true h);simp[this,D3]
theorem D4(a b:ByteArray):aX a b=Aq a.data.toList b.data.toList:=by rw[o5,Tm.bn,D3];exact⟨λh=>by rw[h],λh=>ByteArray.ext (NM.1 h)⟩
def aaV (ty:Nat->Option Ty)(ρ:Operand->AV)(op:Op):Option AV:=match op with
 | .binOp .eql T x y T'=>match ρ x,ρ y with
  | .d (.v (.string a)),.d (.v (.string b))=>some (bV (Aq a.data.toList b.data.toList))
  |_,_=>cS ty ρ (.binOp .eql T x y T')
 | .binOp .neq T x y T'=>match ρ x,ρ y with
  | .d (.v (.string a)),.d (.v (.string b))=>some (bV (!Aq a.data.toList b.data.toList))
  |_,_=>cS ty ρ (.binOp .neq T x y T')
 |op=>cS ty ρ op
theorem D5(ty:Nat->Option Ty)(ρ:Operand->AV)(op:Op):aaV ty ρ op=cS ty ρ op:=by unfold aaV;split;split;rename_i h1 h2;simp only[cS,h1,h2,Xx,acm,D4];rfl;split;rename_i h1 h2;simp only[cS,h1,h2,Xx,acm,D4];rfl;rfl
abbrev XR (α:Type):=Except (List Nat) α
abbrev z7:=Bool->Nat->List AV->List Ob->XR (AV×List Ob)
mutual
def idA:AV->List Nat| .lo i _=>[i]| .el i _ _ _=>[i]| .vw i _ _=>[i]| .ow i _=>[i]| .mp i=>[i]| .yl i=>[i]| .agg l=>SR l| .cP l=>SR l| .b9 _ a c=>SR a++SR c| .any=>[]| .tt=>[]| .ff=>[]| .d _=>[]| .fs _=>[]
def SR:List AV->List Nat|[]=>[]|x::l=>idA x++SR l
end
def SU:Ob->List Nat| .box l=>SR l| .gZ _ l=>SR l| .map es=>SR (es.map (·.2))| .uj es=>SR (es.map (·.2))|_=>[]
def Jm (objs:List Ob):Nat->List Nat->List Nat->List Nat|0,_,acc=>acc|_+1,[],acc=>acc| n+1,i::t,acc=>bif HI i acc then Jm objs n t acc else Jm objs n ((match dq objs i with|some o=>SU o|none=>[])++t) (acc++[i])
def rL:List Nat->Nat->Nat|[],_=>0|j::r,i=>bif Nat.beq j i then 0 else Nat.succ (rL r i)
def qw (is l:List Nat):Bool:=l.all λi=>HI i is
theorem qx{n i:Nat}(h:i∈is):rn is n (rL is i)=i:=by
 have key:∀{is:List Nat},i∈is->dq is (rL is i)=some i:=λ{is}=>by
  induction is with
  |nil=>intro h;cases h
  |cons j r ih=>
   intro h;simp only[rL];cases hb:Nat.beq j i;have dR:¬ i=j:=λe=>by subst e; simp at hb
   exact ih ((cE.1 h).resolve_left dR);have:=Nat.eq_of_beq_eq_true hb;subst this;rfl
 unfold rn;rw[key h]
theorem qy{is a b:List Nat}(h:qw is (a++b)=true):qw is a=true/\qw is b=true:=by simpa[qw,List.all_append]using h
theorem nr{i:Nat}(h:qw is [i]=true):i∈is:=BT.1 (by simpa[qw]using h)
mutual
theorem M4{is:List Nat}{n:Nat}:∀(x:AV),qw is (idA x)=true->dh (rn is n) (dh (rL is) x)=x| .lo i o,h=>by simp only[dh,qx (nr h)]| .el i s r j,h=>by simp only[dh,qx (nr h)]| .vw i s r,h=>by simp only[dh,qx (nr h)]| .ow i s,h=>by simp only[dh,qx (nr h)]| .mp i,h=>by simp only[dh,qx (nr h)]| .yl i,h=>by simp only[dh,qx (nr h)]| .agg l,h=>by simp only[dh,lI l h]| .cP l,h=>by simp only[dh,lI l h]| .b9 f a c,h=>by simp only[dh,lI a (qy h).1,lI c (qy h).2]| .any,_=>rfl| .tt,_=>rfl| .ff,_=>rfl| .d _,_=>rfl| .fs _,_=>rfl
theorem lI{is:List Nat}{n:Nat}:∀(l:List AV),qw is (SR l)=true->iH (rn is n) (iH (rL is) l)=l|[],_=>rfl|x::l,h=>by simp only[iH,M4 x (qy h).1,lI l (qy h).2]
end
theorem VO(es:List (Value×AV))(h:qw is (SR (es.map (·.2)))=true):(es.map λx=>(x.1,dh (rL is) x.2)).map (λx=>(x.1,dh (rn is n) x.2))=es:=by
 induction es with
 |nil=>rfl
 |cons e es ih=>have:=qy (a:=idA e.2) h;simp only[bM,M4 _ this.1,ih this.2]
theorem VP(o:Ob)(h:qw is (SU o)=true):bG (rn is n) (bG (rL is) o)=o:=by
 cases o<;>simp only[bG]<;>first
  |rw[lI _ h]
  |rw[VO _ h]
theorem D6{is:List Nat}{n:Nat}:∀(l:List Ob),(l.all λo=>qw is (SU o))=true->(l.map (bG (rL is))).map (bG (rn is n))=l|[],_=>rfl|o::l,h=>by simp only[pK,aV]at h;simp only[bM,VP o h.1,D6 l h.2]
def Qe (is:List Nat)(n:Nat)(as0:List AV)(ps:List Ob)(hn:Option Nat):Bool :=isOk n is&&(qw is (SR as0)&&(ps.all (λo=>qw is (SU o))&&(match hn with|some h=>is.all λi=>Nat.blt i h|none=>true)))
noncomputable def D7 (call:Nat->List AV->List Ob->XR (AV×List Ob)) (hn:Option Nat) (f:Nat) (as0:List AV) (objs:List Ob):XR (AV×OU) :=
 let is:=Jm objs 100 (SR as0) []
 Jx is (λi k=>JH i k) λis=>
 match fM objs is with
 | some ps=>bif Qe is (len objs) as0 ps hn then
   Jj (iH (rL is) as0) λdW=>SQ (ps.map (bG (rL is))) λo0=>
   match call f dW o0 with
   | .ok (r,o1)=>.ok (dh (rn is (len objs)) r,OU.put is (o1.map (bG (rn is (len objs)))))
   | .error e=>.error e
  else .error [1001]
 |none=>.error [1002]
theorem y4{call:Nat->List AV->List Ob->XR (AV×List Ob)}{hn:Option Nat}{as0:List AV}{x:AV×OU}(h:D7 call hn f as0 objs=.ok x) :
  ∃is dW o0 r o1,call f dW o0=.ok (r,o1)/\isOk (len objs) is=true/\fM objs is=some (o0.map (bG (rn is (len objs))))/\as0=iH (rn is (len objs)) dW/\x=(dh (rn is (len objs)) r,OU.put is (o1.map (bG (rn is (len objs)))))/\∀h,hn=some h->∀i∈is,i<h:=by
 unfold D7 at h;simp only[lv _ oo,rp,D1]at h;generalize Jm objs 100 (SR as0) []=is at h;split at h;rename_i ps hp;cases hc:Qe is (len objs) as0 ps hn;rw[hc]at h;cases h;rw [hc]at h;simp only[Qe,aV]at hc;simp only[cond_true]at h;split at h;rename_i r o1 hr;refine⟨is,_,_,r,o1,hr,hc.1,by rw[hp,D6 _ hc.2.2.1],(lI _ hc.2.1).symm,by simpa using h.symm,λn e i hi=>?_⟩;subst e;have:=fB.1 hc.2.2.2 i hi;rw[Nat.blt_eq]at this;exact this;cases h;cases h
inductive Gh where
 |own (t j sz:Nat)
 |frz (t j:Nat)
structure XX where
 c:Ctx
 V:Nat
 df:Bool
 pf:Nat->cI
 gh:Nat->List Gh
 ow:Nat->Nat->Bool
 sg:Nat
 h:Nat
theorem aoo(s:ByteArray)(n:Nat):s[n]? = dq s.data.toList n:=by rw[bE];by_cases h:n<s.size;rw[getElem?_pos s n h,dG ln];rfl;rw[getElem?_neg s n h,Xl ln]
noncomputable def aek (E:bq) (o:Option Operand) (d:Int):Option Int :=
 match o with
 |none=>some d
 |some x=>match wh E x with
  | .d (.v (.int .i64 n))=>some n
  |_=>none
theorem kW(E:bq)(o:Option Operand)(d:Int):aek E o d=rR E o d:=by unfold aek rR;simp only[jh];rfl
noncomputable def SV (c:Ctx) (E:bq) (T:Nat) (x i:Operand):Option AV :=
 match c.ty T with
 |some ⟨_,_,_,.str⟩=>match wh E x with
  | .d (.v (.string s))=>match wh E i with
   | .d (.v (.int .i64 (.ofNat n)))=>match s8 s.data.toList n with
    |some b=>some (.d (.v (.int .u8 b.toNat)))
    |none=>none
   |_=>none
  |_=>none
 |_=>none
noncomputable def aaW (c:Ctx) (pf:Nat->cI) (E:bq) (objs:List Ob) (T:Nat) (x i:Operand):Option AV :=
 match c.ty T with
 |some ⟨_,_,_,.slice e⟩=>match c.ty e with
  |some τ=>match wh E i with
   | .d (.v (.int .i64 (.ofNat n)))=>match wh E x with
    | .ow id s=>match s8 objs id with
     |some (.arr sz s' aa)=>bif Nat.beq s s'&&(Nat.beq τ.size sz&&(Nat.blt n (len aa)&&decide (Fx pf=.load)))then some (.el id s n 0)else none
     |_=>none
    |y=>match lO y with
     | .d (.sl aa)=>match s8 aa n with
      |some row=>bif Nat.beq (len row) τ.size then some (.d (.bL row))else none
      |none=>none
     |_=>none
   |_=>none
  |none=>none
 |_=>none
noncomputable def aaX (c:Ctx) (pf:Nat->cI) (h:Nat) (E:bq) (objs:List Ob) (T:Nat) (x:Operand):Option AV :=
 match c.ty T with
 |some τ=>match wh E x with
  | .el id s r j=>match s8 objs id with
   |some (.arr _ s' aa)=>bif Nat.beq s s'&&decide (kL pf x=.load)then(match s8 aa r with
    |some row=>kJ τ (row.map .d) j
    |none=>none)else none
   |_=>none
  | .lo i off=>match s8 objs i with
   |some (.box l)=>match kL pf x with
    | .look (m+1)=>bif (Nat.blt m 100&&Nat.ble (bif Nat.blt i h then 3 else 10) m)||(Nat.beq m (Nat.add 100 i)||Nat.beq m 10000)then none else kJ τ l off
    |_=>none
   |_=>none
  |_=>none
 |none=>none
noncomputable def SW (c:Ctx) (pf:Nat->cI) (E:bq) (objs:List Ob) (T:Nat) (d x:Operand):Option OU :=
 match c.ty T with
 |some τ=>match wh E d with
  | .lo i off=>match s8 objs i with
   |some (.box l)=>match gn (wh E x)with
    |some new=>bif decide (js pf d=.bT (Nat.add 100 i))&&(Nat.beq (len new) τ.size&&Nat.ble (Nat.add off τ.size) (len l))then some (.set i (.box (gL l off new)))else none
    |none=>none
   |_=>none
  |_=>none
 |none=>none
noncomputable def SX (c:Ctx) (E:bq) (T:Nat) (x:Operand) (lo hi:Option Operand):Option AV :=
 match c.ty T with
 |some ⟨_,_,_,.str⟩=>match wh E x with
  | .d (.v (.string s))=>match aek E lo 0 with
   |some (.ofNat l)=>match aek E hi (len s.data.toList)with
    |some (.ofNat h)=>bif Nat.ble l h&&Nat.ble h (len s.data.toList)then some (.d (.v (.string (s.extract l h))))else none
    |_=>none
   |_=>none
  |_=>none
 |_=>none
noncomputable def aaY (c:Ctx) (E:bq) (S D:Nat) (x:Operand):Option AV :=
 match c.ty S with
 |some ⟨_,_,_,.int _⟩=>match c.ty D with
  |some ⟨_,_,_,.str⟩=>match wh E x with
   | .d (.v (.int _ n))=>some (.d (.v (.string (Utf8.encode n))))
   |_=>none
  |_=>none
 |_=>none
def rr (aa:List (List D))(sz:Nat):Bool:=aa.all λr=>Nat.beq (len r) sz&&r.all λx=>pD (.d x)
noncomputable def agS (c:Ctx) (E:bq) (objs:List Ob) (T T':Nat) (x y:Operand):Option (AV×OU) :=
 match c.ty T with
 |some ⟨_,_,_,.slice e⟩=>match c.ty T' with
  |some ⟨_,_,_,.slice _⟩=>match c.ty e with
   |some τ=>match lO (wh E y)with
    | .d (.sl cz)=>match wh E x with
     | .ow i s=>match s8 objs i with
      | some (.arr sz s' aa)=>bif Nat.beq s s'&&(Nat.beq τ.size sz&&(rr cz sz&&Nat.ble (Nat.mul (Nat.add (len aa) (len cz)) (Nat.succ τ.bytes)) 140737488355328))then VN (aa++cz) λr=>some (.ow i (Nat.succ s),.set i (.arr sz (Nat.succ s) r))else none
      |_=>none
     | .fs aa=>bif rr aa τ.size&&(rr cz τ.size&&(Nat.ble (Nat.mul (Nat.add (len aa) (len cz)) (Nat.succ τ.bytes)) 140737488355328&&(Nat.beq (len aa) 0||Nat.blt 0 (len cz))))then VN (aa++cz) λr=>some (.ow (len objs) 0,.app (.arr τ.size 0 r))else none
     | .d (.v (.slice none 0 0))=>bif rr cz τ.size&&Nat.ble (Nat.mul (Nat.add 0 (len cz)) (Nat.succ τ.bytes)) 140737488355328 then VN cz λr=>some (.ow (len objs) 0,.app (.arr τ.size 0 r))else none
     |_=>none
    |_=>none
   |none=>none
  |_=>none
 |_=>none
noncomputable def agT (c:Ctx) (pf:Nat->cI) (E:bq) (objs:List Ob) (T:Nat) (x:Operand):Option AV :=
 match c.ty T with
 |some ⟨_,_,_,.slice _⟩=>match wh E x with
  | .ow i s=>match s8 objs i with
   |some (.arr _ s' aa)=>bif Nat.beq s s'&&decide (nF pf #[x]=.load)then some (iV (len aa))else none
   |_=>none
  |_=>none
 |some ⟨_,_,_,.str⟩=>match wh E x with
  | .d (.v (.string s))=>some (iV (len s.data.toList))
  |_=>none
 |_=>none
noncomputable def SY (c:Ctx) (E:bq) (objs:List Ob) (T:Nat) (x:Operand):Option (AV×OU) :=
 match c.ty T with
 |some ⟨_,_,_,.str⟩=>match wh E x with
  | .d (.v (.string s))=>some (.lo (len objs) 0,.app (.Jw s 0))
  |_=>none
 |_=>none
noncomputable def aaZ (E:bq) (objs:List Ob) (x:Operand):Option (AV×OU) :=
 match wh E x with
 | .lo i 0=>match s8 objs i with
  | some (.Jw s p)=>bif Nat.blt p (len s.data.toList)then
    (match Utf8.decode s p with|(c,wd)=>some (.cP [.tt,iV p,.d (.v (.int .i32 c))],OU.set i (.Jw s (p+wd))))
   else some (.cP [.ff],.same)
  |_=>none
 |_=>none
noncomputable def aa0 (x:XX) (own:Nat->Bool) (call:z7) (E:bq) (objs:List Ob) (y:Operand) (args:Array Operand) (ts:Array Nat):XR (AV×OU) :=
 match wh E y with
 | .b9 f fs cs=>match bQ x.pf (.call {callee:=.value y,args:=args,argTypes:=ts})with
  | .bT 9=>D7 (call (own f)) none f ((fs++args.toList.map (wh E)++cs).map lO) objs
  | .bT 3=>D7 (call (own f)) (some x.h) f ((fs++args.toList.map (wh E)++cs).map lO) objs
  |_=>.error [1003]
 |_=>.error [1003]
noncomputable def agU (x:XX) (E:bq) (T:Nat) (a b:Operand):Option AV :=bif Nat.beq T x.sg then(match wh E a,wh E b with| .agg [.d (.v (.string s)),.d (.v (.int .i64 m))],.agg [.d (.v (.string t)),.d (.v (.int .i64 n))]=>some (bV (Aq s.data.toList t.data.toList&&decide (m=n)))|_,_=>none)else none
noncomputable def SZ (x:XX) (E:bq) (objs:List Ob) (T n:Nat) (parts:Array (Nat×Operand)):Option (AV×OU) :=
 match x.c.ty T with
 |some ⟨_,_,_,.slice e⟩=>match x.c.ty e with
  |some τ=>match kY (parts.toList.map λp=>(p.1,wh E p.2)) 0 τ.size with
   |some aa=>bif decide (Rn x.pf=.bT 0)&&(Nat.beq (len aa) n&&(Nat.ble (Nat.mul n τ.size) 100000&&Nat.ble n 100000))then VN aa λaa=>some (.ow (len objs) 0,.app (.arr τ.size 0 aa))else none
   |none=>none
  |none=>none
 |_=>none
def exV (o:Option AV):XR (AV×OU):=match o with|some v=>.ok (v,.same)|none=>.error [1003]
def exU (o:Option (AV×OU)):XR (AV×OU):=match o with|some v=>.ok v|none=>.error [1003]
theorem v7{o:Option AV}(h:exV o=.ok (v,u)):o=some v/\u=.same:=by unfold exV at h;split at h<;>cases h;exact⟨rfl,rfl⟩
theorem D8{o:Option (AV×OU)}{x:AV×OU}(h:exU o=.ok x):o=some x:=by unfold exU at h;split at h<;>cases h;rfl
noncomputable def ajS (x:XX) (own:Nat->Bool) (call:z7) (E:bq) (objs:List Ob) (op:Op):XR (AV×OU) :=
 match op with
 | .index T a i=>exV (SV x.c E T a i)
 | .indexAddr T a i=>exV (aaW x.c x.pf E objs T a i)
 | .load T a=>exV (aaX x.c x.pf x.h E objs T a)
 | .store T d a=>exU (match SW x.c x.pf E objs T d a with|some o=>some (.any,o)|none=>none)
 | .slice T a lo hi none=>exV (SX x.c E T a lo hi)
 | .convert S D a=>exV (aaY x.c E S D a)
 | .binOp .eql T a b _=>exV (agU x E T a b)
 | .buildSlice T n parts=>exU (SZ x E objs T n parts)
 | .call {callee:=.builtin .append,args:=⟨[a,b]⟩,argTypes:=⟨[T,T']⟩}=>exU (agS x.c E objs T T' a b)
 | .call {callee:=.builtin .len,args:=⟨[a]⟩,argTypes:=⟨[T]⟩}=>exV (agT x.c x.pf E objs T a)
 | .call {callee:=.value y,args,argTypes}=>aa0 x own call E objs y args argTypes
 | .range T a=>exU (SY x.c E objs T a)
 | .next a true=>exU (aaZ E objs a)
 |_=>.error [1003]
section
variable {g:G} {pf:Nat->cI} {ad:Array Oper} {Fin:Exit->Act->World->Prop} {b7:List Ob} {call:z7}
theorem uh{aa:List (List D)}{sz:Nat}(h:rr aa sz=true):(∀r∈aa,r.length=sz)/\∀r∈aa,∀x∈r,pD (.d x)=true:=by
 refine⟨λr hr=>?_,λr hr x hx=>?_⟩<;>have:=fB.1 h r hr<;>simp only[aV]at this
 rw[<-bp];exact cB this.1;exact fB.1 this.2 x hx
theorem Jn{m n b:Nat}(h:Nat.ble (Nat.mul (Nat.add m n) (Nat.succ b)) 140737488355328=true):(m+n)*b<=140737488355328/\m+n<=140737488355328:=by have h:=ko h;have h':(m+n)*(b+1)<=140737488355328:=h;rw[Nat.mul_add,Nat.mul_one]at h';exact⟨by omega,by omega⟩
theorem aem(hg:GS g b7)(hc:∀w f dW o0 r o1,call w f dW o0=.ok (r,o1)->aU g.P g.Y f dW o0 r o1){x:XX}(wa:x.c=⟨g.ty,g.N⟩)(S3:x.pf=pf)(We:x.h=g.φ0.length)(M5:OC g.P x.sg){own:Nat->Bool}{o:Oper}{az:List Oper}(bt:aH ad.toList E o.guard=some true)(hd:aQ ⟨g.ty,g.N⟩ o.dst=true)
  (h:ajS x own call E objs o.op=.ok (v,u)) (hr:R g pf Fin (.dr ad az::k) (bh E o.dst v) (s9 u objs)):R g pf Fin (.dr ad (o::az)::k) E objs:=by
 obtain⟨dst,op,ty,rL,after,gd⟩:=o;obtain⟨xc,xV,xd,xp,xg,xo,xs,xh⟩:=x;simp only at wa S3 We M5;subst wa;subst S3;subst We;simp only at bt hd h hr;unfold ajS at h;simp only at h;split at h
 ·rename_i T x i;obtain⟨hv,rfl⟩:=v7 h;clear h;unfold SV at hv
  try simp only[jh,gf,kW]at hv
  (repeat' split at hv)<;>cases hv
  exact pG hg.ok bt hd Fj Fj Fj NH (by rw[aoo];assumption) hr
 ·rename_i T x i;obtain⟨hv,rfl⟩:=v7 h;clear h;unfold aaW at hv
  try simp only[jh,gf,kW]at hv
  split at hv
  case h_2=>cases hv
  rename_i hT;split at hv
  case h_2=>cases hv
  rename_i τ he;split at hv
  case h_2=>cases hv
  rename_i n hi;split at hv
  ·rename_i id s hx;split at hv
   case h_2=>cases hv
   rename_i sz s' aa ho;cases hb:(Nat.beq s s'&&(Nat.beq τ.size sz&&(Nat.blt n (len aa)&&decide (Fx xp=.load))));rw[hb]at hv;cases hv;rw [hb]at hv; cases hv;simp only[aV,decide_eq_true_eq,Nat.blt_eq,bp]at hb;obtain rfl:=cB hb.1;exact se hg.ok bt hd hb.2.2.2 hx ho hi hT he (cB hb.2.1) NH hb.2.2.1 hr
  ·split at hv
   case h_2=>cases hv
   rename_i aa hn;split at hv
   case h_2=>cases hv
   rename_i row gY;cases hb:Nat.beq (len row) τ.size;rw[hb]at hv;cases hv;rw [hb]at hv; cases hv;exact dX hg.ok bt hd hn hi hT he NH (by rw[bE]at gY;exact gY) (by rw[<-bp];exact cB hb) hr
 ·rename_i T x;obtain⟨hv,rfl⟩:=v7 h;clear h;unfold aaX at hv
  try simp only[jh,gf,kW]at hv
  split at hv
  case h_2=>cases hv
  rename_i τ hT;split at hv
  ·rename_i id s r j hx;split at hv
   case h_2=>cases hv
   rename_i sz s' aa ho;cases hb:(Nat.beq s s'&&decide (kL xp x=.load));rw[hb]at hv;cases hv
   ·rw [hb]at hv;simp only[aV,decide_eq_true_eq]at hb;obtain rfl:=cB hb.1;simp only[cond_true]at hv;split at hv
    case h_2=>cases hv
    rename_i row gY;exact AG hg.ok bt hd hb.2 hx ho hT (by rw[bE]at gY;exact gY) hv hr
  ·rename_i i off hx;split at hv
   case h_2=>cases hv
   rename_i l ho;split at hv
   case h_2=>cases hv
   rename_i m hm;cases hb:((Nat.blt m 100&&Nat.ble (bif Nat.blt i g.φ0.length then 3 else 10) m)||(Nat.beq m (Nat.add 100 i)||Nat.beq m 10000));rw [hb]at hv;simp only[Ez]at hb;refine Hh hg.ok m ?_ bt hd hm hx ho hT hv hr;rintro(⟨h1,h2⟩|h1|⟨h1,_⟩)
   have:(bif Nat.blt i g.φ0.length then 3 else 10)<=m:=by
    simp only[Ob.lvl]at h2;cases hi:Nat.blt i g.φ0.length;have:¬ i<g.φ0.length:=λh=>by rw [<-Nat.blt_eq,hi]at h; cases h
    rw[if_neg this]at h2;exact h2;have:i<g.φ0.length:=by rw [Nat.blt_eq]at hi; exact hi
    rw[if_pos this]at h2;exact h2
   have h3:Nat.blt m 100=true:=by rw[Nat.blt_eq];exact h1
   rw[h3,Xh this]at hb;simp at hb;subst h1;have:=hb.2.1;rw[show Nat.beq (100+i) (Nat.add 100 i)=true from Nat.beq_refl _]at this;cases this;subst h1;simp at hb;rw[hb]at hv;cases hv
  cases hv
 ·rename_i T d x;have hv:=D8 h;split at hv<;>cases hv
  rename_i hv;unfold SW at hv
  try simp only[jh,gf,kW]at hv
  split at hv
  case h_2=>cases hv
  rename_i τ hT;split at hv
  case h_2=>cases hv
  rename_i i off hx;split at hv
  case h_2=>cases hv
  rename_i l ho;split at hv
  case h_2=>cases hv
  rename_i new hn;cases hb:(decide (js xp d=.bT (Nat.add 100 i))&&(Nat.beq (len new) τ.size&&Nat.ble (Nat.add off τ.size) (len l)));rw[hb]at hv;cases hv;rw [hb]at hv; cases hv;simp only[aV,decide_eq_true_eq]at hb;exact Bc hg.ok bt hd hb.1 hx ho hT hn hb.2.1 hb.2.2 hr
 ·rename_i T x lo hi;obtain⟨hv,rfl⟩:=v7 h;clear h;unfold SX at hv
  try simp only[jh,gf,kW]at hv
  split at hv
  case h_2=>cases hv
  rename_i hT;split at hv
  case h_2=>cases hv
  rename_i s hx;split at hv
  case h_2=>cases hv
  rename_i l hl;split at hv
  case h_2=>cases hv
  rename_i m hm;cases hb:(Nat.ble l m&&Nat.ble m (len s.data.toList));rw[hb]at hv;cases hv;rw [hb]at hv; cases hv;simp only[aV]at hb;have e:len s.data.toList=s.size:=by rw[bp];rfl
  rw[e]at hm hb;have h1:=ko hb.1;have h2:=ko hb.2;exact Yd hg.ok bt hd hx hl hm hT NH (Int.ofNat_le.2 h1) (Int.ofNat_le.2 h2) hr
 ·rename_i S D x;obtain⟨hv,rfl⟩:=v7 h;clear h;unfold aaY at hv
  try simp only[jh,gf,kW]at hv
  (repeat' split at hv)<;>cases hv
  exact RW hg.ok _ bt hd Fj Fj Fj rfl hr
 rename_i T a b _;obtain⟨hv,rfl⟩:=v7 h;clear h;unfold agU at hv;simp only[jh]at hv;cases hb:Nat.beq T xs;rw[hb]at hv;cases hv;rw[hb]at hv;simp only[cond_true]at hv;split at hv<;>cases hv
 rename_i s m t n ha uL;obtain rfl:=cB hb;have e:(Aq s.data.toList t.data.toList&&decide (m=n))=decide (((s,m):Sg)=(t,n)):=by rw[<-D4,o5,aV,Tm.bn,decide_eq_true_eq,decide_eq_true_eq,Prod.mk.injEq]
 rw[e]at hr;exact R9 hg.ok (s,m) (t,n) M5 bt hd ha uL hr
 ·rename_i T n parts;have h:=D8 h;unfold SZ at h;simp only[jh]at h;split at h
  case h_2=>cases h
  rename_i hT;split at h
  case h_2=>cases h
  rename_i τ he;split at h
  case h_2=>cases h
  rename_i aa eE;cases hb:(decide (Rn xp=.bT 0)&&(Nat.beq (len aa) n&&(Nat.ble (Nat.mul n τ.size) 100000&&Nat.ble n 100000)));rw[hb]at h;cases h;rw [hb]at h;simp only[cond_true,xY,Option.some.injEq,Prod.mk.injEq]at h;obtain⟨rfl,rfl⟩:=h;simp only[aV,decide_eq_true_eq,bp]at hb;exact Lg hg.ok aa bt hd hb.1 hT he eE (cB hb.2.1) rfl (ko hb.2.2.1) (ko hb.2.2.2) hr
 ·rename_i x y T T';have h:=D8 h;unfold agS at h
  try simp only[jh,gf,kW]at h
  split at h
  case h_2=>cases h
  rename_i hT;split at h
  case h_2=>cases h
  rename_i lf;split at h
  case h_2=>cases h
  rename_i τ he;split at h
  case h_2=>cases h
  rename_i cz hy;split at h
  ·rename_i i s hx;split at h
   case h_2=>cases h
   rename_i sz s' aa ho;cases hb:(Nat.beq s s'&&(Nat.beq τ.size sz&&(rr cz sz&&Nat.ble (Nat.mul (Nat.add (len aa) (len cz)) (Nat.succ τ.bytes)) 140737488355328)));rw[hb]at h;cases h;rw [hb]at h;simp only[cond_true,xY,Option.some.injEq,Prod.mk.injEq]at h;obtain⟨rfl,rfl⟩:=h;simp only[aV,bp]at hb;obtain rfl:=cB hb.1;have h1:=uh hb.2.2.1;have h2:=Jn hb.2.2.2;exact cR hg.ok _ bt hd hx ho hy hT lf he (cB hb.2.1) h1.1 h1.2 rfl h2.1 h2.2 hr
  rename_i aa hx;cases hb:(rr aa τ.size&&(rr cz τ.size&&(Nat.ble (Nat.mul (Nat.add (len aa) (len cz)) (Nat.succ τ.bytes)) 140737488355328&&(Nat.beq (len aa) 0||Nat.blt 0 (len cz)))));rw[hb]at h;cases h;rw [hb]at h;simp only[cond_true,xY,Option.some.injEq,Prod.mk.injEq]at h;obtain⟨rfl,rfl⟩:=h;simp only[aV,bp,oy]at hb;have h2:=Jn hb.2.2.1;refine nh hg.ok bt hd (.inl hx) hy (hb.2.2.2.imp (λh=>Xm (cB h)) λh e=>by subst e;cases h) hT lf he (uh hb.1).1 (uh hb.2.1).1 h2.1 h2.2 hr;rename_i hx;cases hb:(rr cz τ.size&&Nat.ble (Nat.mul (Nat.add 0 (len cz)) (Nat.succ τ.bytes)) 140737488355328);rw[hb]at h;cases h;rw [hb]at h;simp only[cond_true,xY,Option.some.injEq,Prod.mk.injEq]at h;obtain⟨rfl,rfl⟩:=h;simp only[aV,bp]at hb;have h2:=Jn hb.2;exact nh hg.ok (aa:=[]) bt hd (.inr ⟨hx,rfl⟩) hy (.inl rfl) hT lf he aD (uh hb.1).1 h2.1 h2.2 hr;cases h
 ·rename_i x T;obtain⟨hv,rfl⟩:=v7 h;clear h;unfold agT at hv
  try simp only[jh,gf,kW]at hv
  split at hv
  case h_3=>cases hv
  case h_2=>
   rename_i hT;split at hv
   case h_2=>cases hv
   rename_i s hx;cases hv;exact YG hg.ok bt hd hx hT (by rw[bp];rfl) hr
  rename_i hT;split at hv
  case h_2=>cases hv
  rename_i i s hx;split at hv
  case h_2=>cases hv
  rename_i sz s' aa ho;cases hb:(Nat.beq s s'&&decide (nF xp #[x]=.load));rw[hb]at hv;cases hv;rw [hb]at hv; cases hv;simp only[aV,decide_eq_true_eq]at hb;obtain rfl:=cB hb.1;exact u2 hg.ok bt hd hx ho hT (by rw[bp]) hr hb.2
 ·rename_i x args ts;unfold aa0 at h
  try simp only[jh,gf,kW]at h
  split at h
  case h_2=>cases h
  rename_i f fs cs hx;split at h;rename_i dK;obtain⟨is,dW,o0,r,o1,h1,h2,h3,h4,h5,_⟩:=y4 h;cases h5;exact aj hg.ok hg.cm hg.wide hg.Y is _ (hc _ _ _ _ _ _ h1) cN bt hd dK hx h2 h3 h4 rfl hr;rename_i dK;obtain⟨is,dW,o0,r,o1,h1,h2,h3,h4,h5,h6⟩:=y4 h;cases h5;exact jM hg.ok hg.cm hg.wide hg.Y is _ (hc _ _ _ _ _ _ h1) cN (h6 _ rfl) bt hd dK hx h2 h3 h4 rfl hr;cases h
 ·rename_i T x;have h:=D8 h;unfold SY at h
  try simp only[jh,gf,kW]at h
  split at h
  case h_2=>cases h
  rename_i hT;split at h
  case h_2=>cases h
  rename_i s hx;cases h;exact Cc hg.ok bt hd hx hT hr
 ·rename_i x;have h:=D8 h;unfold aaZ at h
  try simp only[jh,gf,kW]at h
  split at h
  case h_2=>cases h
  rename_i i hx;split at h
  case h_2=>cases h
  rename_i s p ho;have e:len s.data.toList=s.size:=by rw[bp];rfl
  rw[e]at h;cases hb:Nat.blt p s.size;rw [hb]at h; cases h;exact HY hg.ok bt hd hx ho (Nat.le_of_not_lt λh=>by rw[<-Nat.blt_eq,hb]at h;cases h) hr;rw [hb]at h;cases h;rw[Nat.blt_eq]at hb;exact HX hg.ok bt hd hx ho hb rfl hr
 cases h
def Wf (v:AV):AV:=match v with| .d (.v (.bool b))=>bif b then .tt else .ff|v=>v
theorem S4(v:AV):bJ v (Wf v):=by unfold Wf;split;rename_i b;cases b;exact X3 rfl;exact X2 rfl;exact .refl _
theorem ajT{dst:Option Nat}(V:Nat)(h:R g pf Fin k (G6 V E dst (Wf v)) objs):R g pf Fin k (bh E dst v) objs :=h.Ag λu=>by rw[aaP,gz,gz];split;exact S4 v;exact .refl _
noncomputable def aa1 (t:Ty) (l:List AV) (off:Nat):Option AV:=match t.agg with|true=>kJ t l off|false=>s8 l off
noncomputable def exL (ty:Nat->Option Ty) (ρ:Operand->AV) (objs:List Ob) (op:Op):Option AV:=match op with
 | .load T a=>match ty T with
  |some τ=>match ρ a with
   | .lo i off=>match s8 objs i with
    |some (.box l)=>aa1 τ l off
    |_=>none
   | .d (.bL l)=>kJ τ (l.map .d) 0
   |_=>none
  |none=>none
 |op=>fc ty ρ objs op
theorem ajU(ty:Nat->Option Ty)(ρ:Operand->AV)(objs:List Ob)(op:Op):exL ty ρ objs op=fc ty ρ objs op:=by
 unfold exL;split;simp only [fc,gf];have e:∀(t:Ty) (l:List AV) (off:Nat),aa1 t l off=kJ t l off:=λt l off=>by unfold aa1 kJ;cases t.agg<;>simp only[gf]
 simp only[e];rfl;rfl
noncomputable def exE (ty:Nat->Option Ty) (ρ:Operand->AV) (objs:List Ob) (op:Op):Option (AV×OU):=match op with
 | .alloc T=>match ty T with
  |some τ=>some (.lo (len objs) 0,.app (.box (τ.zero.map λx=>.d (.v x))))
  |none=>none
 | .box T x=>match ty T with
  |some τ=>match gn (ρ x)with
   |some l=>bif Nat.beq (len l) τ.size then some (.lo (len objs) 0,.app (.box l))else none
   |none=>none
  |none=>none
 | .store T a x=>match ty T with
  |some τ=>match gn (ρ x)with
   |some new=>bif Nat.beq (len new) τ.size then(match ρ a with
    | .lo i off=>match s8 objs i with
     |some (.box l)=>bif Nat.ble (Nat.add off τ.size) (len l)then some (.any,.set i (.box (gL l off new)))else none
     |_=>none
    |_=>none)else none
   |none=>none
  |none=>none
 |_=>none
theorem ajV{ty:Nat->Option Ty}{ρ:Operand->AV}{op:Op}(h:exE ty ρ objs op=some (v,u)):iL ty ρ objs op=some (v,s9 u objs):=by
 unfold exE at h;simp only[gf]at h;split at h;split at h <;> cases h
 rename_i hT;simp only[iL,hT,s9]
 ·split at h <;> try (cases h; done)
  rename_i τ hT;split at h<;>try (cases h;done)
  rename_i l hl;cases hb:Nat.beq (len l) τ.size;rw[hb]at h;cases h;rw [hb]at h; cases h;simp only[iL,hT,hl,hb,s9,cond_true]
 ·split at h <;> try (cases h; done)
  rename_i τ hT;split at h<;>try (cases h;done)
  rename_i new hl;cases hb:Nat.beq (len new) τ.size;rw[hb]at h;cases h
  ·rw [hb]at h;simp only[cond_true]at h;split at h<;>try (cases h;done)
   rename_i i off ha;split at h<;>try (cases h;done)
   rename_i l ho;cases hc:Nat.ble (Nat.add off τ.size) (len l);rw[hc]at h;cases h;rw [hc]at h; cases h;simp only[iL,hT,hl,hb,ha,ho,hc,s9,cond_true]
 cases h
noncomputable def rM (x:XX) (own:Nat->Bool) (call:z7) (all:List Oper):List Oper->bq->List Ob->XR (bq×List Ob)
 |[],E,objs=>.ok (E,objs)
 | o::r,E,objs=>bif aQ x.c o.dst then
   match P9 all E o.guard with
   |some true=>
    match (bif held (jQ x.pf) o.op then none else aaV x.c.ty (wh E) o.op)with
    |some v=>Qd v λv=>Qa x.V E o.dst (Wf v) λE=>rM x own call all r E objs
    |none=>match (bif held (jQ x.pf) o.op then none else exL x.c.ty (wh E) objs o.op)with
     |some v=>Qd v λv=>Qa x.V E o.dst (Wf v) λE=>rM x own call all r E objs
     |none=>match (bif held (jQ x.pf) o.op then none else exE x.c.ty (wh E) objs o.op)with
      |some (v,u)=>Qd v λv=>doU u objs λobjs=>Qa x.V E o.dst (Wf v) λE=>rM x own call all r E objs
      |none=>match ajS x own call E objs o.op with
       | .ok (v,u)=>Qd v λv=>doU u objs λobjs=>Qa x.V E o.dst (Wf v) λE=>rM x own call all r E objs
       | .error e=>.error (e++[1004,o.dst.getD 0])
   |some false=>Qa x.V E o.dst (.cP []) λE=>rM x own call all r E objs
   |none=>.error [1005,o.dst.getD 0]
  else .error [1006]
theorem ta(hg:GS g b7)(hc:∀w f dW o0 r o1,call w f dW o0=.ok (r,o1)->aU g.P g.Y f dW o0 r o1){x:XX}(wa:x.c=⟨g.ty,g.N⟩)(S3:x.pf=pf)(We:x.h=g.φ0.length)(M5:OC g.P x.sg){own:Nat->Bool}{k:List It}{E':bq}{objs':List Ob}(hk:mR k=true)(hr:R g pf Fin k E' objs'):∀(l:List Oper) (E:bq) (objs:List Ob),rM x own call ad.toList l E objs=.ok (E',objs')->R g pf Fin (.dr ad l::k) E objs
 |[],E,objs,h=>by simp only[rM,Except.ok.injEq,Prod.mk.injEq]at h;obtain⟨rfl,rfl⟩:=h;exact XZ (iD hk) hr
 |o::r,E,objs,h=>by
  simp only[rM,jh,VM,ajU,wa,S3]at h;cases hd:aQ ⟨g.ty,g.N⟩ o.dst;rw[hd]at h;cases h;rw[hd]at h;simp only[cond_true]at h;split at h;rename_i bt;have ih:=ta hg hc wa S3 We M5 (own:=own) hk hr r;have key:∀(v:AV) (o1:List Ob),dk g.ty (ev E) objs o.op=some (v,o1)->held (jQ pf) o.op=false->rM x own call ad.toList r (G6 x.V E o.dst (Wf v)) o1=.ok (E',objs')->R g pf Fin (.dr ad (o::r)::k) E objs :=λv o1 hs hh he=>Wm hg.ok hh bt hd hs (ajT x.V (ih _ _ he))
  split at h;rename_i v hv;cases hh:held (jQ pf) o.op;rw [hh]at hv;simp only[D0,xX]at h;exact key v objs (by rw[cond_false,D5]at hv;simp only[dk,hv]) hh h;rw[hh]at hv;cases hv;rename_i hv;split at h;rename_i v yr;cases hh:held (jQ pf) o.op;rw [hh]at hv yr;simp only[D0,xX]at h;exact key v objs (by rw[cond_false,D5]at hv;rw[cond_false]at yr;simp only[dk,hv,yr]) hh h;rw[hh]at yr;cases yr;rename_i yr;split at h;rename_i v u hv3;cases hh:held (jQ pf) o.op;rw [hh]at hv yr hv3;simp only[D0,xX,aaU]at h;exact key v _ (by rw[cond_false,D5]at hv;rw[cond_false]at yr hv3;simp only[dk,hv,yr,ajV hv3]) hh h;rw[hh]at hv3;cases hv3;split at h;rename_i v u hv4;simp only[D0,xX,aaU]at h;exact aem hg hc wa S3 We M5 bt hd hv4 (ajT x.V (ih _ _ h));cases h;rename_i bt;simp only[xX]at h;have e:Wf (.cP [])=.cP []:=rfl;exact cU (aK.skip hg.ok (cT bt) (dI hd)) (ajT x.V (ta hg hc wa S3 We M5 hk hr r _ _ h));cases h
inductive XI where
 |code (c:Code)
 |jK (id:Nat)
 |lp (m:Nat) (b:Code)
def G7 (id:Nat):List XI->Option (List XI)| .jK j::k=>bif Nat.beq j id then some k else G7 id k| .code _::k=>G7 id k| .lp _ _::k=>G7 id k|[]=>none
def aen:List XI->Bool|[]=>true| .lp _ _::_=>false|_::k=>aen k
def Rnd (g:G) (pf:Nat->cI) (Fin:Exit->Act->World->Prop) (b:Code) (k:List It):Nat->bq->List Ob->Prop|0,_,_=>False|m+1,E,objs=>R g pf Fin (.code b :: .mark (Rnd g pf Fin b k m)::k) E objs
theorem aoq{b:Code}(m:Nat)(h:Rnd g pf Fin b k m E objs):R g pf Fin (.code (.loop b)::k) E objs:=by
 rintro⟨ov,ho⟩ a w hs;simp only[fI]at ov;simp only[KP];refine wpIn_loop_rounds m ?_;induction m generalizing E objs a w with
 |zero=>exact h.elim
 |succ m ih=>
  have h1:=RK.ej (pf:=pf) (k:=.code b :: .mark (Rnd g pf Fin b k m)::k) ⟨ov,ho⟩ h aD a w hs;refine wpIn_mono h1 λe a' w' hk=>?_
  cases e<;>first
   |exact hk
   | (obtain ⟨E',objs',h2,h3⟩:=hk
      exact ih h2 _ _ h3)
theorem ajW{b:Code}{m:Nat}(h:R g pf Fin (.code b :: .mark (Rnd g pf Fin b k m)::k) E objs):R g pf Fin (.code (.loop b)::k) E objs:=aoq (m+1) h
def qD (g:G) (pf:Nat->cI) (Fin:Exit->Act->World->Prop):List XI->List It|[]=>[]| .code c::k=>.code c::qD g pf Fin k| .jK i::k=>.jK i::qD g pf Fin k| .lp m b::k=>.mark (Rnd g pf Fin b (qD g pf Fin k) m)::qD g pf Fin k
theorem Ba:∀(k:List XI),mR (qD g pf Fin k)=true|[]=>rfl| .code _::k=>Ba k| .jK _::k=>Ba k| .lp _ _::k=>Ba k
theorem Jo{g':G}:∀(k:List XI),aen k=true->qD g pf Fin k=qD g' pf Fin k/\Oh (qD g pf Fin k)=true|[],_=>⟨rfl,rfl⟩| .code c::k,h=>by have:=Jo (g':=g') k h;exact⟨by simp only[qD,this.1],this.2⟩| .jK _::k,h=>by have:=Jo (g':=g') k h;exact⟨by simp only[qD,this.1],this.2⟩| .lp _ _::k,h=>by cases h
theorem xZ{id:Nat}:∀{k k':List XI},G7 id k=some k'->iM id (qD g pf Fin k)=some (qD g pf Fin k')
 |[],_,h=>by cases h
 | .code _::k,_,h=>xZ (k:=k) h
 | .lp _ _::k,_,h=>xZ (k:=k) h
 | .jK j::k,k',h=>by simp only[G7]at h;simp only[qD,iM];cases hb:Nat.beq j id;rw[hb]at h;exact xZ (k:=k) h;rw[hb]at h;cases h;rfl
abbrev DF:=List (Nat×List AV×List AV)
def exG:List Gh->bq->List Ob->Option (bq×List Ob)
 |[],E,objs=>some (E,objs)
 | .own t j sz::l,E,objs=>match lk E t with
  | .lo i _=>match dq objs i with
   |some (.box b)=>match dq b j with
    |some (.d (.v (.slice none 0 0)))=>exG l E (dj objs i (.box (dj b j (.ow (len objs) 0)))++[.arr sz 0 []])
    |_=>none
   |_=>none
  |_=>none
 | .frz t j::l,E,objs=>match lk E t with
  | .lo i _=>match dq objs i with
   |some (.box b)=>match dq b j with
    |some (.ow m _)=>match dq objs m with
     |some (.arr _ s aa)=>exG l (qP (kp m s aa) E) (dj (objs.map (aR (kp m s aa))) m .dead)
     |_=>none
    |_=>none
   |_=>none
  |_=>none
theorem Qf(hu:JC g)(jP:g.rZ=[]){k:List It}(ht:gM k=true){E':bq}{objs':List Ob}(hr:R g pf Fin k E' objs'):∀(l:List Gh) (E:bq) (objs:List Ob),exG l E objs=some (E',objs')->R g pf Fin k E objs
 |[],E,objs,h=>by simp only[exG,Option.some.injEq,Prod.mk.injEq]at h;obtain⟨rfl,rfl⟩:=h;exact hr
 | .own t j sz::l,E,objs,h=>by
  simp only[exG]at h
  (repeat' split at h)<;>try (cases h;done)
  rename_i i _ _ _ b ho _ hb;exact mx i j sz ho hb ht (Qf hu jP ht hr l _ _ h)
 | .frz t j::l,E,objs,h=>by
  simp only[exG]at h
  (repeat' split at h)<;>try (cases h;done)
  rename_i ho;exact BS hu _ ho ht (Qf hu jP ht hr l _ _ h) jP
def aor (ad:List Oper):Option (Operand×Array Operand):=match ad.drop (Nat.pred (len ad))with|[⟨none,.defer {callee:=.value x,args,argTypes:=_},_,_,_,none⟩]=>some (x,args)|_=>none
noncomputable def wi (x:XX) (call:z7):Nat->List XI->bq->List Ob->DF->XR (bq×List Ob×DF)
 |0,_,_,_,_=>.error [1010]
 |_+1,[],E,objs,d=>.ok (E,objs,d)
 |n+1,.jK _::k,E,objs,d=>wi x call n k E objs d
 |n+1,.lp m b::k,E,objs,d=>match m with
  |0=>.error [1011]
  |m+1=>wi x call n (.code b :: .lp m b::k) E objs d
 |n+1,.code cd::k,E,objs,d=>match cd with
  | .seq a b=>wi x call n (.code a :: .code b::k) E objs d
  | .skip=>wi x call n k E objs d
  | .block id b=>wi x call n (.code b :: .jK id::k) E objs d
  | .exit id=>match G7 id k with
   |some k=>wi x call n k E objs d
   |none=>.error [1012]
  | .cond y a b=>match wh E y with
   | .tt=>wi x call n (.code a::k) E objs d
   | .ff=>wi x call n (.code b::k) E objs d
   |_=>.error [1013]
  | .loop b=>wi x call n (.code b :: .lp 10000 b::k) E objs d
  | .ret=>.ok (E,objs,d)
  | .region id ad dr=>SN x.V E λE=>match (bif x.df then aor ad.toList else none)with
   | some (y,args)=>bif aen k&&!dr then
     match rM x (x.ow id) call ad.toList (ad.toList.take (Nat.pred (len ad.toList))) E objs with
     | .ok (E,objs)=>match wh E y with
      | .b9 f fs cs=>wi x call n k E objs ((f,fs++args.toList.map (wh E),cs)::d)
      |_=>.error [1014]
     | .error e=>.error (e++[id])
    else .error [1015]
   | none=>bif jQ x.pf (Nat.add 900000000 id)then .error [1016]else
    match x.gh id,d with
    |[],d=>match rM x (x.ow id) call ad.toList ad.toList E objs with
     | .ok (E,objs)=>wi x call n k E objs d
     | .error e=>.error (e++[id])
    |l,[]=>match exG l E objs with
     |some (E,objs)=>SQ objs λobjs=>match rM x (x.ow id) call ad.toList ad.toList E objs with
      | .ok (E,objs)=>wi x call n k E objs []
      | .error e=>.error (e++[id])
     |none=>.error [1017,id]
    |_,_=>.error [1018]
  |_=>.error [1019]
theorem aa2{E':bq}{objs':List Ob}{d':DF}:∀(n:Nat) (g:G) (x:XX) (k:List XI) (E:bq) (objs:List Ob) (d:DF),GS g b7->g.XN=false->g.rZ=d->(∀w f dW o0 r o1,call w f dW o0=.ok (r,o1)->aU g.P g.Y f dW o0 r o1)->x.c=⟨g.ty,g.N⟩->x.pf=pf->x.h=g.φ0.length->OC g.P x.sg ->
  wi x call n k E objs d=.ok (E',objs',d')->(∀k,R (FM g d') pf Fin (.code .ret::k) E' objs')->R (FM g d') pf Fin [] E' objs'->R g pf Fin (qD g pf Fin k) E objs:=by
 intro n;induction n with
 |zero=>intro g x k E objs d _ _ _ _ _ _ _ _ h _ _;simp only[wi]at h;cases h
 |succ n ihn=>
  intro g x k E objs d hg hm hd hc wa S3 We M5 h h1 h2;have ih:=λ(k:List XI) (E:bq) (objs:List Ob) (h:wi x call n k E objs d=.ok (E',objs',d'))=>ihn g x k E objs d hg hm hd hc wa S3 We M5 h h1 h2
  have EC:=Ba (g:=g) (pf:=pf) (Fin:=Fin);cases k with
  |nil=>simp only[wi,Except.ok.injEq,Prod.mk.injEq]at h;obtain⟨rfl,rfl,rfl⟩:=h;subst hd;exact h2
  |cons i k=>
   cases i with
   |jK id=>simp only[wi]at h;exact eW hg.ok 1 (EC k) ab4 (ih _ _ _ h)
   |lp m b=>
    cases m with
    |zero=>simp only[wi]at h;cases h
    |succ m=>simp only[wi]at h;exact yC (ih (.code b :: .lp m b::k) _ _ h)
   |code cd=>
    cases cd with
    |seq a b=>simp only[wi]at h;exact eW hg.ok 1 (EC k) ab4 (ih (.code a :: .code b::k) _ _ h)
    |skip=>simp only[wi]at h;exact eW hg.ok 1 (EC k) ab4 (ih _ _ _ h)
    |block id b=>simp only[wi]at h;exact eW hg.ok 1 (EC k) ab4 (ih (.code b :: .jK id::k) _ _ h)
    |exit id=>simp only[wi]at h;split at h;rename_i k1 aI;exact eW hg.ok 1 (EC k) (by simp only[qD,km,xZ aI]) (ih _ _ _ h);cases h
    |cond y a b=>simp only[wi,jh]at h;split at h;rename_i hx;exact eW hg.ok 1 (EC k) (by simp only[qD,km,hx]) (ih (.code a::k) _ _ h);rename_i hx;exact eW hg.ok 1 (EC k) (by simp only[qD,km,hx]) (ih (.code b::k) _ _ h);cases h
    |loop b=>simp only[wi]at h;exact ajW (ih (.code b :: .lp 10000 b::k) _ _ h)
    |ret=>simp only[wi,Except.ok.injEq,Prod.mk.injEq]at h;obtain⟨rfl,rfl,rfl⟩:=h;subst hd;exact h1 _
    |region id ad dr=>simp only[wi,DZ,jh,S3]at h;refine R.Ag (Qc x.V E) ?_;generalize oi x.V E=E at h;split at h;rename_i y args jP;cases V7:x.df;rw[V7]at jP;cases jP;rw[V7]at jP;simp only[cond_true]at jP;cases hb:(aen k&&!dr);rw[hb]at h;cases h;rw[hb]at h;simp only[cond_true]at h;simp only[aV,wE]at hb;obtain⟨Sf,rfl⟩:=hb;split at h;rename_i E1 bc ho;split at h;rename_i f fs cs hx;unfold aor at jP;split at jP;rename_i hl;cases jP;have hk:=Jo (g:=g) (pf:=pf) (Fin:=Fin) (g':=FM g ((f,fs++args.toList.map (ev E1),cs)::d)) k Sf;refine oP hg.ok hm hg.wide (Nat.pred (len ad.toList)) hl ?_ (EC k) hk.2;refine ta (k:=.mark _::qD g pf Fin k) hg hc wa S3 We M5 (EC k) ?_ _ _ _ ho;refine yC ⟨f,fs,cs,hx,?_⟩;rw[hk.1,hd];exact ihn (FM g ((f,fs++args.toList.map (ev E1),cs)::d)) x k E1 bc _ (hg.sw _) hm rfl hc wa S3 We M5 h h1 h2;cases jP;cases h;cases h;cases hh:jQ pf (Nat.add 900000000 id);rw [hh]at h;simp only[cond_false]at h;split at h;split at h;rename_i E1 bc ho;exact BM hg.ok hh (ta hg hc wa S3 We M5 (EC k) (ih _ _ _ h) _ _ _ ho);cases h;split at h;rename_i E1 bc hgh;simp only[D1]at h;split at h;rename_i E2 ek ho;exact Qf hg.cm hd rfl (BM hg.ok hh (ta hg hc wa S3 We M5 (EC k) (ih _ _ _ h) _ _ _ ho)) _ _ _ hgh;cases h;cases h;cases h;rw[hh]at h;cases h
    |_=>simp only[wi]at h;cases h
structure XF where
 fn:Func
 cd:Code
 pf:Nat->cI
 gh:Nat->List Gh
 v:Nat
 df:Bool
 ow:Nat->Nat->Bool
def XF.xx (x:XF)(ty:Nat->Option Ty)(sg h:Nat):XX:=⟨⟨ty,x.fn.ntmps⟩,x.v,x.df,x.pf,x.gh,x.ow,sg,h⟩
def M6 (ty:Nat->Option Ty)(results:List ResultVar)(n0:Nat)(E:bq)(objs:List Ob):XR (AV×List Ob):=match oK ty E objs results with|some av=>.ok (bZ true n0 objs 30 av,(objs.take n0).map (aR (bZ false n0 objs 30)))|none=>.error [1020]
noncomputable def Qg (ty:Nat->Option Ty) (results:List ResultVar) (n0:Nat) (E:bq) (objs:List Ob):XR (AV×List Ob):=match oK ty E objs results with
 |some (.ow i _)=>match s8 objs i with
  |some (.arr sz s aa)=>bif Nat.ble n0 i then M6 ty results (Nat.succ n0) (qP (mvA n0 i) E) ((objs.take n0).map (aR (dD n0))++[.arr sz s aa])else .error [1026]
  |_=>.error [1026]
 |_=>.error [1026]
noncomputable def S5 (ty:Nat->Option Ty) (sg:Nat) (M7:Nat->Option XF) (call:z7) (fin:XF->bq->List Ob->DF->XR (AV×List Ob)) (f:Nat) (dW:List AV) (objs:List Ob):XR (AV×List Ob):=match M7 f with
 | some x=>bif Nat.ble (len dW) x.fn.ntmps then
   match wi (x.xx ty sg (len objs)) call 100000 [.code x.cd] (qP Wf (l3 dW 0)) objs []with
   | .ok (E,o1,d)=>match fin x E o1 d with
    | .ok (r,o2)=>bif Nat.ble (len objs) (len o2)then .ok (r,o2)else .error [f,1021]
    | .error e=>.error (f::e)
   | .error e=>.error (f::e)
  else .error [f,1023]
 |none=>.error [f,1024]
noncomputable def exD (ty:Nat->Option Ty) (sg:Nat) (M7:Nat->Option XF) (call:z7) (f:Nat) (dW:List AV) (objs:List Ob):XR (AV×List Ob) :=S5 ty sg M7 call (λx E o1 d=>match d with|[]=>M6 ty x.fn.results.toList (len objs) E o1|_=>.error [1022]) f dW objs
noncomputable def M8 (ty:Nat->Option Ty) (dc:Nat->List AV->List Ob->XR (AV×List Ob)) (results:List ResultVar) (n0:Nat):DF->bq->List Ob->XR (AV×List Ob)
 |[],E,objs=>M6 ty results n0 E objs
 |(f,fs,cs)::d,E,objs=>match D7 dc none f ((fs++cs).map lO) objs with
  | .ok (_,u)=>M8 ty dc results n0 d E (s9 u objs)
  | .error e=>.error e
noncomputable def exF (ty:Nat->Option Ty) (sg:Nat) (M7:Nat->Option XF) (VQ:Nat->List AV->List Ob->Option (AV×List Ob)):Nat->z7
 |0=>λ_ f _ _=>.error [f,1025]
 |n+1=>λw f dW objs=>match VQ f dW objs with
  |some x=>.ok x
  |none=>S5 ty sg M7 (exF ty sg M7 VQ n) (λx E o1 d=>match w,d with
   |true,[]=>Qg ty x.fn.results.toList (len objs) E o1
   |true,_=>.error [1027]
   |false,d=>M8 ty (exD ty sg M7 (exF ty sg M7 VQ n)) x.fn.results.toList (len objs) d E o1) f dW objs
theorem agV(dW:List AV):∀(k:Nat),Af (l3 dW k) (qP Wf (l3 dW k)):=by
 induction dW with
 |nil=>intro k t;exact .refl _
 |cons a dW ih=>intro k t;simp only[l3,qP,lk];cases Nat.beq k t;exact ih _ t;exact S4 a
def S6 (P:Program)(M7:Nat→Option XF):Prop:=∀f x,M7 f=some x→P.funcs[f]? = some x.fn∧x.fn.body=some x.cd∧(x.fn.name == "runtime.NumGoroutine")=false∧fI x.pf x.cd=true
variable {P:Program} {ty:Nat->Option Ty} {M7:Nat->Option XF} {Y:YP} {sg:Nat}
theorem M9{fin:XF->bq->List Ob->DF->XR (AV×List Ob)}(h:S5 ty sg M7 call fin f dW objs=.ok (r,o2)) :
  ∃x E o1 d,M7 f=some x/\dW.length<=x.fn.ntmps/\objs.length<=o2.length/\wi (x.xx ty sg objs.length) call 100000 [.code x.cd] (qP Wf (l3 dW 0)) objs []=.ok (E,o1,d)/\fin x E o1 d=.ok (r,o2):=by
 unfold S5 at h;split at h
 case h_2=>cases h
 rename_i x hx;cases hb:Nat.ble (len dW) x.fn.ntmps;rw[hb]at h;cases h;rw[hb]at h;simp only[cond_true]at h;split at h
 case h_2=>cases h
 rename_i E o1 d he;split at h
 case h_2=>cases h
 rename_i r' o2' hr;cases hl:Nat.ble (len objs) (len o2');rw[hl]at h;cases h;rw[hl]at h;cases h;have hl:=ko hl;rw[bp,bp]at hl;have hb:=ko hb;rw[bp]at hb;rw[bp]at he;exact⟨x,E,o1,d,hx,hb,hl,he,hr⟩
theorem D9{results:List ResultVar}{n0:Nat}(h:M6 ty results n0 E objs=.ok (r,o2)):∃av,oK ty E objs results=some av/\bZ true n0 objs 30 av=r/\(objs.take n0).map (aR (bZ false n0 objs 30))=o2:=by
 unfold M6 at h;split at h<;>cases h
 exact⟨_,‹_›,rfl,rfl⟩
theorem ajY(gv:jE P ty)(hm:P.follows .mixedOrders=true)(M5:OC P sg)(ht:S6 P M7)(hc:∀w f dW o0 r o1,call w f dW o0=.ok (r,o1)->aU P Y f dW o0 r o1)(h:exD ty sg M7 call f dW objs=.ok (r,o2)):EH P Y f dW objs r o2:=by
 obtain⟨x,E,o1,d,hx,hb,hl,he,hr⟩:=M9 h;obtain⟨h1,h2,h3,h4⟩:=ht f x hx;cases d with
 |cons _ _=>cases hr
 |nil=>
  obtain⟨av,Y3,hr1,RN⟩:=D9 hr;refine EH.ej (pf:=x.pf) gv hm h1 h2 h3 h4 hb hl λw S φ hg=>?_
  refine R.Ag (agV dW 0) ?_;rw[<-hg.kh.len]at he;refine aa2 100000 _ (x.xx ty sg φ.length) [.code x.cd] _ _ [] hg rfl rfl hc rfl rfl rfl M5 he (λk=>?_) ?_;exact aii (g:=FM _ []) (hg.sw []) (len objs) 30 (by rw[bp];exact eT _) Y3 hr1 RN;exact N7 (g:=FM _ []) (hg.sw []) (len objs) 30 (by rw[bp];exact eT _) Y3 hr1 RN
theorem Na{dc:Nat->List AV->List Ob->XR (AV×List Ob)}{fn:Func}(hg:GS g b7)(hc:∀f dW o0 r o1,dc f dW o0=.ok (r,o1)->EH g.P g.Y f dW o0 r o1){n0:Nat}(hn:b7.length<=n0){E:bq}{r:AV}{o2:List Ob}:∀(d:DF) (objs:List Ob),M8 g.ty dc fn.results.toList n0 d E objs=.ok (r,o2)->Lv g fn r o2 d E objs
 |[],objs,h=>by unfold M8 at h;obtain⟨av,Y3,h1,h2⟩:=D9 h;exact Lv.nil hg n0 30 hn Y3 h1 h2
 |(f,fs,cs)::d,objs,h=>by unfold M8 at h;split at h;rename_i v o1 hd;obtain⟨is,dW,o0,r',o1',h1,h2,h3,h4,h5,_⟩:=y4 hd;cases h5;exact Lv.cons hg is (hc _ _ _ _ _ h1) cN h2 h3 h4 rfl (Na hg hc hn d _ h);cases h
theorem VR(hg:GS g b7)(jP:g.rZ=[]){fn:Func}(h:Qg g.ty fn.results.toList b7.length E objs=.ok (r,o2))(hk:k=[]\/∃k',k=.code .ret::k'):R g pf (Ac g fn r o2) k E objs:=by
 unfold Qg at h;split at h<;>try (cases h;done)
 rename_i i s nK;rw[gf]at h;split at h<;>try (cases h;done)
 rename_i sz s' aa ho;cases hb:Nat.ble b7.length i;rw[hb]at h;cases h;rw[hb]at h;obtain⟨av,Y3,h1,h2⟩:=D9 h;have ht:gM k=true:=by rcases hk with rfl|⟨_,rfl⟩<;>rfl
 refine adF b7.length i _ (by rw[hg.kh.len];exact eT _) (ko hb) ho ht rfl ?_ jP;rcases hk with rfl|⟨_,rfl⟩
 exact mq hg (Nat.succ b7.length) 30 (pM _) Y3 h1 h2 jP;exact aL hg (Nat.succ b7.length) 30 (pM _) Y3 h1 h2 jP
theorem ajZ(gv:jE P ty)(hm:P.follows .mixedOrders=true)(M5:OC P sg)(ht:S6 P M7){VQ:Nat->List AV->List Ob->Option (AV×List Ob)}(hp:∀f dW o0 r o1,VQ f dW o0=some (r,o1)->aU P Y f dW o0 r o1):∀(n:Nat) (w:Bool) (f:Nat) (dW:List AV) (objs:List Ob) (r:AV) (o2:List Ob),exF ty sg M7 VQ n w f dW objs=.ok (r,o2)->aU P Y f dW objs r o2:=by
 intro n;induction n with
 |zero=>intro w f dW objs r o2 h;cases h
 |succ n ih=>
  intro w f dW objs r o2 h;simp only[exF]at h;split at h;rename_i x hx;cases h;exact hp _ _ _ _ _ hx;obtain⟨x,E,o1,d,hx,hb,hl,he,hr⟩:=M9 h;obtain⟨h1,h2,h3,h4⟩:=ht f x hx;rw[bp]at hr;refine aU.agd (pf:=x.pf) gv hm h1 h2 h3 h4 hb hl λw S φ hg=>?_
  refine R.Ag (agV dW 0) ?_;rw[<-hg.kh.len]at he;refine aa2 100000 _ (x.xx ty sg φ.length) [.code x.cd] _ _ [] hg rfl rfl ih rfl rfl rfl M5 he (λk=>?_) ?_
  all_goals
   split at hr;exact VR (g:=FM _ []) (hg.sw []) rfl hr (by first|exact .inl rfl|exact .inr ⟨_,rfl⟩);cases hr;have hlv:=Na (fn:=x.fn) hg (λf dW o0 r o1 h=>ajY gv hm M5 ht ih h) cZ d o1 hr
   first
   |exact aij (g:=FM _ d) hlv
   |exact Yo (g:=FM _ d) hlv
end
theorem aj0{S:Nat->Prop}{w:World}(hS:∀b,w.heap.size<=b->S b):HS S [] [] w:=by
 have JB:∀b,¬ eH [] b:=by rintro b ⟨i,p,h,_⟩;simp at h
 refine⟨rfl,by simp,?_,λb hb=>absurd hb (JB b),hS⟩;intro i j p q b h;simp at h
theorem aU.toP{P:Program}{Y:YP}{r y:AV}(h:aU P Y f dW [] r o2)(hp:lh dW=true)(hy:iP o2 30 r=some y):br P f dW y:=by
 refine⟨h.call,λS w bS ha hS hv=>?_⟩;have JB:∀b,¬ eH [] b:=by rintro b ⟨i,p,h,_⟩;simp at h
 have hk:dL S w (SS S []) w:=λb hb _=>⟨⟨hb,JB b⟩,rfl⟩
 refine(h.run S [] w bS (ha.jj hk) (aj0 hS) (λb hb=>absurd hb (JB b)) (λi l I B hi=>by simp at hi) (aW.pure hk hp hv)).mono ?_;rintro e w' ⟨v,φ',rfl,hr,cY⟩;have hJ:∀b,eH φ' b->S b:=λb hb=>(cY.own b hb).elim (λh=>absurd h (JB b)) (hS b)
 exact⟨v,rfl,BO hJ cY.hs 30 hr hy,⟨cY.os,cY.tape,cY.out,cY.size,λb hb=>cY.fr b hb (JB b)⟩⟩
theorem br.toS{P:Program}{Y:YP}(h:br P f dW r)(hp:lh dW=true)(hr:mJ r=true):aU P Y f dW [] r []:=by
 refine⟨h.call,λS φ w bS ha hs hJ hY hv=>?_,eT _⟩;have T4:∀b,w.heap.size<=b->SS S φ b:=λb hb=>⟨hs.up b hb,λhc=>by have:=hs.lt b hc;omega⟩
 refine(h.run (SS S φ) w bS ha T4 (aW.pure (dL.refl _ _) hp hv)).mono ?_;rintro e w' ⟨v,rfl,hv,hb⟩;have cY:j8 S φ w φ [] w':=⟨hs.later hb.size (λb uL=>hb.block b uL),.of λb uL hl=>⟨uL,hb.block b hl⟩,.refl _,hb.size,hb.os,hb.tape,hb.output,λb uL _=>hb.block b uL,λ_ h=>.inl h,λ_ _ _ B h=>⟨B,h⟩⟩;exact⟨v,φ,rfl,hv.pure (dL.refl _ _) hr,cY⟩
end ax

namespace Go.Proofs.YtmjmngigbachdaaGreatDoor
open Go ax Go.Proofs
def tc (l:List Bs):List (List D):=l.map λs=>[.v (.string (Tx s))]
theorem ru {l:List Bs}{i:Nat}{s:Bs}(h:l[i]? = some s):(tc l)[i]? = some [.v (.string (Tx s))]:=by simp[tc,h]
def Ea (x:Int×Int×Int):Value:=.agg #[.int .i64 x.1,.int .i64 x.2.1,.int .i64 x.2.2]
def agW:List (Value×D):=oe.map λp=>(.string (Tx p.1),.v (Ea p.2))
def x5 (mk:Bool):AV:=if mk then .d (.map agW)else .d (.v (.map none))
structure RC where
 a:D
 b:D
 c:D
 d:D
 e:D
 f:D
 n:Nat
 aa:List (List D)
def fy (q:RC)(dn lk:Int)(mk:Bool):List Ob :=[.box [.d q.a,.d q.b,.d q.c,.ow 1 q.n,.d q.d,.d q.e,.d q.f,.d (.v (.int .u32 dn)),.d (.v (.int .i32 lk)),.d (.v (.int .u32 0)),x5 mk],.arr 1 q.n q.aa]
theorem VS {f:AV->AV}(q:RC)(dn lk:Int)(mk:Bool)(h1:∀x,f (.d x)=.d x)(h2:f (.ow 1 q.n)=.ow 1 q.n):(fy q dn lk mk).map (aR f)=fy q dn lk mk:=by
 have h3:f (x5 mk)=x5 mk:=by unfold x5;split<;>exact h1 _
 simp only[fy,bM,fm,aR,h2,h3,iV,h1]
theorem aa3 (n0 n:Nat)(o:List Ob)(x:D):bZ false n0 o (n+1) (.d x)=.d x:=by unfold bZ;split<;>first|rfl|(rename_i h;cases h;rfl)|(rename_i h;cases h)
theorem im (q:RC)(dn lk:Int)(mk:Bool)(n0:Nat)(o:List Ob)(hn:2<=n0):(fy q dn lk mk).map (aR (bZ false n0 o 5))=fy q dn lk mk :=
 VS q dn lk mk (λx=>aa3 n0 4 o x) (by
  show(bif Nat.ble (Nat.succ 1) n0 then _ else _)=_
  rw[show Nat.ble (Nat.succ 1) n0=true from Xh hn];rfl)
theorem yn (q:RC)(dn lk:Int)(mk:Bool)(i j n:Nat)(l:List Nat):(fy q dn lk mk).map (bG (rn (i::j::l) n))=[.box [.d q.a,.d q.b,.d q.c,.ow j q.n,.d q.d,.d q.e,.d q.f,.d (.v (.int .u32 dn)),.d (.v (.int .i32 lk)),.d (.v (.int .u32 0)),x5 mk],.arr 1 q.n q.aa]:=by
 have h3:dh (rn (i::j::l) n) (x5 mk)=x5 mk:=by unfold x5;split<;>rfl
 simp only[fy,bM,fm,bG,iH,h3];rfl
theorem aeo (a:Addr)(x:Int)(w:World)(h:w.cell? a=some (.int .u32 x)):(callFunc 170 #[.pointer (some a)]).run Tryz.prog w=.ok (.value (.int .u32 x)) w :=run_call_load Tryz.func170 da da da .u32 da h
theorem Nb (w:World):(callFunc 197 #[]).run Tryz.prog w=.ok (.value (.tuple #[])) w:=run_call_mark0 Tryz.func197 da da da .disable da w
theorem S7 (w:World):(callFunc 199 #[]).run Tryz.prog w=.ok (.value (.tuple #[])) w:=run_call_mark0 Tryz.func199 da da da .enable da w
theorem aa4 (a:Addr)(w:World):(callFunc 200 #[.pointer (some a)]).run Tryz.prog w=.ok (.value (.tuple #[])) w:=run_call_marked Tryz.func200 da da da .acquire da a w
theorem aa5 (a:Addr)(w:World):(callFunc 202 #[.pointer (some a)]).run Tryz.prog w=.ok (.value (.tuple #[])) w:=run_call_marked Tryz.func202 da da da .releaseMerge da a w
theorem aj1 (a:Addr)(x y:Int)(w:World)(h:w.cell? a=some (.int .i32 x))(hz:w.frozen? a=false):(callFunc 198 #[.pointer (some a),.int .i32 x,.int .i32 y]).run Tryz.prog w=.ok (.value (.bool true)) (w.setCell a (.int .i32 y)) :=run_call_cas_hit Tryz.func198 da da da .i32 da h hz
theorem aa6 (a:Addr)(u:Value)(y:Int)(w:World)(h:w.cell? a=some u)(hz:w.frozen? a=false):(callFunc 182 #[.pointer (some a),.int .u32 y]).run Tryz.prog w=.ok (.value (.tuple #[])) (w.setCell a (.int .u32 y)) :=run_call_store Tryz.func182 da da da da h hz
theorem aj2 (a:Addr)(w:World)(h:w.cell? a=some (.int .i32 1))(hz:w.frozen? a=false):(callFunc 203 #[.pointer (some a),.int .i32 (-1)]).run Tryz.prog w=.ok (.value (.int .i32 0)) (w.setCell a (.int .i32 0)) :=run_call_add Tryz.func203 da da da .i32 da h hz (by simp[go_sem];rfl)
def akP:Nat->cI:=λf=>bif Nat.beq f 4000000010 then .bT 90 else .jz
theorem rv (Y:YP)(q:RC)(dn lk:Int)(mk:Bool):aU Tryz.prog Y 158 [.lo 0 7] (fy q dn lk mk) (bV (dn != 0)) (fy q dn lk mk):=by
 refine u0 Tryz.func158 λw S φ hg=>?_
 refine kD hg.ok Tryz.underlying116 rfl da rfl rfl rfl (ag ?_);refine YE hg.ok aeo rfl rfl rfl rfl rfl rfl (ag ?_);exact aL hg 2 5 cZ rfl rfl (im q dn lk mk 2 _ cZ)
theorem E6 (Y:YP)(q:RC)(dn lk:Int)(mk:Bool):EH Tryz.prog Y 173 [.lo 0 7,bV true] (fy q dn lk mk) (.cP []) (fy q 1 lk mk):=by
 have hb:br Tryz.prog 183 [bV true] (.d (.v (.int .u32 1))):=by
  refine ng Tryz.func183 λw S hg=>?_
  refine mM ?_;refine bz ?_;rfl
 refine EH.ej (pf:=λ_=>.jz) gK mixed Tryz.func173 rfl da da (by simp[Tryz.ntmps173]) (by simp[fy]) λw S φ hg=>?_
 refine ag ?_;refine kD hg.ok Tryz.underlying116 rfl da rfl rfl rfl (ag ?_);refine aA (hb) ?_;refine HU hg.ok (ys:=#[.tmp 8]) [.int .u32 1] (λa w h hz=>aa6 a _ 1 w h hz) rfl rfl rfl rfl rfl rfl rfl (ag ?_);exact N7 hg 2 5 cZ rfl rfl (im q 1 lk mk 2 _ cZ)
theorem Nc (Y:YP)(q:RC)(dn:Int)(mk:Bool):aU Tryz.prog Y 180 [.lo 0 8] (fy q dn 0 mk) (.cP []) (fy q dn 1 mk):=by
 refine akN Tryz.func180 λw S φ hg=>?_
 refine HT hg.ok Nb rfl rfl rfl (ag ?_);refine HU hg.ok (ys:=#[.const (.int .i32 0),.const (.int .i32 1)]) [.int .i32 0,.int .i32 1] (λa w h hz=>aj1 a 0 1 w h hz) rfl rfl rfl rfl rfl rfl rfl (ag ?_);refine mM ?_;refine HT hg.ok S7 rfl rfl rfl (ag ?_);refine afc ?_;refine YD hg.ok aa4 rfl rfl rfl rfl (ag ?_);exact aL hg 2 5 cZ rfl rfl (im q dn 1 mk 2 _ cZ)
theorem Qh (Y:YP)(q:RC)(dn:Int)(mk:Bool):aU Tryz.prog Y 171 [.lo 0 8] (fy q dn 0 mk) (.cP []) (fy q dn 1 mk):=by
 refine u0 Tryz.func171 λw S φ hg=>?_
 refine kD hg.ok Tryz.underlying120 rfl da rfl rfl rfl (ag ?_);refine aj hg.ok hg.cm hg.wide hg.Y [0,1] (fy q dn 1 mk) (Nc Y q dn mk) cN rfl rfl rfl rfl rfl uo rfl uo (ag ?_);exact mq hg 2 5 cZ rfl rfl (im q dn 1 mk 2 _ cZ)
theorem E7 (Y:YP)(q:RC)(dn:Int)(mk:Bool):aU Tryz.prog Y 181 [.lo 0 8] (fy q dn 1 mk) (.cP []) (fy q dn 0 mk):=by
 refine akN Tryz.func181 λw S φ hg=>?_
 refine afc ?_;refine YD hg.ok aa5 rfl rfl rfl rfl (ag ?_);refine HT hg.ok Nb rfl rfl rfl (ag ?_);refine HU hg.ok (ys:=#[.const (.int .i32 (-1))]) [.int .i32 (-1)] (λa w h hz=>aj2 a w h hz) rfl rfl rfl rfl rfl rfl rfl (ag ?_);refine gg ?_;refine HT hg.ok S7 rfl rfl rfl (ag ?_);exact mq hg 2 5 cZ rfl rfl (im q dn 0 mk 2 _ cZ)
theorem Jp (Y:YP)(q:RC)(dn:Int)(mk:Bool):EH Tryz.prog Y 172 [.lo 0 8] (fy q dn 1 mk) (.cP []) (fy q dn 0 mk):=by
 refine EH.ej (pf:=λ_=>.jz) gK mixed Tryz.func172 rfl da da (by simp[Tryz.ntmps172]) (by simp[fy]) λw S φ hg=>?_
 refine ag ?_;refine kD hg.ok Tryz.underlying120 rfl da rfl rfl rfl (ag ?_);refine aj hg.ok hg.cm hg.wide hg.Y [0,1] (fy q dn 0 mk) (E7 Y q dn mk) cN rfl rfl rfl rfl rfl uo rfl uo (ag ?_);exact N7 hg 2 5 cZ rfl rfl (im q dn 0 mk 2 _ cZ)
end Go.Proofs.YtmjmngigbachdaaGreatDoor

namespace Go.Proofs.YtmjmngigbachdaaGreatDoor
open Go ax Go.Proofs
variable{k:Nat}
theorem ou(a b c:Int):bJ (.agg [iV a,iV b,iV c]) (.d (.v (Ea (a,b,c)))):=λS w φ v h=>by
 simp only[RV,aW]at h ⊢;obtain⟨cs,rfl,h⟩:=h;match cs,h with
 |[x,y,z],h=>simp only[aW,iV]at h;rw[p4 h.1,p4 h.2.1,p4 h.2.2.1];exact .v _
 |[],h=>simp[aW]at h
 |[_],h=>simp[aW]at h
 |[_,_],h=>simp[aW]at h
 |_::_::_::_::_,h=>simp[aW]at h
def uX (l:List (Bs×Int×Int×Int)):List (ByteArray×AV):=l.map λp=>(Tx p.1,.d (.v (Ea p.2)))
def agX:List (Bs×Int×Int×Int):=oe.take 4
def uY (k:Nat):List (Bs×Int×Int×Int):=agX++(zQ.take k).map λs=>(s,700,699,699)
def uZ (k:Nat):List (Bs×Int×Int×Int):=uY 15++(zR.take k).map λs=>(s,500,500,499)
def x6 (k:Nat):List (Bs×Int×Int×Int):=uZ 2++(zS.take k).map λs=>(s,400,400,399)
theorem qz(l:List (Bs×Int×Int×Int))(s:Bs)(h:(l.map (·.1)).contains s=false):dQ (uX l) (Tx s)=none:=by
 induction l with
 |nil=>rfl
 |cons p l ih=>simp only[bM,Ke,Ez]at h;simp only[uX,bM,dQ];rw[if_neg (λe=>by rw[Zi e]at h;simp at h)];exact ih h.2
theorem Eb:((List.range 15).all λk=>!((uY k).map (·.1)).contains (zQ.getD k []))=true/\((List.range 2).all λk=>!((uZ k).map (·.1)).contains (zR.getD k []))=true/\((List.range 3).all λk=>!((x6 k).map (·.1)).contains (zS.getD k []))=true:=by decide +kernel
theorem aot(h:k<15):dQ (uX (uY k)) (Tx (zQ.getD k []))=none:=qz _ _ (by have:=fB.1 Eb.1 k ln;simpa using this)
theorem aou(h:k<2):dQ (uX (uZ k)) (Tx (zR.getD k []))=none:=qz _ _ (by have:=fB.1 Eb.2.1 k ln;simpa using this)
theorem aov(h:k<3):dQ (uX (x6 k)) (Tx (zS.getD k []))=none:=qz _ _ (by have:=fB.1 Eb.2.2 k ln;simpa using this)
theorem lJ{l:List Bs}(h:k<l.length):l[k]? = some (l.getD k []):=by simp[List.getD,dG h]
theorem Qi(h:k<15):uX (uY k)++[(Tx (zQ.getD k []),.d (.v (Ea (700,699,699))))]=uX (uY (k+1)):=by unfold uY;rw[Jt,lJ (l:=zQ) h];simp[uX]
theorem Qj(h:k<2):uX (uZ k)++[(Tx (zR.getD k []),.d (.v (Ea (500,500,499))))]=uX (uZ (k+1)):=by unfold uZ;rw[Jt,lJ (l:=zR) h];simp[uX]
theorem Qk(h:k<3):uX (x6 k)++[(Tx (zS.getD k []),.d (.v (Ea (400,400,399))))]=uX (x6 (k+1)):=by unfold x6;rw[Jt,lJ (l:=zS) h];simp[uX]
def G8 (q:RC)(dn lk:Int)(l:List (Bs×Int×Int×Int)):List Ob :=[.box [.d q.a,.d q.b,.d q.c,.ow 1 q.n,.d q.d,.d q.e,.d q.f,.d (.v (.int .u32 dn)),.d (.v (.int .i32 lk)),.d (.v (.int .u32 0)),.mp 3],.arr 1 q.n q.aa,.box [.lo 0 7],.map (eK (uX l))]
theorem VT(Y:YP)(q:RC)(dn lk:Int):aU Tryz.prog Y 131 [.lo 2 0] (fy q dn lk false++[.box [.lo 0 7]]) (.cP []) (fy q dn lk true++[.box [.lo 0 7]]):=by
 refine u0 Tryz.func131 λw S φ hg=>?_
 refine Eo ?_;refine hH 9 rfl (ou 1200 1199 1199) ?_;refine ju hg.ok [] (uX (oe.take 1)) rfl rfl rfl rfl rfl rfl rfl rfl rfl rfl (ag ?_);refine hH 10 rfl (ou 1100 1099 1100) ?_;refine ju hg.ok (uX (oe.take 1)) (uX (oe.take 2)) rfl rfl rfl rfl rfl rfl rfl (qz _ _ eA) rfl rfl (ag ?_);refine hH 11 rfl (ou 1050 1049 1050) ?_;refine ju hg.ok (uX (oe.take 2)) (uX (oe.take 3)) rfl rfl rfl rfl rfl rfl rfl (qz _ _ eA) rfl rfl (ag ?_);refine hH 12 rfl (ou 1000 999 1000) ?_;refine ju hg.ok (uX (oe.take 3)) (uX agX) rfl rfl rfl rfl rfl rfl rfl (qz _ _ eA) rfl rfl (ag ?_);refine qV (λ_:Unit=>([(0,.lo 2 0)],G8 q dn lk (uY 15))) (λ_=>True) rfl ?_ ?_;refine a7 (λk:Nat=>([(0,.lo 2 0),(16,.d (.sl (tc zQ))),(17,iV (15:Nat)),(18,iV k)],G8 q dn lk (uY k))) (λk=>k<=15) (λk=>15-k) 0 fO ahs rfl ?_;intro k hk;refine ag ?_;refine af (λh=>?_) λh=>?_
 have aI:k<15:=bo h rfl;refine cJ (ru (lJ (l:=zQ) aI)) ?_;refine hH 27 rfl (ou 700 699 699) ?_;refine yK hg.ok (uX (uY k)) (uX (uY (k+1))) rfl rfl rfl rfl rfl rfl rfl (aot aI) rfl (Qi aI) (ag ?_);exact Ww;have aI:15<=k:=bw h rfl;obtain rfl:k=15:=by omega
 exact WQ;rintro _ _;refine ag ?_;refine qV (λ_:Unit=>([(0,.lo 2 0)],G8 q dn lk (uZ 2))) (λ_=>True) rfl ?_ ?_;refine a7 (λk:Nat=>([(0,.lo 2 0),(29,.d (.sl (tc zR))),(30,iV (2:Nat)),(31,iV k)],G8 q dn lk (uZ k))) (λk=>k<=2) (λk=>2-k) 0 fO ahs rfl ?_;intro k hk;refine ag ?_;refine af (λh=>?_) λh=>?_
 have aI:k<2:=bo h rfl;refine cJ (ru (lJ (l:=zR) aI)) ?_;refine hH 40 rfl (ou 500 500 499) ?_;refine yK hg.ok (uX (uZ k)) (uX (uZ (k+1))) rfl rfl rfl rfl rfl rfl rfl (aou aI) rfl (Qj aI) (ag ?_);exact Ww;have aI:2<=k:=bw h rfl;obtain rfl:k=2:=by omega
 exact WQ;rintro _ _;refine ag ?_;refine qV (λ_:Unit=>([(0,.lo 2 0)],G8 q dn lk (x6 3))) (λ_=>True) rfl ?_ ?_;refine a7 (λk:Nat=>([(0,.lo 2 0),(42,.d (.sl (tc zS))),(43,iV (3:Nat)),(44,iV k)],G8 q dn lk (x6 k))) (λk=>k<=3) (λk=>3-k) 0 fO ahs rfl ?_;intro k hk;refine ag ?_;refine af (λh=>?_) λh=>?_
 have aI:k<3:=bo h rfl;refine cJ (ru (lJ (l:=zS) aI)) ?_;refine hH 53 rfl (ou 400 400 399) ?_;refine yK hg.ok (uX (x6 k)) (uX (x6 (k+1))) rfl rfl rfl rfl rfl rfl rfl (aov aI) rfl (Qk aI) (ag ?_);exact Ww;have aI:3<=k:=bw h rfl;obtain rfl:k=3:=by omega
 exact WQ;rintro _ _;have hφ:φ.length=3:=hg.kh.len;refine yI hg.cm 3 agW W6 rfl rfl ?_;refine bf 3 (fy q dn lk true++[.box [.lo 0 7]]) W6 rfl rfl ?_;exact mq hg 3 5 cZ rfl rfl (by rw[show(List.take 3 (fy q dn lk true++[Ob.box [.lo 0 7]]))=fy q dn lk true++[Ob.box [.lo 0 7]]from rfl,eR,im q dn lk true 3 _ eA];rfl)
end Go.Proofs.YtmjmngigbachdaaGreatDoor

namespace Go.Proofs.YtmjmngigbachdaaGreatDoor
open Go ax Go.Proofs
def kX (q:RC)(dn lk:Int)(mk:Bool):List Ob:=fy q dn lk mk++[.box [.lo 0 7]]
theorem Bg (q:RC)(dn lk:Int)(mk:Bool)(o:List Ob):(kX q dn lk mk).map (aR (bZ false 3 o 5))=kX q dn lk mk:=by unfold kX;rw[eR,im q dn lk mk 3 _ eA];rfl
theorem y5 (q:RC)(dn lk:Int)(mk:Bool)(n:Nat):(kX q dn lk mk).map (bG (rn [0,1,2] n))=kX q dn lk mk:=by unfold kX;rw[eR,yn];rfl
theorem Ec (q:RC)(dn lk:Int)(mk:Bool)(n:Nat):(fy q dn lk mk++[Ob.box [.lo 0 7]]).map (bG (rn [0,1,2] n))=kX q dn lk mk:=y5 q dn lk mk n
theorem Jq (Y:YP)(q:RC):aU Tryz.prog Y 159 [.lo 0 7,.b9 131 [] [.lo 2 0]] (kX q 0 0 false) (.cP []) (kX q 1 0 true):=by
 refine aU.agd (pf:=λ_=>.jz) gK mixed Tryz.func159 rfl da da (by simp[Tryz.ntmps159]) (by simp[kX,fy]) λw S φ hg=>?_
 refine ag ?_;refine WE ?_;refine aj hg.ok hg.cm hg.wide hg.Y [0,1] (kX q 0 1 false) (Qh Y q 0 false) cN rfl rfl rfl rfl rfl uo rfl uo ?_
 first
 |(refine eW hg.ok 1 rfl rfl ?_;refine oP hg.ok rfl hg.wide 3 rfl ?_)
 |(refine eW hg.ok 2 rfl rfl ?_;refine oP hg.ok rfl hg.wide 3 rfl ?_)
 |(refine eW hg.ok 3 rfl rfl ?_;refine oP hg.ok rfl hg.wide 3 rfl ?_)
 |(refine eW hg.ok 4 rfl rfl ?_;refine oP hg.ok rfl hg.wide 3 rfl ?_)
 refine ag ?_;refine WE ?_;refine yC ⟨_,_,_,rfl,?_⟩;have tk:=hg.sw [(172,[.lo 0 8],[])];refine JV ?_;refine kD tk.ok Tryz.underlying122 rfl da rfl rfl rfl ?_;refine JV ?_;refine aj tk.ok tk.cm tk.wide tk.Y [0,1] (kX q 0 1 false) (rv Y q 0 1 false) cN rfl rfl rfl rfl rfl uo rfl uo ?_;refine JV ?_;refine iq rfl rfl (λ_=>?_) (λh=>absurd h aD)
 first
 |refine oP tk.ok rfl tk.wide 3 rfl ?_
 |(refine eW tk.ok 1 rfl rfl ?_;refine oP tk.ok rfl tk.wide 3 rfl ?_)
 |(refine eW tk.ok 2 rfl rfl ?_;refine oP tk.ok rfl tk.wide 3 rfl ?_)
 refine JV ?_;refine kD tk.ok Tryz.underlying122 rfl da rfl rfl rfl ?_;refine JV ?_;refine yC ⟨_,_,_,rfl,?_⟩;have hg2:=tk.sw [(173,[.lo 0 7,.tt],[]),(172,[.lo 0 8],[])];refine eW hg2.ok 1000 rfl rfl ?_;refine aj hg2.ok hg2.cm hg2.wide hg2.Y [0,1,2] (kX q 0 1 true) (VT Y q 0 1) cN rfl rfl rfl rfl rfl (by rw[Ec q 0 1 false];rfl) rfl (by rw[Ec q 0 1 true];rfl) ?_;refine eW hg2.ok 1000 rfl rfl ?_;refine Yo ?_;refine Lv.cons hg [0,1] (objs':=kX q 1 1 true) (E6 Y q 0 1 true) cN rfl uo rfl uo ?_;refine Lv.cons hg [0,1] (objs':=kX q 1 0 true) (Jp Y q 1 true) cN rfl uo rfl uo ?_;exact Lv.nil hg 3 5 (by simp[kX,fy]) rfl rfl (Bg q 1 0 true _)
def mD (q:RC)(mk:Bool):List Ob:=fy q (if mk then 1 else 0) 0 mk
theorem y6 (q:RC)(mk:Bool)(n0:Nat)(o:List Ob)(hn:2<=n0):(mD q mk).map (aR (bZ false n0 o 5))=mD q mk:=im _ _ _ _ _ _ hn
theorem J3 (q:RC)(mk:Bool)(n:Nat)(l:List Nat):(mD q mk).map (bG (rn (0::1::l) n))=mD q mk:=yn _ _ _ _ _ _ _ _
theorem Ql (Y:YP)(q:RC)(mk:Bool):aU Tryz.prog Y 130 [.lo 0 7,.b9 131 [] [.lo 2 0]] (mD q mk++[.box [.lo 0 7]]) (.cP []) (mD q true++[.box [.lo 0 7]]):=by
 refine u0 Tryz.func130 λw S φ hg=>?_
 refine WE ?_;cases mk with
 |false=>refine aj hg.ok hg.cm hg.wide hg.Y [0,1] (kX q 0 0 false) (rv Y q 0 0 false) cN rfl rfl rfl rfl rfl uo rfl uo (ag ?_);refine mM ?_;refine aj hg.ok hg.cm hg.wide hg.Y [0,1,2] (kX q 1 0 true) (Jq Y q) cN rfl rfl rfl rfl rfl (by rw[y5];rfl) rfl (by rw[y5];rfl) (ag ?_);exact afD
 |true=>refine aj hg.ok hg.cm hg.wide hg.Y [0,1] (kX q 1 0 true) (rv Y q 1 0 true) cN rfl rfl rfl rfl rfl uo rfl uo (ag ?_);refine gg ?_;exact afD
theorem G9 (q:RC)(mk:Bool)(n:Nat):(mD q mk++[Ob.box [.lo 0 7]]).map (bG (rn [0,1,2] n))=mD q mk++[Ob.box [.lo 0 7]]:=by rw[eR,J3];rfl
def agY (x:Option (Int×Int×Int)):AV:=match x with|some x=>.cP [.agg [iV x.1,iV x.2.1,iV x.2.2],bV true]|none=>.cP [.agg [iV 0,iV 0,iV 0],bV false]
theorem VU (x:Int×Int×Int):bJ (.d (.v (Ea x))) (.agg [iV x.1,iV x.2.1,iV x.2.2]):=λS w φ v h=>by rw[p4 h];simp only[RV,aW,iV,Ea];exact⟨[.int .i64 x.1,.int .i64 x.2.1,.int .i64 x.2.2],rfl,.v _,.v _,.v _,trivial⟩
theorem Ha (s:Bs):dQ (uX oe) (Tx s)=(IM s).map λx=>AV.d (.v (Ea x)):=by
 unfold IM;generalize oe=l;induction l with
 |nil=>rfl
 |cons p l ih=>obtain⟨a,x⟩:=p;simp only[uX,bM,dQ,List.lookup];by_cases h:s=a;subst h;simp;rw [if_neg (λe=>h (Zi e).symm),show(s==a)=false by simpa using h];exact ih
theorem Hb (Y:YP)(q:RC)(mk:Bool)(s:Bs):aU Tryz.prog Y 118 [.lo 0 7,.d (.v (.string (Tx s)))] (mD q mk) (agY (IM s)) (mD q true):=by
 refine u0 Tryz.func118 λw S φ hg=>?_
 refine aj hg.ok hg.cm hg.wide hg.Y [0,1,2] (mD q true++[.box [.lo 0 7],.box [iV 0,iV 0,iV 0]]) (Ql Y q mk) cN rfl rfl rfl rfl rfl (by rw[G9];rfl) rfl (by rw[G9];rfl) (ag ?_);have hk:∀o:List Ob,(mD q true).map (aR (bZ false 2 o 5))=mD q true:=λo=>y6 _ _ _ _ cZ
 cases hx:IM s with
 |none=>refine DR hg.ok (uX oe) rfl rfl rfl rfl rfl rfl rfl (zv:=.agg #[.int .i64 0,.int .i64 0,.int .i64 0]) da (v:=.cP [.agg [iV 0,iV 0,iV 0],bV false]) (by rw[Ha,hx];rfl) (ag ?_);exact aL hg 2 5 cZ rfl rfl (hk _)
 |some x=>
  refine DR hg.ok (uX oe) rfl rfl rfl rfl rfl rfl rfl (zv:=.agg #[.int .i64 0,.int .i64 0,.int .i64 0]) da (v:=.cP [.d (.v (Ea x)),bV true]) (by rw[Ha,hx];rfl) ?_
  refine hH 19 rfl (v':=.cP [.agg [iV x.1,iV x.2.1,iV x.2.2],bV true]) (λS w φ v h=>by
   simp only[RV]at h ⊢;obtain⟨vs,rfl,h⟩:=h;refine⟨vs,rfl,?_⟩;match vs,h with
   |[a,b],h=>simp only[aW]at h ⊢;exact⟨VU x _ _ _ _ (by simp only[RV];exact h.1),h.2⟩
   |[],h=>simp[aW]at h
   |[_],h=>simp[aW]at h
   |_::_::_::_,h=>simp[aW]at h) ?_
  refine ag ?_;exact aL hg 2 5 cZ rfl rfl (hk _)
end Go.Proofs.YtmjmngigbachdaaGreatDoor

namespace Go.Proofs.YtmjmngigbachdaaGreatDoor
open Go ax Go.Proofs
variable{f:Nat}{r:AV}
abbrev aj3:=Nat×Func×(Nat->cI)×(Nat->List Gh)×Nat×Bool×(Nat->Nat->Bool)
noncomputable def exT:List aj3->Nat->Option XF|[],_=>none|(i,fn,pf,gh,v,df,ow)::r,f=>bif Nat.beq i f then some ⟨fn,fn.body.getD .skip,pf,gh,v,df,ow⟩else exT r f
def eS:Nat->List Gh:=λ_=>[]
def fZ:Nat->cI:=λ_=>.jz
def aa7:Nat->cI:=λf=>bif Nat.beq f 4000200008 then .bT 101 else bif Nat.beq f 4000300035 then .look 102 else bif Nat.beq f 4000300039 then .look 102 else .jz
def aep:Nat->cI:=λf=>bif Nat.beq f 4000200002 then .bT 101 else bif Nat.beq f 4000100192 then .look 102 else .jz
def aeq:Nat->cI:=λf=>bif Nat.beq f 4000100060 then .look 104 else bif Nat.beq f 4000200005 then .bT 103 else .jz
def aj4:Nat->cI:=λf=>bif Nat.beq f 128 then .bT 3 else bif Nat.beq f 57 then .bT 3 else bif Nat.beq f 4000100067 then .look 4 else bif Nat.beq f 4000100092 then .look 4 else .jz
def aox:Nat->List Gh:=λi=>bif Nat.beq i 9 then [.own 8 3 1]else bif Nat.beq i 17 then [.frz 8 3]else []
def eM:Nat->Nat->Bool:=λ_ _=>false
def aj5:Nat->cI:=λf=>bif Nat.beq f 4000100004 then .look 4 else bif Nat.beq f 60 then .bT 3 else .jz
def aj6:Nat->Nat->Bool:=λid f=>Nat.beq f 84||(Nat.beq id 8&&Nat.beq f 60)
def aj7:Nat->cI:=λf=>bif Nat.beq f 4800100000 then .bT 100 else bif Nat.beq f 4000000005 then .bT 0 else .jz
def aj8:Nat->cI:=λf=>bif Nat.beq f 4000200004 then .bT 101 else bif Nat.beq f 4000100081 then .look 102 else .jz
def aer:Nat->List Gh:=λi=>bif Nat.beq i 19 then [.frz 8 0]else []
noncomputable def aa8:List aj3 :=
  [(55,Tryz.f55,fZ,eS,10,false,eM),
 (79,Tryz.f79,fZ,eS,1,false,eM),
 (80,Tryz.f80,aep,eS,17,false,eM),
 (100,Tryz.f100,fZ,eS,3,false,eM),
 (101,Tryz.f101,fZ,eS,7,false,eM),
 (103,Tryz.f103,fZ,eS,3,false,eM),
 (104,Tryz.f104,fZ,eS,3,false,eM),
 (105,Tryz.f105,fZ,eS,3,false,eM),
 (106,Tryz.f106,aa7,eS,11,false,eM),
 (107,Tryz.f107,fZ,eS,3,false,eM),
 (110,Tryz.f110,fZ,eS,10,false,eM),
 (111,Tryz.f111,fZ,eS,3,false,eM),
 (31,Tryz.f31,fZ,aox,12,false,eM),
 (56,Tryz.f56,fZ,eS,3,false,eM),
 (57,Tryz.f57,aeq,eS,11,false,eM),
 (58,Tryz.f58,fZ,eS,3,false,eM),
 (59,Tryz.f59,fZ,eS,2,false,eM),
 (81,Tryz.f81,fZ,eS,8,true,eM),
 (112,Tryz.f112,fZ,eS,1,false,eM),
 (82,Tryz.f82,fZ,eS,5,false,eM),
 (115,Tryz.f115,fZ,eS,6,false,eM),
 (116,Tryz.f116,fZ,eS,2,false,eM),
 (113,Tryz.f113,fZ,eS,13,false,eM),
 (114,Tryz.f114,aj4,eS,11,false,eM),
 (128,Tryz.f128,fZ,eS,6,false,eM),
 (127,Tryz.f127,fZ,eS,4,false,eM),
 (15,Tryz.f15,fZ,aer,29,false,eM),
 (16,Tryz.f16,aj8,eS,68,false,eM),
 (36,Tryz.f36,fZ,eS,8,false,eM),
 (33,Tryz.f33,fZ,eS,6,false,eM),
 (60,Tryz.f60,aj5,eS,24,false,aj6),
 (84,Tryz.f84,aj7,eS,5,false,eM),
 (83,Tryz.f83,fZ,eS,2,false,eM),
 (32,Tryz.f32,fZ,eS,3,false,eM),
 (34,Tryz.f34,fZ,eS,3,false,eM),
 (61,Tryz.f61,fZ,eS,34,false,eM),
 (62,Tryz.f62,fZ,eS,19,false,eM),
 (88,Tryz.f88,fZ,eS,1,false,eM)]
theorem aa9{P:Program}:∀ (l:List aj3),(∀x∈l,P.funcs[x.1]? = some x.2.1)→(l.all fun x=>x.2.1.body.isSome&&(!(x.2.1.name == "runtime.NumGoroutine")&&fI x.2.2.1 (x.2.1.body.getD .skip)))=true→S6 P (exT l)
 |[],_,_,f,x,h=>by cases h
 |(i,fn,pf,gh,v,df,ow)::r,h1,h2,f,x,h=>by simp only[pK,aV,wE]at h2;simp only[exT]at h;cases hb:Nat.beq i f;rw [hb]at h;exact aa9 r (λx hx=>h1 x (Xi _ hx)) h2.2 f x h;rw [hb]at h;obtain rfl:=cB hb;cases h;refine⟨h1 _ (Xj ..),?_,h2.1.2.1,h2.1.2.2⟩;obtain⟨c,hc⟩:=acd.1 h2.1.1;simp_all
theorem aba:S6 Tryz.prog (exT aa8):=aa9 _ (by
 unfold aa8;intro x hx
 repeat (rcases cE.1 hx with rfl|hx;first|exact Tryz.func55|exact Tryz.func79|exact Tryz.func80|exact Tryz.func100|exact Tryz.func101|exact Tryz.func103|exact Tryz.func104|exact Tryz.func105|exact Tryz.func106|exact Tryz.func107|exact Tryz.func110|exact Tryz.func111|exact Tryz.func31|exact Tryz.func56|exact Tryz.func57|exact Tryz.func58|exact Tryz.func59|exact Tryz.func81|exact Tryz.func112|exact Tryz.func82|exact Tryz.func115|exact Tryz.func116|exact Tryz.func113|exact Tryz.func114|exact Tryz.func128|exact Tryz.func127|exact Tryz.func15|exact Tryz.func16|exact Tryz.func36|exact Tryz.func33|exact Tryz.func60|exact Tryz.func84|exact Tryz.func83|exact Tryz.func32|exact Tryz.func34|exact Tryz.func61|exact Tryz.func62|exact Tryz.func88)
 cases hx) da
theorem are(s:ByteArray):Tx s.data.toList=s:=rfl
def Nd:List (Value×D)->List (Bs×Int×Int×Int)->Bool
 |[],[]=>true
 |(.string s,.v (.agg a))::r,(t,x)::q=>Aq s.data.toList t&&((match a.toList with|[.int .i64 i,.int .i64 j,.int .i64 k]=>i==x.1&&(j==x.2.1&&k==x.2.2)|_=>false)&&Nd r q)
 |_,_=>false
theorem Nf:∀{es:List (Value×D)} {l:List (Bs×Int×Int×Int)},Nd es l=true->es=l.map λp=>(.string (Tx p.1),.v (Ea p.2))
 |[],[],_=>rfl
 |(.string s,.v (.agg a))::r,(t,x)::q,h=>by
  simp only[Nd,aV]at h;obtain⟨h1,h2,h3⟩:=h;rw[bM,<-Nf h3];split at h2;rename_i i j k ha;simp only[aV,beq_iff_eq]at h2;have h1:=D3.1 h1;have:a=#[.int .i64 i,.int .i64 j,.int .i64 k]:=by grind
  rw[<-h1,this,h2.1,h2.2.1,h2.2.2];rfl;cases h2
def S8:Int->D->Option Bool| .ofNat 0,.v (.map none)=>some false| .ofNat 1,.map es=>bif Nd es oe then some true else none|_,_=>none
theorem Ng{n:Int}{x:D}{mk:Bool}(h:S8 n x=some mk):n=(if mk then 1 else 0)/\AV.d x=x5 mk:=by unfold S8 at h;split at h;cases h;exact⟨rfl,rfl⟩;rename_i es;cases hb:Nd es oe;simp_all;rw [hb]at h; cases h;exact⟨rfl,by rw[Nf hb];rfl⟩;cases h
def Nw:D->List (List D)| .sl r=>r|_=>[]
def dIn:D->Int| .v (.int _ n)=>n|_=>0
def dSt:D->ByteArray| .v (.string s)=>s|_=>ByteArray.empty
def dTs:Nat->List (List D)->List Tm|0,_=>[]|n+1,l=>l.map λr=>match r with|[a,b,c,d]=>.mk (dIn a) (dSt b) (dIn c) (dTs n (Nw d))|_=>.mk 0 ByteArray.empty 0 []
def dT (a b c d:D):Tm:=.mk (dIn a) (dSt b) (dIn c) (dTs 30 (Nw d))
def dGs:Nat->List (List D)->List Gl|0,_=>[]|n+1,l=>l.map λr=>match r with|[k,a,b,c,d,x,y,z]=>.mk (dIn k) (dT a b c d) (dGs n (Nw x)) (dGs n (Nw y)) (dGs n (Nw z))|_=>.mk 0 (.mk 0 ByteArray.empty 0 []) [] [] []
def dCs (l:List (List D)):List Cs:=l.map λr=>match r with|[a,b,c,d,g,v]=>⟨dT a b c d,dGs 12 (Nw g),dIn v⟩|_=>⟨.mk 0 ByteArray.empty 0 [],[],0⟩
def Ed (c:Bool)(args ar:List AV)(r:AV):Option (AV×List Ob):=bif lh args&&(EJ args ar&&c)then some (r,[])else none
theorem y7{P:Program}{Y:YP}{c:Bool}{args ar:List AV}{r s:AV}{o:List Ob}(h:Ed c args ar r=some (s,o))(hc:c=true->br P f ar r)(hr:mJ r=true):aU P Y f args [] s o:=by unfold Ed at h;cases hb:lh args&&(EJ args ar&&c);rw[hb]at h;cases h;rw [hb]at h; cases h;simp only[aV]at hb;exact((hc hb.2.2).le hb.2.1).toS hb.1 hr
theorem abb(Y:YP)(a d e:D)(ts:List (List D))(c n:Nat)(aa:List (List D))(mk:Bool){s:ByteArray}{k i j:Int}{b:Bool}(hr:ts[c]? = some [.v (.int .i64 k),.v (.string s),.v (.int .i64 i),.v (.int .i64 j),.v (.bool b)]) :
  aU Tryz.prog Y 58 [.lo 0 0] (mD ⟨a,.sl ts,.v (.int .i64 c),d,e,.v (.int .i64 0),n,aa⟩ mk) (.agg [.d (.v (.int .i64 k)),.d (.v (.string s)),.d (.v (.int .i64 i)),.d (.v (.int .i64 j)),.d (.v (.bool b))]) (mD ⟨a,.sl ts,.v (.int .i64 c),d,e,.v (.int .i64 0),n,aa⟩ mk):=by
 refine Qo Tryz.func58 λw S φ hg=>?_
 have hl:=(fu.1 hr).1;refine ag ?_;refine gg ?_;refine JT ?_;refine cJ (hr) ?_;exact aL hg 2 5 cZ rfl rfl (y6 _ _ _ _ cZ)
theorem Qm(Y:YP)(a d e:D)(ts:List (List D))(c n:Nat)(aa:List (List D))(mk:Bool){s:ByteArray}{i j:Int}{b:Bool}(hr:ts[c]? = some [.v (.int .i64 1),.v (.string s),.v (.int .i64 i),.v (.int .i64 j),.v (.bool b)]) :
  aU Tryz.prog Y 129 [.lo 0 0] (mD ⟨a,.sl ts,.v (.int .i64 c),d,e,.v (.int .i64 0),n,aa⟩ mk) (bV (IM s.data.toList).isNone) (mD ⟨a,.sl ts,.v (.int .i64 c),d,e,.v (.int .i64 0),n,aa⟩ true):=by
 have hP:=abb Y a d e ts c n aa mk hr;have hI:=Hb Y ⟨a,.sl ts,.v (.int .i64 c),d,e,.v (.int .i64 0),n,aa⟩ mk s.data.toList;rw[are]at hI;generalize RC.mk a (.sl ts) (.v (.int .i64 c)) d e (.v (.int .i64 0)) n aa=q at hP hI;refine aU.ej (pf:=λf=>bif Nat.beq f 4900100009 then .bT 100 else .jz) gK mixed Tryz.func129 rfl da da (by simp[Tryz.ntmps129]) (by simp[mD,fy]) λw S φ hg=>?_
 have hk:∀(o:List Ob),(mD q true).map (aR (bZ false 2 o 5))=mD q true:=λo=>y6 _ _ _ _ cZ
 refine ag ?_;refine aj hg.ok hg.cm hg.wide hg.Y [0,1] (mD q mk) hP cN rfl rfl rfl rfl rfl Tw rfl Tw (ag ?_);refine gg ?_;refine gg ?_;refine gg ?_;refine mM ?_;refine acO hg.ok 5 9 da da ?_ ?_;refine ag ?_;refine aj hg.ok hg.cm hg.wide hg.Y [0,1] (mD q true++[.box [.d (.v (.int .i64 1)),.d (.v (.string s)),.d (.v (.int .i64 i)),.d (.v (.int .i64 j)),.d (.v (.bool b))]]) hI cN rfl rfl rfl rfl rfl Tw rfl Tw ?_;cases IM s.data.toList with
 |none=>refine dJ hg.ok rfl rfl ?_;exact aL hg 2 5 cZ rfl rfl (hk _)
 |some x=>refine dJ hg.ok rfl rfl ?_;exact aL hg 2 5 cZ rfl rfl (hk _)
 refine ag ?_;refine aj hg.ok hg.cm hg.wide hg.Y [0,1] (mD q true++[.box [.d (.v (.int .i64 1)),.d (.v (.string s)),.d (.v (.int .i64 i)),.d (.v (.int .i64 j)),.d (.v (.bool b))],.box [iV 0,iV 0,iV 0]]) hI cN rfl rfl rfl rfl rfl Tw rfl Tw ?_;cases IM s.data.toList with
 |none=>refine dJ hg.ok rfl rfl ?_;exact aL hg 2 5 cZ rfl rfl (hk _)
 |some x=>refine dJ hg.ok rfl rfl ?_;exact aL hg 2 5 cZ rfl rfl (hk _)
noncomputable def Qn (f:Nat) (args:List AV) (objs:List Ob):Option (AV×List Ob) :=
 bif Nat.beq f 118 then
  match args,objs with
  |[.lo 0 7,.d (.v (.string s))],[.box [.d a,.d b,.d c,.ow 1 n,.d d,.d e,.d g,.d (.v (.int .u32 dn)),.d (.v (.int .i32 (.ofNat 0))),.d (.v (.int .u32 (.ofNat 0))),.d tb],.arr 1 m aa]=>bif Nat.beq n m then(match S8 dn tb with|some _=>some (agY (IM s.data.toList),mD ⟨a,b,c,d,e,g,n,aa⟩ true)|none=>none)else none
  |_,_=>none
 else bif Nat.beq f 129 then
  match args,objs with
  |[.lo 0 0],[.box [.d a,.d (.sl ts),.d (.v (.int .i64 (.ofNat c))),.ow 1 n,.d d,.d e,.d (.v (.int .i64 (.ofNat 0))),.d (.v (.int .u32 dn)),.d (.v (.int .i32 (.ofNat 0))),.d (.v (.int .u32 (.ofNat 0))),.d tb],.arr 1 m aa]=>
   bif Nat.beq n m then(match s8 ts c with
    |some [.v (.int .i64 (.ofNat 1)),.v (.string s),.v (.int .i64 _),.v (.int .i64 _),.v (.bool _)]=>(match S8 dn tb with|some _=>some (bV (IM s.data.toList).isNone,mD ⟨a,.sl ts,.v (.int .i64 (.ofNat c)),d,e,.v (.int .i64 (.ofNat 0)),n,aa⟩ true)|none=>none)
    |_=>none)else none
  |_,_=>none
 else match objs with
 |[]=>(match args with
  |[.agg [.d a,.d b,.d c,.d d]]=>bif Nat.beq f 38 then Ed (decide ((dT a b c d).size<1000000000)&&((dT a b c d).gX 1).all λe=>decide (e.2.s.size<1000000000)) args [(dT a b c d).av] (bV (dT a b c d).bB)else none
  |[.agg [.d r]]=>bif Nat.beq f 35 then Ed (UQ (dCs (Nw r))) args [Al (dCs (Nw r))] (.cP [iV (fH (dCs (Nw r))).1,iV (fH (dCs (Nw r))).2])else none
  |[.d g,.agg [.d r]]=>bif Nat.beq f 37 then Ed (decide (Gl.aw (dGs 12 (Nw g))<=1000000)&&decide ((dCs (Nw r)).length<=1000000)) args [.d (.sl (Gl.aa (dGs 12 (Nw g)))),Al (dCs (Nw r))] (bV (bm (eO (dCs (Nw r))) (dGs 12 (Nw g))))else none
  |_=>none)
 |_=>none
theorem VV{Y:YP}{args:List AV}{objs o1:List Ob}(h:Qn f args objs=some (r,o1)):aU Tryz.prog Y f args objs r o1:=by
 unfold Qn at h;cases hb:Nat.beq f 118
 ·rw [hb]at h;simp only[cond_false]at h;cases hb:Nat.beq f 129
  ·rw [hb]at h;simp only[cond_false]at h;split at h
   case h_2=>cases h
   split at h;rename_i a b c d;cases hb:Nat.beq f 38;rw[hb]at h;cases h;rw[hb]at h;obtain rfl:=cB hb;refine y7 h (λhc=>?_) rfl;simp only[aV,decide_eq_true_eq,fB]at hc;rw[<-cV];exact fe _ hc.1 λe he=>hc.2 e he
   rename_i r;cases hb:Nat.beq f 35;rw[hb]at h;cases h;rw[hb]at h;obtain rfl:=cB hb;exact y7 h (λhc=>MU _ (Sn hc).1) rfl;rename_i g r;cases hb:Nat.beq f 37;rw[hb]at h;cases h;rw[hb]at h;obtain rfl:=cB hb;refine y7 h (λhc=>?_) rfl;simp only[aV,decide_eq_true_eq]at hc;exact G1 _ _ hc.1 hc.2;cases h
  ·rw [hb]at h;simp only[cond_true]at h;obtain rfl:=cB hb;split at h<;>try (cases h;done)
   rename_i a ts c n d e dn tb m aa;cases hn:Nat.beq n m;rw[hn]at h;cases h
   ·rw [hn]at h;obtain rfl:=cB hn;simp only[cond_true,gf,bE]at h;split at h<;>try (cases h;done)
    rename_i hr;split at h<;>try (cases h;done)
    rename_i mk hm;obtain⟨rfl,h2⟩:=Ng hm;rw[h2];cases h;exact Qm Y _ _ _ _ _ _ _ mk hr
 ·rw [hb]at h;simp only[cond_true]at h;obtain rfl:=cB hb;split at h<;>try (cases h;done)
  rename_i s a b c n d e g dn tb m aa;cases hn:Nat.beq n m;rw[hn]at h;cases h
  ·rw [hn]at h;obtain rfl:=cB hn;simp only[cond_true]at h;split at h<;>try (cases h;done)
   rename_i mk hm;obtain⟨rfl,h2⟩:=Ng hm;rw[h2];cases h;exact Hb Y ⟨a,b,c,d,e,g,n,aa⟩ mk s.data.toList
noncomputable def agZ (f:Nat) (ar:List AV) (r:AV):Bool:=lh ar&&match exF tyT.get 83 (exT aa8) Qn 100 false f ar []with
 | .ok (s,[])=>(match iP [] 30 s with|some y=>JD y r|none=>false)
 |_=>false
theorem abc{ar:List AV}(h:agZ f ar r=true):br Tryz.prog f ar r:=by simp only[agZ,aV]at h;obtain⟨hp,h⟩:=h;split at h;rename_i s hs;split at h;rename_i y hy;exact(aU.toP (ajZ (Y:=⟨[],λ_=>true⟩) gK mixed A0 aba (λ_ _ _ _ _ h=>VV h) 100 _ _ _ _ _ _ hs) hp hy).res h;cases h;cases h
end Go.Proofs.YtmjmngigbachdaaGreatDoor

namespace Go.Proofs.YtmjmngigbachdaaGreatDoor
open Go ax Go.Proofs
theorem VW (l:List Cs)(q:Cs):br Tryz.prog 7 [Al l,q.av,iV (-1)] (.cP [.d (.sl []),iV 1]):=by
 refine akM Tryz.func7 λw S hg=>?_
 refine r7 ?_;refine bz ?_;rfl
def arf:Bs:=[112,40,97,41,46,32,112,40,98,41,46,32,99,40,88,41,32,58,45,32,112,40,88,41,44,32,33,46,32,110,32,58,45,32,92,43,32,112,40,99,41,44,32,119,114,105,116,101,40,120,41,46]
def arh:Bs:=[112,40,88,41,46]
def ari:Bs:=[99,40,88,41,44,32,110,46]
def x7:List Cs:=[⟨Px [112] [Px [97] []],[],0⟩,⟨Px [112] [Px [98] []],[],0⟩,⟨Px [99] [Tm.vT 0],[.mk 1 (Px [112] [Tm.vT 0]) [] [] [],.mk 3 aJ [] [] []],1⟩,⟨Px [110] [],[.mk 5 aJ [.mk 1 (Px [112] [Px [99] []]) [] [] []] [] [],.mk 2 (Px [119,114,105,116,101] [Px [120] []]) [] [] []],0⟩]
def Ee:ajH:=(Px [112] [Tm.vT 0],[[88]])
def Hc:ajH:=(Px [44] [Px [99] [Tm.vT 0],Px [110] []],[[88]])
theorem abd:br Tryz.prog 15 [UI arf] (.cP [Al x7,iV 0,iV 0]):=abc da
theorem Nh:Med (x7++[DQ Ee]):=(y3 (l:=x7) (q:=DQ Ee) da).1
theorem Ni:Med (x7++[DQ Hc]):=(y3 (l:=x7) (q:=DQ Hc) da).1
theorem S9:∀c∈x7,rl c:=λc hc=>DY (fB.1 (show(x7.all aaO)=true by kernel_rfl) c hc)
theorem abe:br Tryz.prog 16 [UI arh,Al x7] (.cP [(DQ Ee).av,.d (.sl (tV Ee.2)),iV 0,iV 0]):=abc da
theorem abf:br Tryz.prog 16 [UI ari,Al x7] (.cP [(DQ Hc).av,.d (.sl (tV Hc.2)),iV 0,iV 0]):=abc da
def aoy:List Ev:=[oc [gT (Tx [97])],oc [gT (Tx [98])],sT]
def aoz:List Ev:=[sU [120],oc [gT (Tx [97])],sT]
theorem abg:Ji x7 (DQ Ee) 10=some aoy:=by kernel_rfl
theorem abh:Ji x7 (DQ Hc) 10=some aoz:=by kernel_rfl
theorem ry {l:List Cs}{q:Cs}(hsq:Ir q)(Wc:∀c∈l,Ir c)(hl:∀c∈l,rl c)(hf:rl q)(h:lj q l=true){ab:Nat}(C5:ab<=90){s:List Ev}(hs:aeg l q ab s):br Tryz.prog 7 [Al l,q.av,iV ab] (.cP [.d (.sl (s.map Ev.row)),iV 0]):=by have hq:=ql h;have hd:=SJ hf h;have hP:=agR hl hq.prog;exact VJ hsq Wc hP ⟨hd.1,hd.2⟩ h hq.anF (by have:=hsq.size;have:=Gl.me q.body;omega) aq (aef hf h C5) hs.ends hs.len
theorem abi:br Tryz.prog 7 [Al x7,(DQ Ee).av,iV 10] (.cP [.d (.sl (aoy.map Ev.row)),iV 0]) :=ry (Nh.sm _ aD) (λc hc=>Nh.sm c (Xf _ hc)) S9 (DY da) da (ab:=10) aq ⟨G5 abg,by decide⟩
theorem abj:br Tryz.prog 7 [Al x7,(DQ Hc).av,iV 10] (.cP [.d (.sl (aoz.map Ev.row)),iV 0]) :=ry (Ni.sm _ aD) (λc hc=>Ni.sm c (Xf _ hc)) S9 (DY da) da (ab:=10) aq ⟨G5 abh,by decide⟩
theorem lK:br Tryz.prog 6 [] (bV true):=by
 refine v8 Tryz.func6 λw S hg=>?_
 refine aA (abd) ?_;refine aA (abe) ?_;refine aA (abf) ?_;refine aA (abi) ?_;refine aA (abj) ?_;refine aA (VW x7 (DQ Ee)) ?_
 repeat
  first
  |(refine iq rfl rfl (λh=>absurd h (by decide +kernel)) (λ_=>?_);refine dJ hg.ok rfl rfl ?_)
  |(refine iq rfl rfl (λ_=>?_) (λh=>absurd h (by decide +kernel));refine dJ hg.ok rfl rfl ?_)
  |(refine dX hg.ok rfl rfl rfl rfl rfl rfl eA rfl rfl ?_;refine dJ hg.ok rfl rfl ?_)
 refine bz ?_;rfl
theorem Jr (q:Cs)(l:List Cs)(hq:Ir q)(hl:∀c∈l,Ir c)(a8:l.length<=1000000):br Tryz.prog 5 [q.av,Al l] (bV (lj q l)):=by
 have hs:=hq.head.1;have hr:=zF q.head aq hq.head.2;have hv:=(CV [q.head] J1).one;have hc:=xS (pfC adz q) (MY Ix.1 hq);rw[<-LS,<-ai7]at hc;have ht:=zY l a8 q.body hq.size
 have hf:lj q l=(((fH l).2==0)&&(q.head.k==3)&&aX q.head.s ⟨#[63]⟩&&q.head.bB&&(Tm.fA [] [q.head]).all (λx=>decide (x<q.vars))&&iX (pfC O6 q)&&bm (eO l) q.body):=by
  unfold lj;cases h:q.head.bB with
  |false=>simp
  |true=>rw[vr [q.head] (Tm.l9 _ (Lj ln))]
 rw[hf];clear hf;have Oa:(Tm.fA [] [q.head]).length<=1000000:=by have:=Tm.qT [q.head] [];simp[Tm.aw]at this;omega
 generalize Tm.fA [] [q.head]=V at *;refine ng Tryz.func5 λw S hg=>?_
 refine aA (MW l hl a8) ?_;refine af (λh1=>?_) λh1=>?_
 refine bz ?_;rw[show((fH l).2==0)=false by simpa using h1];rfl;rw[show((fH l).2==0)=true by simpa using h1,iu];refine af (λh2=>?_) λh2=>?_
 refine bz ?_;rw[show(q.head.k==3)=false by simpa using h2];rfl;rw[show(q.head.k==3)=true by simpa using h2,iu];refine af (λh3=>?_) λh3=>?_
 refine bz ?_;rw[show aX q.head.s ⟨#[63]⟩=false by simpa using h3];rfl;rw[show aX q.head.s ⟨#[63]⟩=true by simpa using h3,iu];refine aA (hr) ?_;refine af (λh4=>?_) λh4=>?_
 refine bz ?_;rw[show q.head.bB=false by simpa using h4];rfl;rw[show q.head.bB=true by simpa using h4,iu];refine aA (hv) ?_;refine a7 (λk:Nat=>([(2,.lo 0 0),(3,.lo 1 0),(7,.d (.sl (cD V))),(8,iV k)],[aaB q,.box [.d (.sl (Cs.aa l))]])) (λk=>k<=V.length/\V.all (λx=>decide (x<q.vars))=(V.drop k).all λx=>decide (x<q.vars)) (λk=>V.length-k) 0 ⟨bU _,rfl⟩ Bi rfl ?_;rintro k ⟨hk,hm⟩;refine ag ?_;refine af (λh=>?_) λh=>?_
 have aI:k<V.length:=bo h Tt;have e1:V[k]? = some V[k]:=dG aI;rw[List.drop_eq_getElem_cons aI,pK]at hm;generalize V[k]=x at e1 hm;refine cJ (iE e1) ?_;refine af (λh=>?_) λh=>?_
 refine bz ?_;rw[hm,show decide (x<q.vars)=false by simpa using h];rfl;exact bb (k+1) ⟨aI,by rw[hm,show decide (x<q.vars)=true by simpa using h,iu]⟩ aq ahp rfl;have aI:V.length<=k:=bw h Tt;rw[hm,cX aI];refine aA (hc) ?_;refine af (λh5=>?_) λh5=>?_
 refine aA (ht) ?_;refine bz ?_;rw[h5];rfl;refine bz ?_;rw[h5];rfl
end Go.Proofs.YtmjmngigbachdaaGreatDoor
