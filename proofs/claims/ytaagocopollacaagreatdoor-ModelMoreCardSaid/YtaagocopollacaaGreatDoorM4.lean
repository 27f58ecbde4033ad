import Derived.Test.YtaagocopollacaaGreatDoorM3
import Derived.Laws.StructEq
set_option maxRecDepth 100000
set_option maxHeartbeats 4000000
namespace Go.Proofs.YtaagocopollacaaGreatDoor
open Go aw Go.Proofs

variable{b:Bool}
theorem aU.abb{P:Program}{Y:YP}{f:Nat}{x y:AV}{dM:List AV}{objs a8:List Ob}{r:AV}(h:aU P Y f (y::dM) objs r a8)(he:bM x y):aU P Y f (x::dM) objs r a8:=⟨h.call,fun S φ w bL ha hs hb hy hv=>h.run S φ w bL ha hs hb hy (by
 cases bL with
 |nil=>simp[aW]at hv
 |cons v bL=>simp only[aW]at hv ⊢;exact⟨he _ _ _ _ hv.1,hv.2⟩),h.len⟩

theorem vP{g:G}{ad:Array Oper}{aie:List Ob}(hg:GS g aie)(is:List Nat){Y:YP}{f:Nat}{xs:List AV}{bT:List Ob}{r:AV}(hc:aU g.P Y f xs bT r bT)(uH:(∃ (i l:Nat) (I:Nat→(Nat→Prop)→(Nat→Prop)→World→Prop) (B:Nat→Prop),g.φ0[i]? = some (bB.ext l I B))→Y=g.Y){dst:Option Nat}{x:Operand}{args:Array Operand}{ts:Array Nat}{ty:Nat}{pos:String}{after:Array Edge}{gd:Option (Nat × Bool)}
  {E:bk} {objs:List Ob} {fs cs:List AV}
  (bm:aG ad.toList E gd=some true) (hd:aO ⟨g.ty,g.N⟩ dst=true) (hx:ev E x=.bU f fs cs) (dw:isOk (len objs) is=true) (jE:fE objs is=some (bT.map (bz (rn is (len objs)))))
  (has:(fs++args.toList.map (ev E)++cs).map lB=iu (rn is (len objs)) xs) (kh:cZ is (bT.map (bz (rn is (len objs)))) objs=objs) (hv:N1 (c8 (rn is (len objs)) r) E dst):∃v,tW g ad ⟨dst,.call { callee:=.value x,args:=args,argTypes:=ts },ty,pos,after,gd⟩ E objs v objs∧∀d,dst=some d→bM v (lk E d):=by
 have h:=(mM hg.ok hg.cm hg.wide hg.Y is hc uH (ad:=ad) (dst:=dst) (x:=x) (args:=args) (ts:=ts) (ty:=ty) (pos:=pos) (after:=after) bm hd hx dw jE has).toE;rw[kh]at h;exact⟨_,h,hv.spec⟩

theorem bM.ffD(h:false=b):bM .ff (.d (.v (.bool b))):=fun S w φ v hv=>by
 subst h;simp only[RV]at hv ⊢;subst hv;exact .v _

theorem bM.apr(h:b=true):bM (.d (.v (.bool b))) .tt:=fun S w φ v hv=>by
 subst h;simp only[RV]at hv ⊢;cases hv;rfl

theorem bM.aps(h:b=false):bM (.d (.v (.bool b))) .ff:=fun S w φ v hv=>by
 subst h;simp only[RV]at hv ⊢;cases hv;rfl
theorem bM.ofEq{a b:AV}(h:a=b):bM a b:=h ▸ .refl a
def pb (x:Tm):Bool:=(x.k==3)&&decide (x.l.length=0)

theorem acE{x:Tm}(h:(x.k==3)=true):(((Tm.aa x.l).length:Int)==0)=pb x:=by
 unfold pb;rw[h,Tm.au,jX,vK];simp

theorem acF{x:Tm}(h:(x.k==3)=false):false=pb x:=by
 unfold pb;rw[h];rfl

def jS (l:List Tm)(x:Tm):List (ByteArray × AV):=[(Tx [102,97,105,108],.bU 120 [] [.d (.bG [.v (.bool false)])]),(Tx [110,108],.bU 124 [] [.lo 1 0]),(Tx [119,114,105,116,101],.bU 125 [.lo 0 0] []),(Tx [118,97,114],.bU 120 [] [.d (.bG [.v (.bool (x.k==1))])]),(Tx [110,111,110,118,97,114],.bU 120 [] [.d (.bG [.v (.bool (x.k != 1))])]),(Tx [97,116,111,109],.bU 120 [] [.d (.bG [.v (.bool (pb x))])]),(Tx [105,110,116,101,103,101,114],.bU 120 [] [.d (.bG [.v (.bool (x.k==2))])]),(Tx [61],.bU 126 [] [.lo 1 0,lzA l]),(Tx [92,61],.bU 128 [.lo 0 0] []),(Tx [61,61],.bU 129 [.lo 0 0] []),(Tx [92,61,61],.bU 130 [] [.lo 1 0]),(Tx [64,60],.bU 122 [] [.lo 1 0,.d (.bG [nS 131])]),(Tx [64,62],.bU 122 [] [.lo 1 0,.d (.bG [nS 132])]),(Tx [64,61,60],.bU 122 [] [.lo 1 0,.d (.bG [nS 133])]),(Tx [64,62,61],.bU 122 [] [.lo 1 0,.d (.bG [nS 134])]),(Tx [105,115],.bU 135 [.lo 0 0] []),(Tx [102,117,110,99,116,111,114],.bU 136 [.lo 0 0] []),(Tx [97,114,103],.bU 137 [.lo 0 0] []),(Tx [61,46,46],.bU 138 [.lo 0 0] [])]
def uA (l:List Tm)(s:ByteArray):ByteArray × AV:=(s,.bU 139 [] [.lo 1 0,lzA l,.d (.bG [.v (.string s)])])
def de:List ByteArray:=[Tx [61,58,61],Tx [61,92,61],Tx [60],Tx [62],Tx [61,60],Tx [62,61]]
def br (l:List Tm)(x:Tm):List (ByteArray × AV):=jS l x++de.map (uA l)
def deI:List T6:=[(3,Tx [102,97,105,108],22),(5,Tx [110,108],23),(8,Tx [119,114,105,116,101],25),(16,Tx [118,97,114],32),(24,Tx [110,111,110,118,97,114],39),(40,Tx [97,116,111,109],54),(48,Tx [105,110,116,101,103,101,114],61),(50,Tx [61],62),(53,Tx [92,61],64),(56,Tx [61,61],66),(58,Tx [92,61,61],67),(61,Tx [64,60],69),(64,Tx [64,62],71),(67,Tx [64,61,60],73),(70,Tx [64,62,61],75),(73,Tx [105,115],77),(76,Tx [102,117,110,99,116,111,114],79),(79,Tx [97,114,103],81),(82,Tx [61,46,46],83)]
def Ms (l:List Tm)(nx:Int):List Ob:=Ht l [] false ByteArray.empty nx 0++[.dead,.dead]

theorem zU(l:List Tm)(nx:Int)(tl:List Ob):cZ [0,1] (List.map (bz (rn [0,1] (len (Ms l nx++tl)))) (Ht l [] false ByteArray.empty nx 0)) (Ms l nx++tl)=Ms l nx++tl:=by
 simp[Ms,Ht,jR,cZ,da,bz,iu,c8,rn,dk,bV,iV];rfl
def apt:Nat→cC:=fun f=>bif Nat.beq f 4900100004 then .bO 100 else .ji
def apu (l:List Tm)(x:Tm):bk:=[(20,.mp 4),(21,.bU 119 [] []),(22,.bU 120 [] [.d (.bG [.v (.bool false)])]),(23,.bU 124 [] [.lo 1 0]),(24,.lo 0 0),(25,.bU 125 [.lo 0 0] []),(26,.bU 119 [] []),(27,.d (.sl (Tm.aa (l++[aJ,aJ])))),(28,.d (.bG (Tm.row x))),(29,.d (.bG (Tm.row x))),(30,.d (.v (.int .i64 x.k))),(31,.d (.v (.bool (x.k==1)))),(32,.bU 120 [] [.d (.bG [.v (.bool (x.k==1))])]),(33,.bU 119 [] []),(34,.d (.sl (Tm.aa (l++[aJ,aJ])))),(35,.d (.bG (Tm.row x))),(36,.d (.bG (Tm.row x))),(37,.d (.v (.int .i64 x.k))),(38,.d (.v (.bool (x.k != 1)))),(39,.bU 120 [] [.d (.bG [.v (.bool (x.k != 1))])]),(40,.bU 119 [] []),(41,.d (.sl (Tm.aa (l++[aJ,aJ])))),(42,.d (.bG (Tm.row x))),(43,.d (.bG (Tm.row x))),(44,.d (.v (.int .i64 x.k))),(45,.d (.v (.bool (x.k==3)))),(46,.tt),(47,.d (.sl (Tm.aa (l++[aJ,aJ])))),(48,.d (.bG (Tm.row x))),(49,.d (.bG [.sl (Tm.aa x.l)])),(50,.d (.sl (Tm.aa x.l))),(51,.d (.v (.int .i64 (Tm.aa x.l).length))),(52,.d (.v (.bool (((Tm.aa x.l).length:Int)==0)))),(53,.d (.v (.bool (pb x)))),(54,.bU 120 [] [.d (.bG [.v (.bool (pb x))])]),(55,.bU 119 [] []),(56,.d (.sl (Tm.aa (l++[aJ,aJ])))),(57,.d (.bG (Tm.row x))),(58,.d (.bG (Tm.row x))),(59,.d (.v (.int .i64 x.k))),(60,.d (.v (.bool (x.k==2)))),(61,.bU 120 [] [.d (.bG [.v (.bool (x.k==2))])]),(62,.bU 126 [] [.lo 1 0,lzA l]),(63,.lo 0 0),(64,.bU 128 [.lo 0 0] []),(65,.lo 0 0),(66,.bU 129 [.lo 0 0] []),(67,.bU 130 [] [.lo 1 0]),(68,.bU 121 [] [.lo 1 0]),(69,.bU 122 [] [.lo 1 0,.d (.bG [nS 131])]),(70,.bU 121 [] [.lo 1 0]),(71,.bU 122 [] [.lo 1 0,.d (.bG [nS 132])]),(72,.bU 121 [] [.lo 1 0]),(73,.bU 122 [] [.lo 1 0,.d (.bG [nS 133])]),(74,.bU 121 [] [.lo 1 0]),(75,.bU 122 [] [.lo 1 0,.d (.bG [nS 134])]),(76,.lo 0 0),(77,.bU 135 [.lo 0 0] []),(78,.lo 0 0),(79,.bU 136 [.lo 0 0] []),(80,.lo 0 0),(81,.bU 137 [.lo 0 0] []),(82,.lo 0 0),(83,.bU 138 [.lo 0 0] []),(84,.mp 4),(6,.mp 4)]
def apv (l:List Tm)(x:Tm):bk:=[(20,.mp 4),(21,.bU 119 [] []),(22,.bU 120 [] [.d (.bG [.v (.bool false)])]),(23,.bU 124 [] [.lo 1 0]),(24,.lo 0 0),(25,.bU 125 [.lo 0 0] []),(26,.bU 119 [] []),(27,.d (.sl (Tm.aa (l++[aJ,aJ])))),(28,.d (.bG (Tm.row x))),(29,.d (.bG (Tm.row x))),(30,.d (.v (.int .i64 x.k))),(31,.d (.v (.bool (x.k==1)))),(32,.bU 120 [] [.d (.bG [.v (.bool (x.k==1))])]),(33,.bU 119 [] []),(34,.d (.sl (Tm.aa (l++[aJ,aJ])))),(35,.d (.bG (Tm.row x))),(36,.d (.bG (Tm.row x))),(37,.d (.v (.int .i64 x.k))),(38,.d (.v (.bool (x.k != 1)))),(39,.bU 120 [] [.d (.bG [.v (.bool (x.k != 1))])]),(40,.bU 119 [] []),(41,.d (.sl (Tm.aa (l++[aJ,aJ])))),(42,.d (.bG (Tm.row x))),(43,.d (.bG (Tm.row x))),(44,.d (.v (.int .i64 x.k))),(45,.d (.v (.bool (x.k==3)))),(46,.ff),(47,.cH []),(48,.cH []),(49,.cH []),(50,.cH []),(51,.cH []),(52,.cH []),(53,.d (.v (.bool (pb x)))),(54,.bU 120 [] [.d (.bG [.v (.bool (pb x))])]),(55,.bU 119 [] []),(56,.d (.sl (Tm.aa (l++[aJ,aJ])))),(57,.d (.bG (Tm.row x))),(58,.d (.bG (Tm.row x))),(59,.d (.v (.int .i64 x.k))),(60,.d (.v (.bool (x.k==2)))),(61,.bU 120 [] [.d (.bG [.v (.bool (x.k==2))])]),(62,.bU 126 [] [.lo 1 0,lzA l]),(63,.lo 0 0),(64,.bU 128 [.lo 0 0] []),(65,.lo 0 0),(66,.bU 129 [.lo 0 0] []),(67,.bU 130 [] [.lo 1 0]),(68,.bU 121 [] [.lo 1 0]),(69,.bU 122 [] [.lo 1 0,.d (.bG [nS 131])]),(70,.bU 121 [] [.lo 1 0]),(71,.bU 122 [] [.lo 1 0,.d (.bG [nS 132])]),(72,.bU 121 [] [.lo 1 0]),(73,.bU 122 [] [.lo 1 0,.d (.bG [nS 133])]),(74,.bU 121 [] [.lo 1 0]),(75,.bU 122 [] [.lo 1 0,.d (.bG [nS 134])]),(76,.lo 0 0),(77,.bU 135 [.lo 0 0] []),(78,.lo 0 0),(79,.bU 136 [.lo 0 0] []),(80,.lo 0 0),(81,.bU 137 [.lo 0 0] []),(82,.lo 0 0),(83,.bU 138 [.lo 0 0] []),(84,.mp 4),(6,.mp 4)]

theorem Y1:(deI.map (·.1)).Nodup∧(deI.map (·.2.1)).Nodup:=by
 constructor
 ·exact mO cX
 ·decide +kernel

theorem xC(f:AV→AV)(l:List Tm)(x:Tm)(ns:List ByteArray)(hw:(jS l x).map (fun p=>f p.2)=(jS l x).map (·.2))(hn:∀s,f (uA l s).2=(uA l s).2):(eI (jS l x++ns.map (uA l))).map (fun e=>(e.1,f e.2))=eI (jS l x++ns.map (uA l)):=by
 unfold eI;rw[jw,List.map_append,List.map_append];congr 1
 ·refine Gg fun p hp=>?_
  obtain⟨i,hi⟩:=uE.1 hp;have:=congrArg (fun l=>l[i]?) hw;simp only[eU,hi,rD,Option.some.injEq]at this;simp[this]
 ·rw [jw,jw];refine Gg fun s _=>?_
  simp[hn]

theorem Wm(l:List Tm)(x:Tm){k:Nat}{s:ByteArray}(e1:de[k]? = some s):dI (jS l x++(de.take k).map (uA l)) s=none:=by
 refine mN.2 fun p hp e=>?_
 have hn:((br l x).map (·.1)).Nodup:=by
  have:(br l x).map (·.1)=deI.map (·.2.1)++de:=rfl;rw[this];decide +kernel
 have hk:k<de.length:=(bC.1 e1).1
 have hs:de=de.take k++s::de.drop (k+1):=by
  have h:=List.drop_eq_getElem_cons hk;rw[(bC.1 e1).2]at h;rw[← h,List.take_append_drop]
 have he:br l x=(jS l x++(de.take k).map (uA l))++uA l s::(de.drop (k+1)).map (uA l):=by
  unfold br;rw[List.append_assoc,← List.map_cons,← List.map_append,← hs]
 rw[he,List.map_append,vN]at hn;exact hn.2.2 p.1 (fA.2 ⟨p,hp,rfl⟩) s (by simp[uA]) e

theorem Om(Y:YP)(l:List Tm)(nx:Int)(x:Tm)(hx:(l++[aJ,aJ])[0]? = some x)(hl:l.length≤1000):aU Tryz.prog Y 108 [.lo 0 0] (jR l [] false ByteArray.empty nx 0) (.mp 4) (Ms l nx++[.tI (eI (br l x))]):=by
 have kQ:=Tm.au l
 have hr4:∀r∈Tm.aa l,r.length=4:=fun r hr=>by
  rw[Tm.dZ]at hr;obtain⟨y,_,rfl⟩:=fA.1 hr;rfl
 refine aU.ej (pf:=apt) gK mixed Tryz.func108 rfl cX cX (by simp[Tryz.ntmps108]) (by simp[Ms,Ht,jR]) fun w S φ hg=>?_
 have hφ:φ.length=1:=hg.j5.len;refine af ?_;refine sI hg.ok (aa:=[]) rfl rfl (.inl rfl) rfl (.inl rfl) rfl rfl rfl aC hr4 Sd Sd (af ?_);refine gN 17 rfl (bM.aa (rows':=[Tm.row aJ,Tm.row aJ]) ⟨⟨.refl _,.refl _,.refl _,.nil,trivial⟩,⟨.refl _,.refl _,.refl _,.nil,trivial⟩,trivial⟩) ?_;refine dp hg.ok (Tm.aa (l++[aJ,aJ])) rfl rfl rfl rfl rfl rfl rfl rfl rfl (by simp[Tm.row]) PO (by rw[o8,Tm.dZ,Tm.dZ];simp) (by rw[o8,kQ];simp;omega) (by rw[o8,kQ];simp;omega) ?_;refine vC ?_;refine EW hg.cm 2 [(1,.lo 1 0),(3,.bU 119 [] []),(4,.lo 3 0)] [.box [.d (.sl (Tm.aa l)),bV false,.d (alD []),bV false,.d (.v (.string ByteArray.empty)),iV nx,iV 0],.box [.lo 0 0],.dead,.box [.d (.sl (Tm.aa (l++[aJ,aJ])))]] rfl rfl uC ⟨DC,Sf,by simp[nR],⟨bM.frz 2 _ _,trivial⟩,trivial⟩ ?_;refine sS hg.cm 3 [.sl (Tm.aa (l++[aJ,aJ]))] V2 rfl rfl (af ?_);show R _ _ _ _ [(5,.bU 121 [] [.lo 1 0]),(19,.bU 121 [] [.lo 1 0]),(1,.lo 1 0),(3,.bU 119 [] []),(4,lzA l)] (Ms l nx)
 cases h3:(x.k==3) with
 |true =>
  refine Rb hg.ok (jm:=0) (tm:=20) deI (apu l x) rfl (Ra hg.ok 207 rfl rfl cX cX cX cX cX rfl rfl cX Y1.2 rfl ?_) ?_
  ·unfold rY;refine⟨fun h=>Bool.noConfusion (show true=false from h),?_⟩;refine⟨fun _ tl=>ao hg.ok rfl rfl rfl rfl dQ,?_⟩;refine⟨fun _ tl=>nX hg.ok (jY false) rfl rfl rfl rfl rfl rfl dQ,?_⟩;refine⟨fun h=>Bool.noConfusion (show true=false from h),?_⟩;refine⟨fun _ tl=>ao hg.ok rfl rfl rfl rfl dQ,?_⟩;refine⟨fun h=>Bool.noConfusion (show true=false from h),?_⟩;refine⟨fun _ tl=>ao hg.ok rfl rfl rfl rfl dQ,?_⟩;refine⟨fun _ tl=>ao hg.ok rfl rfl rfl rfl dQ,?_⟩;refine⟨fun h=>Bool.noConfusion (show true=false from h),?_⟩;refine⟨fun _ tl=>ao hg.ok rfl rfl rfl rfl dQ,?_⟩;refine⟨fun _ tl=>ao hg.ok rfl rfl rfl rfl dQ,?_⟩;refine⟨fun _ tl=>iy hg.ok rfl rfl rfl rfl rfl rfl fi (Tm.aB hx) rfl dQ,?_⟩;refine⟨fun _ tl=>ao hg.ok rfl rfl rfl rfl dQ,?_⟩;refine⟨fun _ tl=>ao hg.ok rfl rfl rfl rfl dQ,?_⟩;refine⟨fun _ tl=>ao hg.ok rfl rfl rfl rfl dQ,?_⟩;refine⟨fun _ tl=>nX hg.ok (jY (x.k==1)) rfl rfl rfl rfl rfl rfl dQ,?_⟩;refine⟨fun h=>Bool.noConfusion (show true=false from h),?_⟩;refine⟨fun _ tl=>ao hg.ok rfl rfl rfl rfl dQ,?_⟩;refine⟨fun _ tl=>ao hg.ok rfl rfl rfl rfl dQ,?_⟩;refine⟨fun _ tl=>iy hg.ok rfl rfl rfl rfl rfl rfl fi (Tm.aB hx) rfl dQ,?_⟩;refine⟨fun _ tl=>ao hg.ok rfl rfl rfl rfl dQ,?_⟩;refine⟨fun _ tl=>ao hg.ok rfl rfl rfl rfl dQ,?_⟩;refine⟨fun _ tl=>ao hg.ok rfl rfl rfl rfl dQ,?_⟩;refine⟨fun _ tl=>nX hg.ok (jY (x.k != 1)) rfl rfl rfl rfl rfl rfl dQ,?_⟩;refine⟨fun h=>Bool.noConfusion (show true=false from h),?_⟩;refine⟨fun _ tl=>ao hg.ok rfl rfl rfl rfl dQ,?_⟩;refine⟨fun _ tl=>ao hg.ok rfl rfl rfl rfl dQ,?_⟩;refine⟨fun _ tl=>iy hg.ok rfl rfl rfl rfl rfl rfl fi (Tm.aB hx) rfl dQ,?_⟩;refine⟨fun _ tl=>ao hg.ok rfl rfl rfl rfl dQ,?_⟩;refine⟨fun _ tl=>ao hg.ok rfl rfl rfl rfl dQ,?_⟩;refine⟨fun _ tl=>ao hg.ok rfl rfl rfl rfl dQ,?_⟩;refine⟨fun _ tl=>ao hg.ok rfl rfl rfl rfl (bM.apr h3),?_⟩;refine⟨fun _ tl=>ao hg.ok rfl rfl rfl rfl dQ,?_⟩;refine⟨fun _ tl=>iy hg.ok rfl rfl rfl rfl rfl rfl fi (Tm.aB hx) rfl dQ,?_⟩;refine⟨fun _ tl=>ao hg.ok rfl rfl rfl rfl dQ,?_⟩;refine⟨fun _ tl=>ao hg.ok rfl rfl rfl rfl dQ,?_⟩;refine⟨fun _ tl=>ao hg.ok rfl rfl rfl rfl dQ,?_⟩;refine⟨fun _ tl=>ao hg.ok rfl rfl rfl rfl dQ,?_⟩;refine⟨fun _ tl=>ao hg.ok rfl rfl rfl rfl (bM.ofEq ((congrArg (fun b=>AV.d (.v (.bool b))) (acE h3)).trans rfl)),?_⟩;exact mB3
  ·show R _ _ _ _ _ (Ms l nx++[.tI (eI (jS l x))])
   refine adX ?_;refine ajJ ?_;intro k hk;refine af ?_;refine aj (fun h=>?_) fun h=>?_
   ·have aR:k<6:=bK h rfl;exact ake
   ·obtain rfl:k=6:=Nat.le_antisymm hk (cf (n:=6) h rfl);exact adK
 |false =>
  refine Rb hg.ok (jm:=0) (tm:=20) deI (apv l x) rfl (Ra hg.ok 207 rfl rfl cX cX cX cX cX rfl rfl cX Y1.2 rfl ?_) ?_
  ·unfold rY;refine⟨fun h=>Bool.noConfusion (show true=false from h),?_⟩;refine⟨fun _ tl=>ao hg.ok rfl rfl rfl rfl dQ,?_⟩;refine⟨fun _ tl=>nX hg.ok (jY false) rfl rfl rfl rfl rfl rfl dQ,?_⟩;refine⟨fun h=>Bool.noConfusion (show true=false from h),?_⟩;refine⟨fun _ tl=>ao hg.ok rfl rfl rfl rfl dQ,?_⟩;refine⟨fun h=>Bool.noConfusion (show true=false from h),?_⟩;refine⟨fun _ tl=>ao hg.ok rfl rfl rfl rfl dQ,?_⟩;refine⟨fun _ tl=>ao hg.ok rfl rfl rfl rfl dQ,?_⟩;refine⟨fun h=>Bool.noConfusion (show true=false from h),?_⟩;refine⟨fun _ tl=>ao hg.ok rfl rfl rfl rfl dQ,?_⟩;refine⟨fun _ tl=>ao hg.ok rfl rfl rfl rfl dQ,?_⟩;refine⟨fun _ tl=>iy hg.ok rfl rfl rfl rfl rfl rfl fi (Tm.aB hx) rfl dQ,?_⟩;refine⟨fun _ tl=>ao hg.ok rfl rfl rfl rfl dQ,?_⟩;refine⟨fun _ tl=>ao hg.ok rfl rfl rfl rfl dQ,?_⟩;refine⟨fun _ tl=>ao hg.ok rfl rfl rfl rfl dQ,?_⟩;refine⟨fun _ tl=>nX hg.ok (jY (x.k==1)) rfl rfl rfl rfl rfl rfl dQ,?_⟩;refine⟨fun h=>Bool.noConfusion (show true=false from h),?_⟩;refine⟨fun _ tl=>ao hg.ok rfl rfl rfl rfl dQ,?_⟩;refine⟨fun _ tl=>ao hg.ok rfl rfl rfl rfl dQ,?_⟩;refine⟨fun _ tl=>iy hg.ok rfl rfl rfl rfl rfl rfl fi (Tm.aB hx) rfl dQ,?_⟩;refine⟨fun _ tl=>ao hg.ok rfl rfl rfl rfl dQ,?_⟩;refine⟨fun _ tl=>ao hg.ok rfl rfl rfl rfl dQ,?_⟩;refine⟨fun _ tl=>ao hg.ok rfl rfl rfl rfl dQ,?_⟩;refine⟨fun _ tl=>nX hg.ok (jY (x.k != 1)) rfl rfl rfl rfl rfl rfl dQ,?_⟩;refine⟨fun h=>Bool.noConfusion (show true=false from h),?_⟩;refine⟨fun _ tl=>ao hg.ok rfl rfl rfl rfl dQ,?_⟩;refine⟨fun _ tl=>ao hg.ok rfl rfl rfl rfl dQ,?_⟩;refine⟨fun _ tl=>iy hg.ok rfl rfl rfl rfl rfl rfl fi (Tm.aB hx) rfl dQ,?_⟩;refine⟨fun _ tl=>ao hg.ok rfl rfl rfl rfl dQ,?_⟩;refine⟨fun _ tl=>ao hg.ok rfl rfl rfl rfl dQ,?_⟩;refine⟨fun _ tl=>ao hg.ok rfl rfl rfl rfl dQ,?_⟩;refine⟨fun _ tl=>ao hg.ok rfl rfl rfl rfl (bM.aps h3),?_⟩;refine⟨fun _ tl=>pR hg.ok rfl rfl dQ,?_⟩;refine⟨fun _ tl=>pR hg.ok rfl rfl dQ,?_⟩;refine⟨fun _ tl=>pR hg.ok rfl rfl dQ,?_⟩;refine⟨fun _ tl=>pR hg.ok rfl rfl dQ,?_⟩;refine⟨fun _ tl=>pR hg.ok rfl rfl dQ,?_⟩;refine⟨fun _ tl=>pR hg.ok rfl rfl dQ,?_⟩;refine⟨fun _ tl=>ao hg.ok rfl rfl rfl rfl (bM.ffD (acF h3)),?_⟩;exact mB3
  ·show R _ _ _ _ _ (Ms l nx++[.tI (eI (jS l x))])
   refine adX ?_;refine ajJ ?_;intro k hk;refine af ?_;refine aj (fun h=>?_) fun h=>?_
   ·have aR:k<6:=bK h rfl;exact ake
   ·obtain rfl:k=6:=Nat.le_antisymm hk (cf (n:=6) h rfl);exact adK
end Go.Proofs.YtaagocopollacaaGreatDoor

namespace Go.Proofs.YtaagocopollacaaGreatDoor
open Go aw Go.Proofs
theorem _root_.aw.GT.iw {t:Tm}(h:GT t):eu t:=⟨by have:=h.size;omega,fun d e he=>by have:=Hs h.fair d e he;omega⟩

theorem _root_.aw.GT.len {t:Tm}(h:GT t):t.l.length≤8:=by
 have h1:=h.fair;rw[Tm.px]at h1;simp only[aV]at h1;have h2:=h1.2;unfold Tm.mu at h2;split at h2
 ·simp only[aV,beq_iff_eq]at h2;omega
 ·split at h2
  ·simp only[aV,beq_iff_eq]at h2;omega
  ·simp only[aV,decide_eq_true_eq]at h2;omega

def gJ (Y:YP)(o:Option AV)(l:List Tm)(nx:Int)(k:Ak):Prop :=
 (∃f,o=some (.bU f [.lo 0 0] [])∧y7 Y f l nx k) ∨
 (∃ (f:Nat) (rs:List (List D)),rs.length≤2∧o=some (.bU f [] (.lo 1 0::rs.map fun r=>.d (.bG r)))∧Lf Y f (.lo 1 0::rs.map fun r=>.d (.bG r)) l nx k) ∨
 (∃ (f:Nat) (r:List D),o=some (.bU f [] [.d (.bG r)])∧bD Tryz.prog f [.d (.bG r)] (bV k.h)∧k=mg nx k.h)

theorem cB (l:List Tm)(x:Tm)(i:Nat){s:ByteArray}{v:AV}(h:(br l x)[i]? = some (s,v)):dI (br l x) s=some v:=by
 have hn:((br l x).map (·.1)).Nodup:=by
  have:(br l x).map (·.1)=deI.map (·.2.1)++de:=rfl;rw[this];decide +kernel
 exact(Cj hn).2 (gZ h)

theorem Lg (l:List Tm)(x:Tm):((br l x).map (·.1)).Nodup:=by
 have:(br l x).map (·.1)=deI.map (·.2.1)++de:=rfl;rw[this];decide +kernel

theorem Ri {P:ByteArray→Int→Prop}(s:ByteArray)(n:Int)(h:mf (s,n)=true)(h2:∀x∈zL,P (Tx x) 2)(h1:∀x∈zM,P (Tx x.1) x.2):P s n:=by
 unfold mf anyS at h;rw[mS,yM,yM]at h;rcases h with ⟨x,hx,he⟩ |⟨x,hx,he⟩
 ·obtain ⟨y,hy,rfl⟩:=fA.1 hx;simp only[decide_eq_true_eq,Prod.mk.injEq]at he;rw[← he.1,← he.2];exact h2 y hy
 ·simp only [decide_eq_true_eq,Prod.mk.injEq] at he;rw[← he.1,← he.2];exact h1 x hx

theorem Y2 (Y:YP)(nx:Int)(iW:0≤nx∧nx≤999992)(x:Tm)(hx:([]++[aJ,aJ])[0]? = some x):gJ Y (dI (br [] x) (Tx [102,97,105,108])) [] nx (dR (Tx [102,97,105,108]) [] nx):=by
 exact .inr (.inr ⟨_,_,cB _ _ 0 rfl,wS false,rfl⟩)

theorem Y3 (Y:YP)(nx:Int)(iW:0≤nx∧nx≤999992)(x:Tm)(hx:([]++[aJ,aJ])[0]? = some x):gJ Y (dI (br [] x) (Tx [110,108])) [] nx (dR (Tx [110,108]) [] nx):=by
 exact .inr (.inl ⟨_,[],by simp,cB _ _ 1 rfl,amB Y [] nx⟩)

theorem Y4 (Y:YP)(nx:Int)(iW:0≤nx∧nx≤999992)(x:Tm)(a:Tm)(ga:GT a)(hx:([a]++[aJ,aJ])[0]? = some x):gJ Y (dI (br [a] x) (Tx [119,114,105,116,101])) [a] nx (dR (Tx [119,114,105,116,101]) [a] nx):=by
 exact .inl ⟨_,cB _ _ 2 rfl,Ol Y a nx ga.r ga.f⟩

theorem Y5 (Y:YP)(nx:Int)(iW:0≤nx∧nx≤999992)(x:Tm)(a:Tm)(ga:GT a)(hx:([a]++[aJ,aJ])[0]? = some x):gJ Y (dI (br [a] x) (Tx [118,97,114])) [a] nx (dR (Tx [118,97,114]) [a] nx):=by
 obtain rfl:a=x:=by simpa using hx
 exact .inr (.inr ⟨_,_,cB _ _ 3 rfl,wS (a.k==1),rfl⟩)

theorem Y6 (Y:YP)(nx:Int)(iW:0≤nx∧nx≤999992)(x:Tm)(a:Tm)(ga:GT a)(hx:([a]++[aJ,aJ])[0]? = some x):gJ Y (dI (br [a] x) (Tx [110,111,110,118,97,114])) [a] nx (dR (Tx [110,111,110,118,97,114]) [a] nx):=by
 obtain rfl:a=x:=by simpa using hx
 exact .inr (.inr ⟨_,_,cB _ _ 4 rfl,(by have:=wS (a.k != 1);rwa [show bV (a.k != 1)=bV (decide (a.k≠1)) by rw[decide_not];rfl]at this),rfl⟩)

theorem Y7 (Y:YP)(nx:Int)(iW:0≤nx∧nx≤999992)(x:Tm)(a:Tm)(ga:GT a)(hx:([a]++[aJ,aJ])[0]? = some x):gJ Y (dI (br [a] x) (Tx [97,116,111,109])) [a] nx (dR (Tx [97,116,111,109]) [a] nx):=by
 obtain rfl:a=x:=by simpa using hx
 exact .inr (.inr ⟨_,_,cB _ _ 5 rfl,(by have:=wS (pb a);rwa [show bV (pb a)=bV (decide (a.k=3∧a.l.length=0)) by unfold pb;rw[Bool.decide_and];rfl]at this),rfl⟩)

theorem Y8 (Y:YP)(nx:Int)(iW:0≤nx∧nx≤999992)(x:Tm)(a:Tm)(ga:GT a)(hx:([a]++[aJ,aJ])[0]? = some x):gJ Y (dI (br [a] x) (Tx [105,110,116,101,103,101,114])) [a] nx (dR (Tx [105,110,116,101,103,101,114]) [a] nx):=by
 obtain rfl:a=x:=by simpa using hx
 exact .inr (.inr ⟨_,_,cB _ _ 6 rfl,wS (a.k==2),rfl⟩)

theorem Y9 (Y:YP)(nx:Int)(iW:0≤nx∧nx≤999992)(x:Tm)(a:Tm)(ga:GT a)(b:Tm)(gb:GT b)(hx:([a,b]++[aJ,aJ])[0]? = some x):gJ Y (dI (br [a,b] x) (Tx [61])) [a,b] nx (dR (Tx [61]) [a,b] nx):=by
 exact .inr (.inl ⟨_,[_],by simp,cB _ _ 7 rfl,amC Y a b nx ga.iw gb.iw⟩)

theorem Za (Y:YP)(nx:Int)(iW:0≤nx∧nx≤999992)(x:Tm)(a:Tm)(ga:GT a)(b:Tm)(gb:GT b)(hx:([a,b]++[aJ,aJ])[0]? = some x):gJ Y (dI (br [a,b] x) (Tx [92,61])) [a,b] nx (dR (Tx [92,61]) [a,b] nx):=by
 exact .inl ⟨_,cB _ _ 8 rfl,(by
  have h:=Oj Y a b nx ga.r gb.r;have:(bX nx [a,b]).h=true:=by unfold bX;rw[if_pos (by simp only[rE,List.all_nil,Bool.and_true,cN,ga.r,gb.r])]
  show y7 Y _ _ _ (if (bX nx [a,b]).h then _ else _)
  rw[if_pos this];exact h)⟩

theorem Zb (Y:YP)(nx:Int)(iW:0≤nx∧nx≤999992)(x:Tm)(a:Tm)(ga:GT a)(b:Tm)(gb:GT b)(hx:([a,b]++[aJ,aJ])[0]? = some x):gJ Y (dI (br [a,b] x) (Tx [61,61])) [a,b] nx (dR (Tx [61,61]) [a,b] nx):=by
 exact .inl ⟨_,cB _ _ 9 rfl,FK Y a b nx ga.iw⟩

theorem Uj (Y:YP)(nx:Int)(iW:0≤nx∧nx≤999992)(x:Tm)(a:Tm)(ga:GT a)(b:Tm)(gb:GT b)(hx:([a,b]++[aJ,aJ])[0]? = some x):gJ Y (dI (br [a,b] x) (Tx [92,61,61])) [a,b] nx (dR (Tx [92,61,61]) [a,b] nx):=by
 exact .inr (.inl ⟨_,[],by simp,cB _ _ 10 rfl,Y0 Y a b nx ga.iw⟩)

theorem Uk (Y:YP)(nx:Int)(iW:0≤nx∧nx≤999992)(x:Tm)(a:Tm)(ga:GT a)(b:Tm)(gb:GT b)(hx:([a,b]++[aJ,aJ])[0]? = some x):gJ Y (dI (br [a,b] x) (Tx [64,60])) [a,b] nx (dR (Tx [64,60]) [a,b] nx):=by
 exact .inr (.inl ⟨_,[_],by simp,cB _ _ 11 rfl,Hu Y _ _ acA a b nx ga.r gb.r⟩)

theorem Ul (Y:YP)(nx:Int)(iW:0≤nx∧nx≤999992)(x:Tm)(a:Tm)(ga:GT a)(b:Tm)(gb:GT b)(hx:([a,b]++[aJ,aJ])[0]? = some x):gJ Y (dI (br [a,b] x) (Tx [64,62])) [a,b] nx (dR (Tx [64,62]) [a,b] nx):=by
 exact .inr (.inl ⟨_,[_],by simp,cB _ _ 12 rfl,Hu Y _ _ acB a b nx ga.r gb.r⟩)

theorem Um (Y:YP)(nx:Int)(iW:0≤nx∧nx≤999992)(x:Tm)(a:Tm)(ga:GT a)(b:Tm)(gb:GT b)(hx:([a,b]++[aJ,aJ])[0]? = some x):gJ Y (dI (br [a,b] x) (Tx [64,61,60])) [a,b] nx (dR (Tx [64,61,60]) [a,b] nx):=by
 exact .inr (.inl ⟨_,[_],by simp,cB _ _ 13 rfl,Hu Y _ _ acC a b nx ga.r gb.r⟩)

theorem Un (Y:YP)(nx:Int)(iW:0≤nx∧nx≤999992)(x:Tm)(a:Tm)(ga:GT a)(b:Tm)(gb:GT b)(hx:([a,b]++[aJ,aJ])[0]? = some x):gJ Y (dI (br [a,b] x) (Tx [64,62,61])) [a,b] nx (dR (Tx [64,62,61]) [a,b] nx):=by
 exact .inr (.inl ⟨_,[_],by simp,cB _ _ 14 rfl,Hu Y _ _ acD a b nx ga.r gb.r⟩)

theorem Uo (Y:YP)(nx:Int)(iW:0≤nx∧nx≤999992)(x:Tm)(a:Tm)(ga:GT a)(b:Tm)(gb:GT b)(hx:([a,b]++[aJ,aJ])[0]? = some x):gJ Y (dI (br [a,b] x) (Tx [105,115])) [a,b] nx (dR (Tx [105,115]) [a,b] nx):=by
 exact .inl ⟨_,cB _ _ 15 rfl,acz Y a b nx ga.iw gb.iw gb.f⟩

theorem Up (Y:YP)(nx:Int)(iW:0≤nx∧nx≤999992)(x:Tm)(a:Tm)(ga:GT a)(b:Tm)(gb:GT b)(c:Tm)(gc:GT c)(hx:([a,b,c]++[aJ,aJ])[0]? = some x):gJ Y (dI (br [a,b,c] x) (Tx [102,117,110,99,116,111,114])) [a,b,c] nx (dR (Tx [102,117,110,99,116,111,114]) [a,b,c] nx):=by
 exact .inl ⟨_,cB _ _ 16 rfl,N3 Y a b c ga.iw gb.iw gc.iw nx iW⟩

theorem Uq (Y:YP)(nx:Int)(iW:0≤nx∧nx≤999992)(x:Tm)(a:Tm)(ga:GT a)(b:Tm)(gb:GT b)(c:Tm)(gc:GT c)(hx:([a,b,c]++[aJ,aJ])[0]? = some x):gJ Y (dI (br [a,b,c] x) (Tx [97,114,103])) [a,b,c] nx (dR (Tx [97,114,103]) [a,b,c] nx):=by
 exact .inl ⟨_,cB _ _ 17 rfl,ah7 Y a b c ga.iw gb.iw gc.iw nx (by have:=gb.len;omega)⟩

theorem Ur (Y:YP)(nx:Int)(iW:0≤nx∧nx≤999992)(x:Tm)(a:Tm)(ga:GT a)(b:Tm)(gb:GT b)(hx:([a,b]++[aJ,aJ])[0]? = some x):gJ Y (dI (br [a,b] x) (Tx [61,46,46])) [a,b] nx (dR (Tx [61,46,46]) [a,b] nx):=by
 exact .inl ⟨_,cB _ _ 18 rfl,acr Y a b ga.iw gb.iw nx (by have:=ga.size;omega) (by have:=gb.size;omega)⟩

theorem Us (Y:YP)(nx:Int)(iW:0≤nx∧nx≤999992)(x:Tm)(a:Tm)(ga:GT a)(b:Tm)(gb:GT b)(hx:([a,b]++[aJ,aJ])[0]? = some x):gJ Y (dI (br [a,b] x) (Tx [61,58,61])) [a,b] nx (dR (Tx [61,58,61]) [a,b] nx):=by
 exact .inr (.inl ⟨_,[_,_],by simp,cB _ _ 19 rfl,yp Y (Tx [61,58,61]) a b nx ga.iw gb.iw ga.f gb.f⟩)

theorem Ut (Y:YP)(nx:Int)(iW:0≤nx∧nx≤999992)(x:Tm)(a:Tm)(ga:GT a)(b:Tm)(gb:GT b)(hx:([a,b]++[aJ,aJ])[0]? = some x):gJ Y (dI (br [a,b] x) (Tx [61,92,61])) [a,b] nx (dR (Tx [61,92,61]) [a,b] nx):=by
 exact .inr (.inl ⟨_,[_,_],by simp,cB _ _ 20 rfl,yp Y (Tx [61,92,61]) a b nx ga.iw gb.iw ga.f gb.f⟩)

theorem Uu (Y:YP)(nx:Int)(iW:0≤nx∧nx≤999992)(x:Tm)(a:Tm)(ga:GT a)(b:Tm)(gb:GT b)(hx:([a,b]++[aJ,aJ])[0]? = some x):gJ Y (dI (br [a,b] x) (Tx [60])) [a,b] nx (dR (Tx [60]) [a,b] nx):=by
 exact .inr (.inl ⟨_,[_,_],by simp,cB _ _ 21 rfl,yp Y (Tx [60]) a b nx ga.iw gb.iw ga.f gb.f⟩)

theorem Uv (Y:YP)(nx:Int)(iW:0≤nx∧nx≤999992)(x:Tm)(a:Tm)(ga:GT a)(b:Tm)(gb:GT b)(hx:([a,b]++[aJ,aJ])[0]? = some x):gJ Y (dI (br [a,b] x) (Tx [62])) [a,b] nx (dR (Tx [62]) [a,b] nx):=by
 exact .inr (.inl ⟨_,[_,_],by simp,cB _ _ 22 rfl,yp Y (Tx [62]) a b nx ga.iw gb.iw ga.f gb.f⟩)

theorem Uw (Y:YP)(nx:Int)(iW:0≤nx∧nx≤999992)(x:Tm)(a:Tm)(ga:GT a)(b:Tm)(gb:GT b)(hx:([a,b]++[aJ,aJ])[0]? = some x):gJ Y (dI (br [a,b] x) (Tx [61,60])) [a,b] nx (dR (Tx [61,60]) [a,b] nx):=by
 exact .inr (.inl ⟨_,[_,_],by simp,cB _ _ 23 rfl,yp Y (Tx [61,60]) a b nx ga.iw gb.iw ga.f gb.f⟩)

theorem Ux (Y:YP)(nx:Int)(iW:0≤nx∧nx≤999992)(x:Tm)(a:Tm)(ga:GT a)(b:Tm)(gb:GT b)(hx:([a,b]++[aJ,aJ])[0]? = some x):gJ Y (dI (br [a,b] x) (Tx [62,61])) [a,b] nx (dR (Tx [62,61]) [a,b] nx):=by
 exact .inr (.inl ⟨_,[_,_],by simp,cB _ _ 24 rfl,yp Y (Tx [62,61]) a b nx ga.iw gb.iw ga.f gb.f⟩)

theorem acG (Y:YP)(s:ByteArray)(l:List Tm)(nx:Int)(iW:0≤nx∧nx≤999992)(hb:mf (s,(l.length:Int))=true)(hg:∀t∈l,GT t)(x:Tm)(hx:(l++[aJ,aJ])[0]? = some x):gJ Y (dI (br l x) s) l nx (dR s l nx):=by
 refine Ri (P:=fun s n=>(l.length:Int)=n→gJ Y (dI (br l x) s) l nx (dR s l nx)) s _ hb (fun y hy hl=>?_) (fun y hy hl=>?_) rfl
 ·obtain⟨a,b,rfl⟩:∃a b,l=[a,b]:=by
   match l,hl with
   |[a,b],_=>exact⟨a,b,rfl⟩
   |[],h=>simp at h
   |[a],h=>simp at h
   |a::b::c::r,h=>simp only[dv]at h;omega
  have ga:=hg a aC;have gb:=hg b aC;simp only[zL,eL,nW,or_false]at hy;rcases hy with rfl |rfl |rfl |rfl |rfl |rfl |rfl |rfl |rfl |rfl |rfl |rfl |rfl |rfl |rfl |rfl
  ·exact Y9 Y nx iW x a ga b gb hx
  ·exact Za Y nx iW x a ga b gb hx
  ·exact Zb Y nx iW x a ga b gb hx
  ·exact Uj Y nx iW x a ga b gb hx
  ·exact Uk Y nx iW x a ga b gb hx
  ·exact Ul Y nx iW x a ga b gb hx
  ·exact Um Y nx iW x a ga b gb hx
  ·exact Un Y nx iW x a ga b gb hx
  ·exact Uo Y nx iW x a ga b gb hx
  ·exact Us Y nx iW x a ga b gb hx
  ·exact Ut Y nx iW x a ga b gb hx
  ·exact Uu Y nx iW x a ga b gb hx
  ·exact Uv Y nx iW x a ga b gb hx
  ·exact Uw Y nx iW x a ga b gb hx
  ·exact Ux Y nx iW x a ga b gb hx
  ·exact Ur Y nx iW x a ga b gb hx
 ·simp only [zM,eL,nW,or_false] at hy;rcases hy with rfl |rfl |rfl |rfl |rfl |rfl |rfl |rfl |rfl
  ·obtain rfl:l=[]:=jy.1 (by have:(l.length:Int)=0:=hl; omega);exact Y2 Y nx iW x hx
  ·obtain rfl:l=[]:=jy.1 (by have:(l.length:Int)=0:=hl; omega);exact Y3 Y nx iW x hx
  ·obtain⟨a,rfl⟩:∃a,l=[a]:=by
    match l,hl with
    |[a],_=>exact⟨a,rfl⟩
    |[],h=>simp at h
    |a::b::r,h=>simp only[dv]at h;omega
   exact Y5 Y nx iW x a (hg a aC) hx
  ·obtain⟨a,rfl⟩:∃a,l=[a]:=by
    match l,hl with
    |[a],_=>exact⟨a,rfl⟩
    |[],h=>simp at h
    |a::b::r,h=>simp only[dv]at h;omega
   exact Y6 Y nx iW x a (hg a aC) hx
  ·obtain⟨a,rfl⟩:∃a,l=[a]:=by
    match l,hl with
    |[a],_=>exact⟨a,rfl⟩
    |[],h=>simp at h
    |a::b::r,h=>simp only[dv]at h;omega
   exact Y7 Y nx iW x a (hg a aC) hx
  ·obtain⟨a,rfl⟩:∃a,l=[a]:=by
    match l,hl with
    |[a],_=>exact⟨a,rfl⟩
    |[],h=>simp at h
    |a::b::r,h=>simp only[dv]at h;omega
   exact Y8 Y nx iW x a (hg a aC) hx
  ·obtain⟨a,rfl⟩:∃a,l=[a]:=by
    match l,hl with
    |[a],_=>exact⟨a,rfl⟩
    |[],h=>simp at h
    |a::b::r,h=>simp only[dv]at h;omega
   exact Y4 Y nx iW x a (hg a aC) hx
  ·obtain⟨a,b,c,rfl⟩:∃a b c,l=[a,b,c]:=by
    match l,hl with
    |[a,b,c],_=>exact⟨a,b,c,rfl⟩
    |[],h=>simp at h
    |[a],h=>simp at h
    |[a,b],h=>simp at h
    |a::b::c::d::r,h=>simp only[dv]at h;omega
   exact Up Y nx iW x a (hg a aC) b (hg b aC) c (hg c aC) hx
  ·obtain⟨a,b,c,rfl⟩:∃a b c,l=[a,b,c]:=by
    match l,hl with
    |[a,b,c],_=>exact⟨a,b,c,rfl⟩
    |[],h=>simp at h
    |[a],h=>simp at h
    |[a,b],h=>simp at h
    |a::b::c::d::r,h=>simp only[dv]at h;omega
   exact Uq Y nx iW x a (hg a aC) b (hg b aC) c (hg c aC) hx
end Go.Proofs.YtaagocopollacaaGreatDoor

namespace aw
open Go
end aw
namespace aw
open Go

structure Iz where
 at_:Nat
 names:List Bs
 bad:Int
 e:Int
 lay:Bool
 deriving DecidableEq
def Zc:Tk:=⟨0,[],0,0,false⟩
def amD (L:List Tk)(n:Nat)(i:Nat):Int:=match L[i]? with |some t=>t.at_ |none=>n
def zb:List Bs:=[[61],[92,61],[61,61],[92,61,61],[64,60],[64,62],[64,61,60],[64,62,61],[105,115],[61,58,61],[61,92,61],[60],[62],[61,60],[62,61]]
def zc:List Bs:=[[43],[45]]
def zd:List Bs:=[[42],[47,47],[109,111,100]]
def nK:List (Bs × Int × Int × Int):=[([58,45],1200,1199,1199),([59],1100,1099,1100),([45,62],1050,1049,1050),([44],1000,999,1000)]++zb.map (fun s=>(s,700,699,699))++zc.map (fun s=>(s,500,500,499))++zd.map (fun s=>(s,400,400,399))
def Hv (s:Bs):Option (Int × Int × Int):=nK.lookup s
def On (s:Bs)(l:List Tm):Tm:=.mk 3 (Tx s) 0 l
abbrev TF:=Nat→Int→Iz→Option (Tm × Iz)
end aw

namespace Go.Proofs.YtaagocopollacaaGreatDoor
open Go aw Go.Proofs
def tq (l:List Bs):List (List D):=l.map fun s=>[.v (.string (Tx s))]
theorem Lh {l:List Bs}{i:Nat}{s:Bs}(h:l[i]? = some s):(tq l)[i]? = some [.v (.string (Tx s))]:=by simp[tq,h]

theorem Oo (d:Nat)(p q:Sg)(w:World):(Op.equalIn (d+1+1) 69 (p6 p) (p6 q)).run Tryz.prog w=.ok (decide (p=q)) w:=by
 obtain⟨s,n⟩:=p;obtain⟨s',n'⟩:=q;unfold p6;rw[run_equalIn_agg w (d+1) 69 _ _ (by rw[Program.fieldsOf,Tryz.underlying69]) Tryz.stoodInHeld69];rw[Program.fieldsOf,Tryz.underlying69];simp[Op.eqFields,part,run_equalIn_int _ _ _ _ _ _ _ Tryz.underlying3,run_equalIn_string _ _ _ _ _ Tryz.underlying9];by_cases h1:s=s'
 ·subst h1;by_cases h2:n=n'<;>simp[h2]
 ·have h2:¬ s.toList=s'.toList:=fun e=>h1 (Tm.bo.1 (by simp [bE,e]))
  simp[h1,h2]

theorem aih (d:Nat)(b:Bool)(p:Sg)(w:World):(Instr.checkKey b (d+1+1) 69 (p6 p)).run Tryz.prog w=.ok () w:=by
 simp[Instr.checkKey,p6,part,run_underlying Tryz.underlying69,run_underlying Tryz.underlying3,run_underlying Tryz.underlying9]
theorem Hw:XN Tryz.prog 69:=⟨⟨_,Tryz.underlying69⟩,fun p q w=>Oo 9998 p q w,fun b p w=>aih 9998 b p w⟩

theorem Aj:Nu Tryz.prog 69:=by
 constructor
 ·intro x y p q w;have h:=Oo 9998 p q w;unfold p6 at h ⊢;simp only[Sem.run_bind];rw[run_eqGuard_agg _ _ _ _ _ _ _ Tryz.eqGuardType69];simp only[Result.andThen_ok];rw[run_eql_struct,h];rfl
 ·intro x y p q w;have h:=Oo 9998 p q w;unfold p6 at h ⊢;simp only[Sem.run_bind];rw[run_eqGuard_agg _ _ _ _ _ _ _ Tryz.eqGuardType69];simp only[Result.andThen_ok];rw[run_neq_struct,h];rfl

theorem Oq:bD Tryz.prog 72 [] (.d (.sl (tq zL))):=by
 refine oY Tryz.func72 fun w S hg=>?_
 refine cq ?_;rfl

theorem yq {l:List (Bs × Int)}{p:Sg}{k:Nat}{x:Bs × Int}(h:l[k]? = some x):anyS (l.drop k) p=(decide ((Tx x.1,x.2)=p) || anyS (l.drop (k+1)) p):=by
 exact akH
def Hx (l:List (Bs × Int)):List (List D):=l.map fun x=>[.v (.string (Tx x.1)),.v (.int .i64 x.2)]
theorem CF {l:List (Bs × Int)}{i:Nat}{x:Bs × Int}(h:l[i]? = some x):(Hx l)[i]? = some [.v (.string (Tx x.1)),.v (.int .i64 x.2)]:=by simp[Hx,h]

theorem CG (p:Sg):bD Tryz.prog 45 [.d (.v (.string p.1)),.d (.v (.int .i64 p.2))] (bV (mf p)):=by
 refine zp Tryz.func45 fun w S hg=>?_
 refine aF (Oq) ?_;refine uR (fun _:Unit=>([(0,.d (.v (.string p.1))),(1,.d (.v (.int .i64 p.2)))],[])) (fun _=>mf p=anyS zM p) rfl ?_ ?_
 ·refine bh (fun k:Nat=>([(0,.d (.v (.string p.1))),(1,.d (.v (.int .i64 p.2))),(9,.d (.sl (tq zL))),(10,iV 16),(11,iV k)],[])) (fun k=>k≤16∧mf p=(anyS ((zL.map fun s=>(s,2)).drop k) p || anyS zM p)) (fun k=>16 - k) 0 ⟨cT _,rfl⟩ agc rfl ?_;rintro k ⟨hk,hm⟩;refine af ?_;refine aj (fun h=>?_) fun h=>?_
  ·have aR:k<zL.length:=bK h rfl;have e1:zL[k]? = some zL[k]:=dY aR;generalize zL[k]=s at e1;have oz:k<16:=aR;have e2:(zL.map fun s=>(s,(2:Int)))[k]? = some (s,2):=by rw[eU,e1];rfl
   rw[yq e2]at hm;refine cW (Lh e1) ?_;refine QW hg.ok (Tx s,2) p Aj rfl rfl rfl rfl (af ?_);refine aj (fun h=>?_) fun h=>?_
   ·refine cq ?_;rw[hm,h];rfl
   ·exact afX
  ·have aR:16≤k:=cf h rfl;refine q0 () ?_ My rfl;rw[hm,gD (by simpa[zL]using aR)];rfl
 rintro _ hb;refine af ?_;refine bh (fun k:Nat=>([(0,.d (.v (.string p.1))),(1,.d (.v (.int .i64 p.2))),(31,.d (.sl (Hx zM))),(32,iV 9),(33,iV k)],[])) (fun k=>k≤9∧mf p=anyS ((zM).drop k) p) (fun k=>9 - k) 0 ⟨cT _,hb⟩ ⟨.refl _,.refl _,.fs _,.refl _,.refl _,trivial⟩ rfl ?_;rintro k ⟨hk,hm⟩;refine af ?_;refine aj (fun h=>?_) fun h=>?_
 ·have aR:k<(zM).length:=bK h rfl;have e1:(zM)[k]? = some (zM)[k]:=dY aR;generalize (zM)[k]=x at e1;have oz:k<9:=aR;rw[yq e1]at hm;refine cW (CF e1) ?_;refine QW hg.ok (Tx x.1,x.2) p Aj rfl rfl rfl rfl (af ?_);refine aj (fun h=>?_) fun h=>?_
  ·refine cq ?_;rw[hm,h];rfl
  ·refine Ek ?_;exact afX
 ·have aR:(zM).length≤k:=cf h rfl;refine cq ?_;rw[hm,gD aR];rfl

theorem Ot (p:Sg):bD Tryz.prog 46 [.d (.v (.string p.1)),.d (.v (.int .i64 p.2))] (bV (Yo p)):=by
 refine zp Tryz.func46 fun w S hg=>?_
 refine bh (fun k:Nat=>([(0,.d (.v (.string p.1))),(1,.d (.v (.int .i64 p.2))),(16,.d (.sl (Hx (KM p.2)))),(17,iV 8),(18,iV k)],[])) (fun k=>k≤8∧Yo p=anyS ((KM p.2).drop k) p) (fun k=>8 - k) 0 ⟨cT _,rfl⟩ ⟨.refl _,.refl _,.fs _,.refl _,.refl _,trivial⟩ rfl ?_;rintro k ⟨hk,hm⟩;refine af ?_;refine aj (fun h=>?_) fun h=>?_
 ·have aR:k<(KM p.2).length:=bK h rfl;have e1:(KM p.2)[k]? = some (KM p.2)[k]:=dY aR;generalize (KM p.2)[k]=x at e1;have oz:k<8:=aR;rw[yq e1]at hm;refine cW (CF e1) ?_;refine QW hg.ok (Tx x.1,x.2) p Aj rfl rfl rfl rfl (af ?_);refine aj (fun h=>?_) fun h=>?_
  ·refine cq ?_;rw[hm,h];rfl
  ·refine Ek ?_;exact afX
 ·have aR:(KM p.2).length≤k:=cf h rfl;refine cq ?_;rw[hm,gD aR];rfl

theorem yr (t:Tm):bD Tryz.prog 19 [t.av] (sgA (iv t)):=by
 refine zp Tryz.func19 fun w S hg=>?_
 refine cq ?_;unfold sgA iv;rw[Tm.au]

theorem ze (t:Tm):bD Tryz.prog 45 [.d (.v (.string t.s)),.d (.v (.int .i64 ((Tm.aa t.l).length:Int)))] (bV (mf (iv t))):=by
 rw[Tm.au];exact CG (iv t)

theorem Li (t:Tm):bD Tryz.prog 46 [.d (.v (.string t.s)),.d (.v (.int .i64 ((Tm.aa t.l).length:Int)))] (bV (Yo (iv t))):=by
 rw[Tm.au];exact Ot (iv t)

theorem Lj (t:Tm):bD Tryz.prog 21 [t.av] (bV (tV t)):=by
 refine zp Tryz.func21 fun w S hg=>?_
 refine aj (fun h=>?_) fun h=>?_
 ·refine aF (ze t) ?_;refine aj (fun h2=>?_) fun h2=>?_
  ·refine aF (Li t) ?_;refine cq ?_;unfold tV;rw[h,h2];rfl
  ·refine cq ?_;unfold tV;rw[h,h2];rfl
 ·refine cq ?_;unfold tV;rw[h];rfl

theorem vg (t:Tm):bD Tryz.prog 76 [t.av] (bV (j9 t)):=by
 refine zp Tryz.func76 fun w S hg=>?_
 refine aj (fun h1=>?_) fun h1=>?_
 ·refine aj (fun h2=>?_) fun h2=>?_
  ·refine aj (fun h3=>?_) fun h3=>?_
   ·refine cq ?_;unfold j9;rw[h1,h2,h3,Tm.au];cases t.l<;>rfl
   ·refine cq ?_;unfold j9;rw[h1,h2,h3];rfl
  ·refine cq ?_;unfold j9;rw[h1,h2];rfl
 ·refine cq ?_;unfold j9;rw[h1];rfl
def Rj (a:Ak):AV:=.agg [bV a.h,.d (.sl (Tm.aa a.al)),bV a.ap,.d (.v (.string (Tx a.tx))),iV a.nx]
def akZ:AV:=.agg [bV false,.d (.sl []),bV false,.d (.v (.string ByteArray.empty)),iV 0]
def kK (a:Ak)(nx:Int):AV:=if a.e≠0 then .cH [akZ,iV a.e] else if a.h=false then .cH [Rj (eG nx 0),iV 0] else .cH [Rj a,iV 0]
def amE:Nat→cC:=fun f=>bif Nat.beq f 4000200006 then .bO 100 else bif Nat.beq f 4000100059 then .look 101 else .ji
def acH:Ob:=.box [bV false,.d (.v (.slice none 0 0)),bV false,.d (.v (.string ByteArray.empty)),iV 0]

theorem zf (s:ByteArray)(l:List Tm)(h:mf (s,(l.length:Int))=true):bD Tryz.prog 45 [.d (.v (.string s)),.d (.v (.int .i64 ((Tm.aa l).length:Int)))] (bV true):=by
 rw[Tm.au,← h];exact CG (s,(l.length:Int))
def l5 (l:List Tm)(x:Tm):List (ByteArray × AV):=(br l x).map fun p=>(p.1,c8 (rn [1] 2) p.2)

theorem qE (l:List Tm)(x:Tm):((l5 l x).map (·.1)).Nodup:=by
 have:(l5 l x).map (·.1)=(br l x).map (·.1):=by unfold l5;rw[jw];rfl
 rw[this];exact Lg l x

theorem wT (f:AV→AV)(s:ByteArray):∀l:List (ByteArray × AV),dI (l.map fun p=>(p.1,f p.2)) s=(dI l s).map f
 |[]=>rfl
 |p::l=>by
  simp only[List.map_cons,dI];split
  ·rfl
  ·exact wT f s l
def akO (l:List Tm)(a:Ak):List Ob:=[acH,.box [.d (.sl (Tm.aa l)),bV false,.d (alD a.al),bV a.ap,.d (.v (.string (Tx a.tx))),iV a.nx,iV a.e],.box [.lo 1 0],.dead,.dead]

theorem aii (s:ByteArray)(l:List Tm)(nx:Int)(iW:0≤nx∧nx≤999992)(hb:mf (s,(l.length:Int))=true)(hl:∀t∈l,GT t)(Vd:l.length≤3):bD Tryz.prog 80 [.d (.v (.string s)),.d (.sl (Tm.aa l)),iV nx] (kK (dR s l nx) nx):=by
 have kQ:=Tm.au l;refine bD.ej (pf:=amE) gK mixed Tryz.func80 rfl cX cX (by simp[Tryz.ntmps80]) fun w S hg=>?_
 refine af ?_;refine aF (zf s l hb) ?_;refine gu ?_;refine II ?_;refine II ?_;refine bh (fun k:Nat=>([(0,.d (.v (.string s))),(1,.d (.sl (Tm.aa l))),(2,iV nx),(6,.lo 0 0),(25,.d (.sl (Tm.aa l))),(26,iV l.length),(27,iV k)],[acH])) (fun k=>k≤l.length) (fun k=>l.length - k) 0 fy ⟨.refl _,.refl _,.refl _,.refl _,.refl _,by rw[kQ];exact .refl _,.refl _,trivial⟩ rfl ?_;intro k hk;refine af ?_;refine aj (fun h=>?_) fun h=>?_
 ·have aR:k<l.length:=bK h rfl;have e1:l[k]? = some l[k]:=dY aR;have hm:=hl _ (eg aR);generalize l[k]=x at e1 hm;refine cW (Tm.aB e1) ?_;refine aF (eY x hm.iw.1 (hm.iw.2 1)) ?_;rw[cN,hm.r];refine gu ?_;refine bb 1 [acH] fy rfl rfl ?_;exact Vq
 ·obtain ⟨x,hx⟩:∃ x,(l++[aJ,aJ])[0]? = some x:=⟨_,dY aC⟩;have hd:=acG ⟨[],fun _=>true⟩ s l nx iW hb hl x hx;generalize dR s l nx=a at hd ⊢;refine ai hg.ok hg.cm ⟨rfl,rfl⟩ (fun _ _ _ _ h=>by cases h) [1] ([acH,.box [.d (.sl (Tm.aa l)),bV false,.d (.v (.slice none 0 0)),bV false,.d (.v (.string ByteArray.empty)),iV nx,iV 0],.box [.lo 1 0],.dead,.dead,.tI (eI (l5 l x))]) (Om ⟨[],fun _=>true⟩ l nx x hx an) cF rfl rfl rfl rfl rfl rfl rfl rfl (af ?_);rcases hd with ⟨f,ho,hc⟩ |⟨f,rs,QC,ho,hc⟩ |⟨f,r,ho,hc,he⟩
  ·refine yj hg.ok (l5 l x) (qE l x) rfl rfl rfl rfl rfl rfl rfl rfl (v:=.bU f [.lo 1 0] []) (by unfold l5; rw [wT,ho]; rfl) (af ?_);refine ai hg.ok hg.cm ⟨rfl,rfl⟩ (fun _ _ _ _ h=>by cases h) [1] (akO l a++[.tI (eI (l5 l x))]) (hc) cF rfl rfl rfl rfl rfl rfl rfl rfl (af ?_);refine aj (fun h1=>?_) fun h1=>?_
   ·have h1:a.e≠0:=by simpa using h1
    rw[show kK a nx=.cH [akZ,iV a.e] from if_pos h1];refine Pn ?_;refine DA ?_;refine cq ?_;rfl
   have h1:¬ a.e≠0:=by simpa using h1
   refine aj (fun h2=>?_) fun h2=>?_
   ·have h2:a.h=false:=by simpa using h2
    rw[show kK a nx=.cH [Rj (eG nx 0),iV 0] by unfold kK;rw[if_neg h1,if_pos h2]];refine DA ?_;refine cq ?_;rfl
   ·have h2:¬ a.h=false:=by simpa using h2
    rw[show kK a nx=.cH [Rj a,iV 0] by unfold kK;rw[if_neg h1,if_neg h2]];exact abd
  ·refine yj hg.ok (l5 l x) (qE l x) rfl rfl rfl rfl rfl rfl rfl rfl (v:=.bU f [] (.lo 2 0::rs.map fun r=>.d (.bG r))) (by unfold l5; rw [wT,ho]; match rs,QC with | [],_=>rfl | [_],_=>rfl | [_,_],_=>rfl) ?_
   match rs,QC with
   |[],_ =>
    refine af ?_;refine afU ?_;refine aj (fun h1=>?_) fun h1=>?_
    ·have h1:a.e≠0:=by simpa using h1
     rw[show kK a nx=.cH [akZ,iV a.e] from if_pos h1];refine Pn ?_;refine DA ?_;refine cq ?_;rfl
    have h1:¬ a.e≠0:=by simpa using h1
    refine aj (fun h2=>?_) fun h2=>?_
    ·have h2:a.h=false:=by simpa using h2
     rw[show kK a nx=.cH [Rj (eG nx 0),iV 0] by unfold kK;rw[if_neg h1,if_pos h2]];refine DA ?_;refine cq ?_;rfl
    ·have h2:¬ a.h=false:=by simpa using h2
     rw[show kK a nx=.cH [Rj a,iV 0] by unfold kK;rw[if_neg h1,if_neg h2]];exact abd
   |[r],_ =>
    refine af ?_;refine afU ?_;refine aj (fun h1=>?_) fun h1=>?_
    ·have h1:a.e≠0:=by simpa using h1
     rw[show kK a nx=.cH [akZ,iV a.e] from if_pos h1];refine Pn ?_;refine DA ?_;refine cq ?_;rfl
    have h1:¬ a.e≠0:=by simpa using h1
    refine aj (fun h2=>?_) fun h2=>?_
    ·have h2:a.h=false:=by simpa using h2
     rw[show kK a nx=.cH [Rj (eG nx 0),iV 0] by unfold kK;rw[if_neg h1,if_pos h2]];refine DA ?_;refine cq ?_;rfl
    ·have h2:¬ a.h=false:=by simpa using h2
     rw[show kK a nx=.cH [Rj a,iV 0] by unfold kK;rw[if_neg h1,if_neg h2]];exact abd
   |[r,r'],_ =>
    refine af ?_;refine afU ?_;refine aj (fun h1=>?_) fun h1=>?_
    ·have h1:a.e≠0:=by simpa using h1
     rw[show kK a nx=.cH [akZ,iV a.e] from if_pos h1];refine Pn ?_;refine DA ?_;refine cq ?_;rfl
    have h1:¬ a.e≠0:=by simpa using h1
    refine aj (fun h2=>?_) fun h2=>?_
    ·have h2:a.h=false:=by simpa using h2
     rw[show kK a nx=.cH [Rj (eG nx 0),iV 0] by unfold kK;rw[if_neg h1,if_pos h2]];refine DA ?_;refine cq ?_;rfl
    ·have h2:¬ a.h=false:=by simpa using h2
     rw[show kK a nx=.cH [Rj a,iV 0] by unfold kK;rw[if_neg h1,if_neg h2]];exact abd
  ·obtain ⟨b,rfl⟩:∃ b,a=mg nx b:=⟨_,he⟩;refine yj hg.ok (l5 l x) (qE l x) rfl rfl rfl rfl rfl rfl rfl rfl (v:=.bU f [] [.d (.bG r)]) (by unfold l5;rw[wT,ho];rfl) (af ?_);refine aF (hc) ?_;refine en hg.ok rfl rfl (by simp[mg]) rfl rfl ?_;cases b with
   |false =>
    refine cQ hg.ok rfl rfl (by simp[mg]) rfl rfl ?_;rw[show kK (mg nx false) nx=.cH [Rj (eG nx 0),iV 0] from rfl];refine DA ?_;refine cq ?_;rfl
   |true =>
    refine en hg.ok rfl rfl (by simp[mg]) rfl rfl ?_;rw[show kK (mg nx true) nx=.cH [Rj (mg nx true),iV 0] from rfl];refine DA ?_;refine cq ?_;rfl
theorem Uy (B:ak)(n:Int)(t:Tm):cO B++[[.v (.int .i64 n),.v (.int .i64 t.k),.v (.string t.s),.v (.int .i64 t.n),.sl (Tm.aa t.l)]]=cO (B++[(n,t)]):=by simp[cO,GZ,Tm.row]
def ub (B:ak):List (Int × AV):=B.map fun b=>(b.1,b.2.av)

theorem zS:∀ (B:ak) (n:Int),ib (ub B) n=(a7 B n).map Tm.av
 |[],n=>rfl
 |b::B,n=>by
  have ih:=zS B n;by_cases h:b.1=n
  ·simp[ub,ib,a7,h]
  ·simp only [ub,List.map_cons,ib,a7,List.find?_cons,show (b.1==n)=false by simpa using h] at ih ⊢;rw[if_neg h];exact ih
def ajS:Value:=.agg #[.int .i64 0,.string ByteArray.empty,.int .i64 0,.slice none 0 0]
def an4:AV:=.agg [iV 0,.d (.v (.string ByteArray.empty)),iV 0,.d (.v (.slice none 0 0))]
theorem Zd (B:ak)(v:Int)(t:Tm):ub B++[(v,t.av)]=ub (B++[(v,t)]):=by simp[ub]

theorem dJ {f:AV→AV}(h:∀t:Tm,f t.av=t.av)(B:ak):aQ f (.map (cn (ub B)))=.map (cn (ub B)):=by
 simp[aQ,cn,ub,h]
theorem Lk (l:List Int)(v:Int):di l++[[.v (.int .i64 v)]]=di (l++[v]):=by simp[di,J2]

theorem Uz (Y:YP):aU Tryz.prog Y 12 [] [] (.lo 1 0) [.map [],.box [.mp 0,.d (.v (.slice none 0 0))]]:=by
 refine uw Tryz.func12 fun w S φ hg=>?_
 refine DB ?_;exact aK hg 2 5 aC rfl rfl rfl

theorem CH:∀ (M:List Int) (n:Int),ib (M.map fun n=>(n,bV true)) n=if M.contains n then some (bV true) else none
 |[],n=>rfl
 |m::M,n=>by
  simp only[List.map_cons,ib,PZ];by_cases h:m=n
  ·simp[h]
  ·rw [if_neg h,CH M n];have:(n==m)=false:=by simp;exact fun e=>h e.symm
   rw[this,zA]

theorem qF {f:AV→AV}(h:∀b,f (bV b)=bV b)(M:List Int):aQ f (.map (cn (M.map fun n=>(n,bV true))))=.map (cn (M.map fun n=>(n,bV true))):=by
 simp[aQ,cn,h]
theorem Ze (M:Prs)(a b:Tm):fZ M++[[.v (.int .i64 a.k),.v (.string a.s),.v (.int .i64 a.n),.sl (Tm.aa a.l),.v (.int .i64 b.k),.v (.string b.s),.v (.int .i64 b.n),.sl (Tm.aa b.l)]]=fZ (M++[(a,b)]):=by simp[fZ,G1,Tm.row]

theorem aij (d:Nat)(b:Bool)(p:Int × Int)(w:World):(Instr.checkKey b (d+1+1) 212 (D0 p)).run Tryz.prog w=.ok () w:=by
 obtain⟨i,hi⟩:=info_of_underlying Tryz.underlying3;simp[Instr.checkKey,D0,part,run_sizeOf w hi,Std.Legacy.Range.forIn_eq_forIn_range',Std.Legacy.Range.size,List.range']

theorem aik (d:Nat)(p q:Int × Int)(w:World):(Op.equalIn (d+1+1) 212 (D0 p) (D0 q)).run Tryz.prog w=.ok (decide (p=q)) w:=by
 obtain⟨i,hi⟩:=info_of_underlying Tryz.underlying3;have hc:Tryz.prog.cellsOf 3=1:=by kernel_rfl
 unfold D0;rw[run_equalIn_array (w:=w) (d+1) _ _ Tryz.underlying212 hi,hc];simp only[List.range,List.range.loop,Op.eqItems];obtain⟨p1,p2⟩:=p;obtain⟨q1,q2⟩:=q;simp[part,run_equalIn_int _ _ _ _ _ _ _ Tryz.underlying3];by_cases h1:p1=q1<;>by_cases h2:p2=q2<;>simp[h1,h2]
theorem Mu:Tw Tryz.prog 212:=⟨⟨_,_,Tryz.underlying212⟩,fun p q w=>aik 9998 p q w,fun b p w=>aij 9998 b p w⟩
def amF:Nat→cC:=fun f=>bif Nat.beq f 4800100000 then .bO 100 else bif Nat.beq f 4000000005 then .bO 0 else bif Nat.beq f 4000000004 then .bO 1 else bif Nat.beq f 4900100004 then .bO 100 else bif Nat.beq f 4000000006 then .bO 201 else bif Nat.beq f 4000100027 then .look 10001 else bif Nat.beq f 4000100034 then .look 10001 else bif Nat.beq f 4000300023 then .look 10001 else bif Nat.beq f 4000300030 then .look 10001 else bif Nat.beq f 4000200009 then .bO 10000 else bif Nat.beq f 4000200010 then .bO 10000 else bif Nat.beq f 109 then .bO 3 else bif Nat.beq f 4000100009 then .look 4 else bif Nat.beq f 4000100010 then .look 4 else .ji
def rz (cD:List (Int × Int)):List ((Int × Int) × AV):=cD.map fun p=>(p,AV.tt)

theorem vD:∀ (cD:List (Int × Int)) (p:Int × Int),yf (rz cD) p=if cD.contains p then some AV.tt else none
 |[],p=>rfl
 |m::cD,p=>by
  simp only[rz,List.map_cons,yf,PZ];by_cases h:m=p
  ·simp[h]
  ·rw [if_neg h,show yf (List.map (fun p=>(p,AV.tt)) cD) p=yf (rz cD) p from rfl,vD cD p];have:(p==m)=false:=by simp;exact fun e=>h e.symm
   rw[this,zA]

theorem CI {f:AV→AV}(h:f .tt=.tt)(cD:List (Int × Int)):aQ f (.map (nV (rz cD)))=.map (nV (rz cD)):=by
 simp[aQ,nV,rz,h]
theorem RY (M:List (Tm × Tm))(a b:Tm):fZ M++[[.v (.int .i64 a.k),.v (.string a.s),.v (.int .i64 a.n),.sl (Tm.aa a.l),.v (.int .i64 b.k),.v (.string b.s),.v (.int .i64 b.n),.sl (Tm.aa b.l)]]=fZ (M++[(a,b)]):=Ze M a b

def cv (d:Nat)(B:ak):List Ob:=[.box [.mp 1,.ow 2 (B.length+d)],.map (cn (ub B)),.arr 1 (B.length+d) (di (B.map (·.1)))]

theorem iG (Y:YP)(d:Nat)(B:ak)(hc:Tm.jW B)(t:Tm):aU Tryz.prog Y 109 [.lo 0 0,t.av] (cv d B) (Tm.aE B t).av (cv d B):=by
 refine Ph Tryz.func109 fun w S φ hg=>?_
 have hφ:φ.length=3:=hg.j5.len;have amG:∀ (j:Nat) (c:Int × Tm),B[j]? = some c→t.k=1→c.1=t.n→B.length - j≤B.length+1:=fun j c _ _ _=>by omega
 have iS:∀ (o:List Ob),(cv d B).map (aQ (bQ false 3 o 5))=cv d B:=fun o=>by
  simp only[cv,List.map_cons,fj];rw[dJ (fun t=>rfl)];rfl
 refine af ?_;refine bh (fun x:Nat × Tm=>([(0,.lo 0 0),(3,.lo 3 0),(4,.lo 4 0)],cv d B++[aP x.2,.box [.d (.v (.int .i64 0)),.d (.v (.string ByteArray.empty)),.d (.v (.int .i64 0)),.d (.v (.slice none 0 0))]])) (fun x=>Tm.aE B t=Tm.dS B x.1 x.2∧∀ (j:Nat) (c:Int × Tm),B[j]? = some c→x.2.k=1→c.1=x.2.n→B.length - j≤x.1) (fun x=>x.1) (B.length+1,t) ⟨rfl,amG⟩ uC rfl ?_;rintro⟨f,u⟩ ⟨hm,hf⟩;simp only at hm hf;refine af ?_;refine aj (fun h1=>?_) fun h1=>?_
 ·have aR:u.k=1:=by simpa using h1
  cases hb:a7 B u.n with
  |none =>
   refine af3 ?_;refine oS ?_
   have e:Tm.aE B t=u:=by
    rw[hm];cases f with
    |zero=>rfl
    |succ f=>simp only[Tm.dS];rw[if_pos aR,hb]
   rw[e];exact VR
  |some x =>
   obtain⟨j,hj⟩:=Tm.Cn hb;have Bb:=(bC.1 hj).1;have h2:=hf j _ hj aR rfl;obtain⟨f,rfl⟩:∃g,f=g+1:=⟨f - 1,by omega⟩;refine af4 ?_;refine gu ?_;refine bb 5 (cv d B++[aP x,.box [.d (.v (.int .i64 0)),.d (.v (.string ByteArray.empty)),.d (.v (.int .i64 0)),.d (.v (.slice none 0 0))]]) sN rfl ?_ ?_
   ·simp only [cv,jj,o8];show _::aQ _ (.map (cn (ub B)))::_=_
    rw[dJ (fun t=>rfl)];rfl
   refine bp (f,x) ⟨?_,fun j' c Qj hk hn=>?_⟩ ka uC rfl
   ·rw[hm];simp only[Tm.dS];rw[if_pos aR,hb]
   ·have:=hc.chain j _ hj hk j' c Qj hn;omega
 ·have aR:¬ u.k=1:=by simpa using h1
  have e:Tm.aE B t=u:=by
   rw[hm];cases f with
   |zero=>rfl
   |succ f=>simp only[Tm.dS];rw[if_neg aR]
  rw[e];exact VR

theorem iH (Y:YP)(d:Nat)(B:ak)(v:Int)(t:Tm)(hv:a7 B v=none)(hB:B.length<1000000):aU Tryz.prog Y 111 [.lo 0 0,iV v,t.av] (cv d B) (.cH []) (cv d (B++[(v,t)])):=by
 refine Ph Tryz.func111 fun w S φ hg=>?_
 have hφ:φ.length=3:=hg.j5.len;refine af ?_;refine s7 hg.ok (ub B) rfl rfl rfl rfl rfl rfl rfl (by rw[zS,hv];rfl) (af ?_);refine dp hg.ok (di (B.map (·.1)++[v])) rfl rfl rfl rfl rfl rfl rfl rfl rfl aC I4 (Lk _ _) agl agl (af ?_);refine l3 hg 3 5 cP rfl rfl ?_;have e1:cn (ub B++[(v,t.av)])=cn (ub (B++[(v,t)])):=by rw[Zd]
 have e2:B.map (·.1)++[v]=(B++[(v,t)]).map (·.1):=by simp
 have e3:(B++[(v,t)]).length+d=B.length+d+1:=by simp;omega
 show [_,aQ _ (.map (cn (ub B++[(v,t.av)]))),_]=_
 rw[e1,dJ (fun t=>rfl),e2];unfold cv;rw[e3];rfl
def ri (d:Nat)(B:ak)(v:Int)(M:List Int):List Ob:=cv d B++[.box [iV v],.box [.lo 0 0],.box [.mp 6],.map (cn (M.map fun n=>(n,bV true))),.box [.bU 142 [] [.lo 3 0,.lo 4 0,.lo 5 0,.lo 7 0]]]

theorem CJ {f:AV→AV}(ht:∀t:Tm,f t.av=t.av)(hb:∀b,f (bV b)=bV b)(hi:∀n,f (iV n)=iV n)(h1:f (.mp 1)=.mp 1)(h2:∀s,f (.ow 2 s)=.ow 2 s)(h3:f (.lo 0 0)=.lo 0 0)(h4:f (.mp 6)=.mp 6)(h5:f (.bU 142 [] [.lo 3 0,.lo 4 0,.lo 5 0,.lo 7 0])=.bU 142 [] [.lo 3 0,.lo 4 0,.lo 5 0,.lo 7 0])(d:Nat)(B:ak)(v:Int)(M:List Int):(ri d B v M).map (aQ f)=ri d B v M:=by
 simp only[ri,cv,List.map_append,List.map_cons,fj,jj,o8,dJ ht,qF hb];simp[aQ,h1,h2,h3,h4,h5,hi]

theorem Ou (Y:YP)(d:Nat)(B:ak)(hB:∀b∈B,b.2.size<400000000)(hBl:B.length<1000000)(v:Int):∀ (u:Nat) (n:Nat) (t:Tm) (M:List Int),t.size≤n→t.size<400000000→(B.countP fun b=>!M.contains b.1)<u→aU Tryz.prog Y 142 [t.av,.lo 3 0,.lo 4 0,.lo 5 0,.lo 7 0] (ri d B v M) (bV (Tm.rh (Tm.u9 B v u) t M).1) (ri d B v (Tm.rh (Tm.u9 B v u) t M).2):=by
 intro u;induction u with
 |zero=>intro n t M _ _ h;omega
 |succ u ihu =>
 intro n;induction n with
 |zero=>intro t M h _;have:=Tm.size_pos t;omega
 |succ n ihn =>
 intro t M hn ht hu;refine Ph Tryz.func142 fun w S φ hg=>?_
 have hφ:φ.length=8:=hg.j5.len;have iS:∀ (Q:List Int) (o:List Ob),(ri d B v Q).map (aQ (bQ false 8 o 5))=ri d B v Q:=fun Q o=>CJ cF cF cF rfl cF rfl rfl rfl d B v Q
 have aaO:∀ (n:Nat) (Z:List Int),(ri d B v Z).map (bz (rn [0,1,2,3,4,5,6,7] n))=ri d B v Z:=fun n Z=>by
  have e:(bz (rn [0,1,2,3,4,5,6,7] n))=aQ (c8 (rn [0,1,2,3,4,5,6,7] n)):=by funext o;cases o<;>simp[bz,aQ,gF]
  rw[e];exact CJ cF cF cF rfl cF rfl rfl rfl d B v Z
 have ret:∀ {r:Bool} {Q:List Int},Tm.rh (Tm.u9 B v (u+1)) t M=(r,Q)→bV r=bV (Tm.rh (Tm.u9 B v (u+1)) t M).1∧ri d B v Q=ri d B v (Tm.rh (Tm.u9 B v (u+1)) t M).2:=fun e=>by rw[e];exact⟨rfl,rfl⟩
 refine af ?_;refine aj (fun h1=>?_) fun h1=>?_
 ·have aR:t.k=1:=by simpa using h1
  refine aj (fun h2=>?_) fun h2=>?_
  ·have h2:t.n=v:=by simpa using h2
   have e:=ret (r:=true) (Q:=M) (by rw[Tm.Ai aR];simp only[Tm.u9];rw[if_pos h2]);rw[← e.1,← e.2];exact VO
  have h2:¬ t.n=v:=by simpa using h2
  cases hb:a7 B t.n with
  |none =>
   refine af3 ?_;refine oS ?_;have e:=ret (r:=false) (Q:=M) (by rw[Tm.Ai aR];simp only[Tm.u9];rw[if_neg h2,hb]);rw[← e.1,← e.2];exact VO
  |some x =>
   refine af4 ?_;refine gu ?_;have sM:=CH M t.n;cases hc:M.contains t.n with
   |true =>
    rw[hc,if_pos rfl]at sM;refine gC hg.ok (M.map fun n=>(n,bV true)) rfl rfl rfl rfl rfl rfl rfl (zv:=.bool false) cX (v:=bV true) (by rw[sM];rfl) (af ?_);refine oS ?_;have e:=ret (r:=false) (Q:=M) (by rw[Tm.Ai aR];simp only[Tm.u9];rw[if_neg h2,hb];simp only;rw[hc,if_pos rfl]);rw[← e.1,← e.2];exact VO
   |false =>
    rw[hc,if_neg aC]at sM;refine gC hg.ok (M.map fun n=>(n,bV true)) rfl rfl rfl rfl rfl rfl rfl (zv:=.bool false) cX (v:=.ff) (by rw[sM];rfl) (af ?_);refine Fs hg.ok (bV true) (M.map fun n=>(n,bV true)) ((M++[t.n]).map fun n=>(n,bV true)) rfl rfl rfl rfl rfl rfl rfl sM .tt aC (af ?_);have fx:=ihu x.size x (M++[t.n]) cP (hB _ (Tm.dq hb)) (by have:=Tm.Cq hb hc;omega)
    have hq:Tm.rh (Tm.u9 B v (u+1)) t M=Tm.rh (Tm.u9 B v u) x (M++[t.n]):=by
     rw[Tm.Ai aR];simp only[Tm.u9];rw[if_neg h2,hb];simp only;rw[hc,if_neg aC]
    rw[hq];generalize Tm.rh (Tm.u9 B v u) x (M++[t.n])=rq at fx;obtain⟨r,Q⟩:=rq;refine ai hg.ok hg.cm hg.wide hg.Y [0,1,2,3,4,5,6,7] (ri d B v Q++[aP t,aP x]) fx cF rfl rfl rfl rfl rfl DE rfl DE (af ?_);exact aK hg 8 5 cP rfl rfl (iS Q _)
 have aR:t.k≠1:=by simpa using h1
 have Qu:Tm.rh (Tm.u9 B v (u+1)) t M=Tm.qC (Tm.u9 B v (u+1)) t.l M:=Tm.acs aR;have hsz:Tm.ay t.l≤n:=by have:=Tm.size_eq t;omega
 have Vd:=Tm.mh t.l;have DP:=Tm.size_eq t;refine bh (fun x:Nat × List Int=>([(4,.lo 7 0),(43,.d (.sl (Tm.aa t.l))),(44,iV t.l.length),(45,iV x.1)],ri d B v x.2++[aP t])) (fun x=>x.1≤t.l.length∧Tm.rh (Tm.u9 B v (u+1)) t M=Tm.qC (Tm.u9 B v (u+1)) (t.l.drop x.1) x.2∧(B.countP fun b=>!x.2.contains b.1)<u+1) (fun x=>t.l.length - x.1) (0,M) ⟨cT _,Qu,hu⟩ ⟨.refl _,.refl _,bM.int uD,.refl _,trivial⟩ rfl ?_;rintro⟨k,Q⟩ ⟨hk,hm,hQ⟩;simp only at hk hm hQ;refine af ?_;refine aj (fun h=>?_) fun h=>?_
 ·have hkl:k<t.l.length:=bK h rfl;have e1:t.l[k]? = some t.l[k]:=dY hkl;have hms:=Tm.ct (eg hkl);rw[List.drop_eq_getElem_cons hkl]at hm;generalize t.l[k]=x at e1 hms hm;simp only[Tm.qC]at hm;refine cW (Tm.aB e1) ?_;have fx:=ihn x Q an an hQ;obtain⟨R0,ag4⟩:=Tm.Ag (Tm.Ah B v (u+1)) x Q;have TM:=Tm.count_le B Q R0;rw[← ag4]at TM;generalize Tm.rh (Tm.u9 B v (u+1)) x Q=rq at fx hm TM;obtain⟨r,Q'⟩:=rq;simp only at hm TM;refine ai hg.ok hg.cm hg.wide hg.Y [0,1,2,3,4,5,6,7] (ri d B v Q'++[aP t,aP x]) fx cF rfl rfl rfl rfl rfl DE rfl DE (af ?_);refine aj (fun h2=>?_) fun h2=>?_
  ·have h2:r=true:=h2;subst h2;have e:=ret (r:=true) (Q:=Q') (by rw[hm,if_pos rfl]);rw[← e.1,← e.2];exact aK hg 8 5 cP rfl rfl (iS Q' _)
  ·have h2:r=false:=h2;subst h2;refine bb 9 (ri d B v Q'++[aP t]) sN rfl ?_ ?_
   ·show (ri d B v Q').map _++_=_
    rw[CJ cF cF cF rfl cF rfl rfl rfl d B v Q'];rfl
   exact bp (k+1,Q') ⟨hkl,by rw[hm,if_neg aC],by simp only;omega⟩ ka ⟨.refl _,.refl _,.refl _,bM.wrap ka ka ka,trivial⟩ rfl
 ·have hkl:t.l.length≤k:=cf h rfl;rw[gD hkl]at hm;have e:=ret (r:=false) (Q:=Q) (by rw[hm];simp[Tm.qC]);rw[← e.1,← e.2];exact aK hg 8 5 cP rfl rfl (iS Q _)

theorem gf (Y:YP)(d:Nat)(B:ak)(hB:∀b∈B,b.2.size<400000000)(hBl:B.length<1000000)(v:Int)(t:Tm)(ht:t.size<400000000):aU Tryz.prog Y 110 [.lo 0 0,iV v,t.av] (cv d B) (bV (Tm.hH B v t)) (cv d B):=by
 refine Ph Tryz.func110 fun w S φ hg=>?_
 have hφ:φ.length=3:=hg.j5.len
 have iS:∀ (o:List Ob),(cv d B).map (aQ (bQ false 3 o 5))=cv d B:=fun o=>by
  simp only[cv,List.map_cons,fj];rw[dJ (fun t=>rfl)];rfl
 have fx:=Ou Y d B hB hBl v (B.length+1) t.size t [] cP ht (by have:=Jd (p:=fun b:Int × Tm=>!([]:List Int).contains b.1) (l:=B);omega)
 have aaO:∀ (n:Nat) (Z:List Int),(ri d B v Z).map (bz (rn [0,1,2,4,3,7,6,8] n))=cv d B++[.box [iV v],.box [.lo 0 0],.box [.mp 6],.map (cn (Z.map fun n=>(n,bV true))),.box [.bU 142 [] [.lo 4 0,.lo 3 0,.lo 7 0,.lo 8 0]]]:=fun n Z=>by
  have e:(bz (rn [0,1,2,4,3,7,6,8] n))=aQ (c8 (rn [0,1,2,4,3,7,6,8] n)):=by funext o;cases o<;>simp[bz,aQ,gF]
  rw[e];simp only[ri,cv,List.map_append,List.map_cons,fj,jj,o8,dJ (f:=c8 (rn [0,1,2,4,3,7,6,8] n)) cF,qF (f:=c8 (rn [0,1,2,4,3,7,6,8] n)) cF];rfl
 have hw:Tm.hH B v t=(Tm.rh (Tm.u9 B v (B.length+1)) t []).1:=rfl;rw[hw];generalize Tm.rh (Tm.u9 B v (B.length+1)) t []=rq at fx;obtain⟨r,Q⟩:=rq;refine af ?_;refine DB ?_;refine ai hg.ok hg.cm hg.wide hg.Y [0,1,2,4,3,7,6,8] (cv d B++[.box [.lo 0 0],.box [iV v],aP t,.map (cn (Q.map fun n=>(n,bV true))),.box [.mp 6],.box [.bU 142 [] [.lo 4 0,.lo 3 0,.lo 7 0,.lo 8 0]]]) fx cF rfl rfl rfl rfl rfl DE rfl DE (af ?_);exact VR

def b7 (d:Nat)(a b:Tm)(B:ak)(s:Nat)(T:List (Tm × Tm))(cD:List (Int × Int)):List Ob:=cv d B++[aP a,aP b,.arr 8 s (fZ T),.map (nV (rz cD))]

theorem b8 (d:Nat)(B:ak)(n:Nat):(cv d B).map (bz (rn [0,1,2] n))=cv d B:=by
 have e:(bz (rn [0,1,2] n))=aQ (c8 (rn [0,1,2] n)):=by funext o;cases o<;>simp[bz,aQ,gF]
 rw[e];simp only[cv,List.map_cons,fj];rw[dJ (fun t=>rfl)];rfl

theorem fI (d:Nat)(a b:Tm)(B:ak)(s:Nat)(T:List (Tm × Tm))(cD:List (Int × Int))(l:List Ob):((b7 d a b B s T cD++l).take 7).map (aQ (dA 7))=b7 d a b B s T cD:=by
 have e:(b7 d a b B s T cD++l).take 7=b7 d a b B s T cD:=by simp[b7,cv]
 rw[e];simp only[b7,cv,List.map_append,List.map_cons,fj,jj,o8];rw[dJ (f:=dA 7) (fun t=>rfl),CI (f:=dA 7) rfl];rfl

theorem yJ (d:Nat)(a b:Tm)(B:ak)(s:Nat)(T:List (Tm × Tm))(cD:List (Int × Int))(u v:Tm)(c e:Int)(l:List Ob):((b7 d a b B s T cD++[aP u,aP v,.box [iV c,iV e]]++l).take 10).map (aQ (dA 10))=b7 d a b B s T cD++[aP u,aP v,.box [iV c,iV e]]:=by
 have e':(b7 d a b B s T cD++[aP u,aP v,.box [iV c,iV e]]++l).take 10=b7 d a b B s T cD++[aP u,aP v,.box [iV c,iV e]]:=by simp[b7,cv]
 rw[e'];simp only[b7,cv,List.map_append,List.map_cons,fj,jj,o8];rw[dJ (f:=dA 10) (fun t=>rfl),CI (f:=dA 10) rfl];rfl

theorem Ll (Y:YP)(d:Nat){S:List Int}{N:Nat}(hS:S.length≤900000)(hN:N≤3000)(hSN:N * (N+S.length * N)≤1000000000000)(B0 B':ak)(ok:Bool)(a b:Tm)(n0:Nat)(h0:Tm.eN S N a n0 [(a,b)] B0 [] B' ok):aU Tryz.prog Y 82 [.lo 0 0,a.av,b.av] (cv d B0) (bV ok) (cv d B'):=by
 refine aU.ej (pf:=amF) gK mixed Tryz.func82 rfl cX cX (by simp[Tryz.ntmps82]) (by simp[cv]) fun w S0 φ hg=>?_
 have hφ:φ.length=3:=hg.j5.len
 have iS:∀ (B:ak) (o:List Ob),(cv d B).map (aQ (bQ false 3 o 5))=cv d B:=fun B o=>by
  simp only[cv,List.map_cons,fj];rw[dJ (fun t=>rfl)];rfl
 refine af ?_;refine Mt ?_;refine Kb hg.ok (fZ [(a,b)]) rfl rfl rfl rfl rfl rfl rfl rfl (by simp[fZ]) (by simp[fZ]) (af ?_);refine DB ?_;refine bh (fun x:Nat × List (Tm × Tm) × ak × List (Int × Int) × Nat=>([(0,.lo 0 0),(7,.ow 5 x.2.2.2.2),(8,.mp 6)],b7 d a b x.2.2.1 x.2.2.2.2 x.2.1 x.2.2.2.1)) (fun x=>Tm.eN S N a x.1 x.2.1 x.2.2.1 x.2.2.2.1 B' ok) (fun x=>x.1) (n0,[(a,b)],B0,[],0) h0 uC rfl ?_;rintro⟨n,T,B,cD,s⟩ hU;simp only at hU
 have Jg:∀ {n:Nat} {T:List (Tm × Tm)} {B:ak} {cD:List (Int × Int)},Tm.eN S N a n T B cD B' ok→T.length≤1000000000001:=fun h=>by
  have h1:=h.len;omega
 have UA:=Jg hU;have hBl:=hU.ug.Oe;refine af ?_;refine uy hg.ok rfl rfl rfl rfl rfl (n:=(T.length:Int)) (by rw[iE]) (af ?_);rcases Wj T with rfl |⟨R,p,rfl⟩
 ·refine gu ?_;obtain⟨e1,e2⟩:=hU.nil;rw[e1,e2];exact vu
 obtain⟨x,y⟩:=p;rw[List.concat_eq_append]at hU UA ⊢;obtain⟨n,rfl⟩:=hU.pos;refine oS ?_;have hRl:(R++[(x,y)]).length=R.length+1:=by simp
 have kO:(fZ (R++[(x,y)]))[((R.length:Nat):Int).toNat]? = some (G1 (x,y)):=Kl aC;refine agP hg.ok 14 cX cX ?_ ?_
 ·refine af ?_;refine aaD ?_;rw[sK (n:=((R++[(x,y)]).length:Int) - 1) an an,show ((R++[(x,y)]).length:Int) - 1=((R.length:Nat):Int) by omega];refine aaC ?_;refine s8 hg.ok 0 rfl rfl rfl rfl rfl rfl fi fi rfl (af ?_);refine aaJ ?_;refine aaD ?_;rw[sK (n:=((R++[(x,y)]).length:Int) - 1) an an,show ((R++[(x,y)]).length:Int) - 1=((R.length:Nat):Int) by omega];refine aaC ?_;refine s8 hg.ok 4 rfl rfl rfl rfl rfl rfl fi fi rfl (af ?_);refine aaJ ?_;refine zq ?_;refine zq ?_;refine ad1 ?_;rw[sK (n:=((R++[(x,y)]).length:Int) - 1) an an,show ((R++[(x,y)]).length:Int) - 1=((R.length:Nat):Int) by omega];refine adu ?_;refine Mt ?_;cases hs:Tm.kH x y cD with
  |true =>
   have fh:=hs;simp only[Tm.kH,aV,decide_eq_true_eq]at fh;refine cQ hg.ok rfl rfl (by simp[fh.1.1]) rfl rfl ?_;refine cQ hg.ok rfl rfl (by simp[fh.1.2]) rfl rfl ?_;refine adx ?_;refine bb 7 (b7 d a b B (s+1) R cD) sN rfl ?_ ?_
   ·exact PB
   exact adY
  |false =>
   have ei:=hU.step hs;by_cases zF:x.k=1∧y.k=1
   ·refine cQ hg.ok rfl rfl (by simp [zF.1]) rfl rfl ?_;refine cQ hg.ok rfl rfl (by simp[zF.2]) rfl rfl ?_
    have hmc:cD.contains (x.n,y.n)=false:=by
     have:=hs;simp only[Tm.kH,zF.1,zF.2,decide_true,jX]at this;exact this
    have hmU:rz cD++[((x.n,y.n),AV.tt)]=rz (Tm.lK x y cD):=by simp[Tm.lK,zF.1,zF.2,rz]
    refine adB ?_;refine adF ?_;generalize Tm.lK x y cD=gS at ei ⊢;obtain⟨ex,ey,zx,zy,rv,fv⟩:=ei;have cx:=iG Y d B hU.ug.chain x;have cy:=iG Y d B hU.ug.chain y;have Wl:∀c∈B,c.2.size<400000000:=fun c hc=>by have:=hU.ug.sb c hc;omega
    generalize Tm.aE B x=x' at *;generalize Tm.aE B y=y' at *;refine Mb ?_;refine jv hg.ok hg.cm hg.wide hg.Y [0,1,2] (b7 d a b B (s+1) R gS++[aP x,aP y,.box [iV x.n,iV y.n]]) cx cF (fun i hi=>by show i<φ.length;simp at hi;omega) rfl rfl rfl rfl rfl iU rfl iU (af ?_);refine Mc ?_;refine jv hg.ok hg.cm hg.wide hg.Y [0,1,2] (b7 d a b B (s+1) R gS++[aP x,aP y,.box [iV x.n,iV y.n]]) cy cF (fun i hi=>by show i<φ.length;simp at hi;omega) rfl rfl rfl rfl rfl iU rfl iU (af ?_);refine zq ?_;refine zq ?_;by_cases hc:x'.k=1∧y'.k=1∧x'.n=y'.n
    ·refine Pr ?_;refine Pp ?_;refine Pq ?_;refine bb 7 (b7 d a b B (s+1) R gS) sN rfl ?_ ?_
     ·exact fI d a b B (s+1) R gS _
     exact adZ
    obtain⟨AM,xN⟩:=fv hc;by_cases lJ:x'.k=1
    ·obtain ⟨eV,eW⟩:=AM lJ;have cw:=gf Y d B Wl an x'.n y' an;have cb:=iH Y d B x'.n y' (ex lJ) an;generalize Tm.hH B x'.n y'=wb at cw eV eW;by_cases xw:y'.k=1
     ·refine ID ?_;refine IE ?_;refine en hg.ok rfl rfl (by have:¬ x'.n=y'.n:=fun e=>hc ⟨lJ,xw,e⟩;simp[this]) rfl rfl ?_;refine IG ?_;refine Mc ?_;refine afP ?_;cases wb with
      |true =>
       refine oS ?_;obtain⟨e1,e2⟩:=eV rfl;rw[e1,e2];exact vu
      |false =>
      have hN:=eW rfl;refine gu ?_;refine Mc ?_;refine ajN ?_;refine bb 7 (b7 d a b (B++[(x'.n,y')]) (s+1) R gS) sN rfl ?_ ?_
      ·exact PC
      exact aaG
     ·refine ID ?_;refine IJ ?_;refine IG ?_;refine Mc ?_;refine afP ?_;cases wb with
      |true =>
       refine oS ?_;obtain⟨e1,e2⟩:=eV rfl;rw[e1,e2];exact vu
      |false =>
      have hN:=eW rfl;refine gu ?_;refine Mc ?_;refine ajN ?_;refine bb 7 (b7 d a b (B++[(x'.n,y')]) (s+1) R gS) sN rfl ?_ ?_
      ·exact PC
      exact aaG
    ·refine Pt ?_;refine Pu ?_;obtain⟨uG,AN⟩:=xN lJ;by_cases xw:y'.k=1
     ·obtain ⟨eV,eW⟩:=uG xw;have cw:=gf Y d B Wl an y'.n x' an;have cb:=iH Y d B y'.n x' (ey xw) an;generalize Tm.hH B y'.n x'=wb at cw eV eW;refine IE ?_;refine Mb ?_;refine afP ?_;cases wb with
      |true =>
       refine oS ?_;obtain⟨e1,e2⟩:=eV rfl;rw[e1,e2];exact vu
      |false =>
      have hN:=eW rfl;refine gu ?_;refine Mb ?_;refine ai hg.ok hg.cm hg.wide hg.Y [0,1,2] (b7 d a b (B++[(y'.n,x')]) (s+1) R gS++[aP x',aP y',.box [iV x.n,iV y.n]]) cb cF rfl rfl rfl rfl rfl iU rfl iU (af ?_);refine bb 7 (b7 d a b (B++[(y'.n,x')]) (s+1) R gS) sN rfl ?_ ?_
      ·exact fI d a b (B++[(y'.n,x')]) (s+1) R gS _
      exact adS
     ·obtain ⟨eV,eW⟩:=AN xw;refine IJ ?_;refine aj (fun c1=>?_) fun c1=>?_
      ·have c1:¬ x'.k=y'.k:=by simpa using c1
       obtain⟨e1,e2⟩:=eV aa0;rw[e1,e2];exact vu
      have c1:x'.k=y'.k:=by simpa using c1
      refine aj (fun c2=>?_) fun c2=>?_
      ·have c2:¬ x'.n=y'.n:=by simpa using c2
       obtain⟨e1,e2⟩:=eV PI;rw[e1,e2];exact vu
      have c2:x'.n=y'.n:=by simpa using c2
      refine aj (fun c3=>?_) fun c3=>?_
      ·have c3:bE x'.s y'.s=false:=by simpa using c3
       obtain⟨e1,e2⟩:=eV PJ;rw[e1,e2];exact vu
      have c3:bE x'.s y'.s=true:=by simpa using c3
      refine aj (fun c4=>?_) fun c4=>?_
      ·have c4:¬ x'.l.length=y'.l.length:=by simp [Tm.au] at c4; omega
       obtain⟨e1,e2⟩:=eV PK;rw[e1,e2];exact vu
      have g4:x'.l.length=y'.l.length:=by simp[Tm.au]at c4;omega
      have hN:=eW aaS;have hN2:=Jg hN;have Jh:(x'.l.zip y'.l).length=x'.l.length:=by rw[mA1];omega
      have hRz:(R++x'.l.zip y'.l).length=R.length+x'.l.length:=by rw[List.length_append,Jh]
      refine bh (fun k:Nat=>([(0,.lo 0 0),(7,.ow 5 (s+1+k)),(8,.mp 6),(10,.lo 8 0),(66,.d (.sl (Tm.aa x'.l))),(67,iV x'.l.length),(68,iV k)],b7 d a b B (s+1+k) (R++(x'.l.zip y'.l).take k) gS++[aP x',aP y',.box [iV x.n,iV y.n]])) (fun k=>k≤x'.l.length) (fun k=>x'.l.length - k) 0 fy ⟨.refl _,.refl _,.refl _,.refl _,.refl _,bM.int uD,.refl _,trivial⟩ aj8 ?_;rintro k hk;refine af ?_;refine aj (fun h=>?_) fun h=>?_
      ·have aR:k<x'.l.length:=bK h rfl;have e1:x'.l[k]? = some x'.l[k]:=dY aR;have e2:y'.l[k]? = some (y'.l[k]' an):=dY an;have e3:(x'.l.zip y'.l)[k]? = some (x'.l[k],y'.l[k]' an):=by rw[mA3];exact⟨e1,e2⟩
       generalize x'.l[k]=xk at e1 e3;generalize (y'.l[k]' an)=yk at e2 e3;have Ig:R++(x'.l.zip y'.l).take (k+1)=(R++(x'.l.zip y'.l).take k)++[(xk,yk)]:=by rw[I5,e3,List.append_assoc];rfl
       have U8:(R++(x'.l.zip y'.l).take k).length=R.length+k:=by rw[List.length_append,zz];omega
       refine cW (Tm.aB e1) ?_;refine cW (Tm.aB e2) ?_;refine Mt ?_;refine aaw ?_;refine mL9 ?_;refine bb 10 (b7 d a b B (s+1+(k+1)) (R++(x'.l.zip y'.l).take (k+1)) gS++[aP x',aP y',.box [iV x.n,iV y.n]]) sN rfl ?_ ?_
       ·exact aeg
       exact Vq
      ·have aR:x'.l.length≤k:=cf h rfl;rw[Ih (by omega:(x'.l.zip y'.l).length≤k)];refine bb 7 (b7 d a b B (s+1+k) (R++x'.l.zip y'.l) gS) sN rfl ?_ ?_
       ·exact fI d a b B (s+1+k) (R++x'.l.zip y'.l) gS _
       exact adQ
   ·have hmU:Tm.lK x y cD=cD:=by
     unfold Tm.lK;rw[if_neg];simp only[aV,decide_eq_true_eq];exact zF
    rw[hmU]at ei;obtain⟨gS,rfl⟩:∃m,cD=m:=⟨cD,rfl⟩;by_cases tK:x.k=1
    ·refine cQ hg.ok rfl rfl (by simp [tK]) rfl rfl ?_;refine en hg.ok rfl rfl (by have:¬ y.k=1:=fun h=>zF ⟨tK,h⟩;simp[this]) rfl rfl ?_;exact mB2
    ·refine en hg.ok rfl rfl (by simp [tK]) rfl rfl ?_;exact mB2
 ·refine af ?_;refine aaD ?_;rw[sK (n:=((R++[(x,y)]).length:Int) - 1) an an,show ((R++[(x,y)]).length:Int) - 1=((R.length:Nat):Int) by omega];refine aaC ?_;refine s8 hg.ok 0 rfl rfl rfl rfl rfl rfl fi fi rfl (af ?_);refine aaJ ?_;refine aaD ?_;rw[sK (n:=((R++[(x,y)]).length:Int) - 1) an an,show ((R++[(x,y)]).length:Int) - 1=((R.length:Nat):Int) by omega];refine aaC ?_;refine s8 hg.ok 4 rfl rfl rfl rfl rfl rfl fi fi rfl (af ?_);refine aaJ ?_;refine zq ?_;refine zq ?_;refine ad1 ?_;rw[sK (n:=((R++[(x,y)]).length:Int) - 1) an an,show ((R++[(x,y)]).length:Int) - 1=((R.length:Nat):Int) by omega];refine adu ?_;refine Mt ?_;cases hs:Tm.kH x y cD with
  |true =>
   have fh:=hs;simp only[Tm.kH,aV,decide_eq_true_eq]at fh;refine cQ hg.ok rfl rfl (by simp[fh.1.1]) rfl rfl ?_;refine cQ hg.ok rfl rfl (by simp[fh.1.2]) rfl rfl ?_;refine adx ?_;refine bb 7 (b7 d a b B (s+1) R cD) sN rfl ?_ ?_
   ·exact PB
   exact adY
  |false =>
   have ei:=hU.step hs;by_cases zF:x.k=1∧y.k=1
   ·refine cQ hg.ok rfl rfl (by simp [zF.1]) rfl rfl ?_;refine cQ hg.ok rfl rfl (by simp[zF.2]) rfl rfl ?_
    have hmc:cD.contains (x.n,y.n)=false:=by
     have:=hs;simp only[Tm.kH,zF.1,zF.2,decide_true,jX]at this;exact this
    have hmU:rz cD++[((x.n,y.n),AV.tt)]=rz (Tm.lK x y cD):=by simp[Tm.lK,zF.1,zF.2,rz]
    refine adB ?_;refine adF ?_;generalize Tm.lK x y cD=gS at ei ⊢;obtain⟨ex,ey,zx,zy,rv,fv⟩:=ei;have cx:=iG Y d B hU.ug.chain x;have cy:=iG Y d B hU.ug.chain y;have Wl:∀c∈B,c.2.size<400000000:=fun c hc=>by have:=hU.ug.sb c hc;omega
    generalize Tm.aE B x=x' at *;generalize Tm.aE B y=y' at *;refine Mc ?_;refine jv hg.ok hg.cm hg.wide hg.Y [0,1,2] (b7 d a b B (s+1) R gS++[aP y,aP x,.box [iV x.n,iV y.n]]) cx cF (fun i hi=>by show i<φ.length;simp at hi;omega) rfl rfl rfl rfl rfl iU rfl iU (af ?_);refine Mb ?_;refine jv hg.ok hg.cm hg.wide hg.Y [0,1,2] (b7 d a b B (s+1) R gS++[aP y,aP x,.box [iV x.n,iV y.n]]) cy cF (fun i hi=>by show i<φ.length;simp at hi;omega) rfl rfl rfl rfl rfl iU rfl iU (af ?_);refine zq ?_;refine zq ?_;by_cases hc:x'.k=1∧y'.k=1∧x'.n=y'.n
    ·refine Pr ?_;refine Pp ?_;refine Pq ?_;refine bb 7 (b7 d a b B (s+1) R gS) sN rfl ?_ ?_
     ·exact fI d a b B (s+1) R gS _
     exact adZ
    obtain⟨AM,xN⟩:=fv hc;by_cases lJ:x'.k=1
    ·obtain ⟨eV,eW⟩:=AM lJ;have cw:=gf Y d B Wl an x'.n y' an;have cb:=iH Y d B x'.n y' (ex lJ) an;generalize Tm.hH B x'.n y'=wb at cw eV eW;by_cases xw:y'.k=1
     ·refine ID ?_;refine IE ?_;refine en hg.ok rfl rfl (by have:¬ x'.n=y'.n:=fun e=>hc ⟨lJ,xw,e⟩;simp[this]) rfl rfl ?_;refine IG ?_;refine Mb ?_;refine afQ ?_;cases wb with
      |true =>
       refine oS ?_;obtain⟨e1,e2⟩:=eV rfl;rw[e1,e2];exact vu
      |false =>
      have hN:=eW rfl;refine gu ?_;refine Mb ?_;refine ajO ?_;refine bb 7 (b7 d a b (B++[(x'.n,y')]) (s+1) R gS) sN rfl ?_ ?_
      ·exact PC
      exact aaG
     ·refine ID ?_;refine IJ ?_;refine IG ?_;refine Mb ?_;refine afQ ?_;cases wb with
      |true =>
       refine oS ?_;obtain⟨e1,e2⟩:=eV rfl;rw[e1,e2];exact vu
      |false =>
      have hN:=eW rfl;refine gu ?_;refine Mb ?_;refine ajO ?_;refine bb 7 (b7 d a b (B++[(x'.n,y')]) (s+1) R gS) sN rfl ?_ ?_
      ·exact PC
      exact aaG
    ·refine Pt ?_;refine Pu ?_;obtain⟨uG,AN⟩:=xN lJ;by_cases xw:y'.k=1
     ·obtain ⟨eV,eW⟩:=uG xw;have cw:=gf Y d B Wl an y'.n x' an;have cb:=iH Y d B y'.n x' (ey xw) an;generalize Tm.hH B y'.n x'=wb at cw eV eW;refine IE ?_;refine Mc ?_;refine afQ ?_;cases wb with
      |true =>
       refine oS ?_;obtain⟨e1,e2⟩:=eV rfl;rw[e1,e2];exact vu
      |false =>
      have hN:=eW rfl;refine gu ?_;refine Mc ?_;refine ai hg.ok hg.cm hg.wide hg.Y [0,1,2] (b7 d a b (B++[(y'.n,x')]) (s+1) R gS++[aP y',aP x',.box [iV x.n,iV y.n]]) cb cF rfl rfl rfl rfl rfl iU rfl iU (af ?_);refine bb 7 (b7 d a b (B++[(y'.n,x')]) (s+1) R gS) sN rfl ?_ ?_
      ·exact fI d a b (B++[(y'.n,x')]) (s+1) R gS _
      exact adS
     ·obtain ⟨eV,eW⟩:=AN xw;refine IJ ?_;refine aj (fun c1=>?_) fun c1=>?_
      ·have c1:¬ x'.k=y'.k:=by simpa using c1
       obtain⟨e1,e2⟩:=eV aa0;rw[e1,e2];exact vu
      have c1:x'.k=y'.k:=by simpa using c1
      refine aj (fun c2=>?_) fun c2=>?_
      ·have c2:¬ x'.n=y'.n:=by simpa using c2
       obtain⟨e1,e2⟩:=eV PI;rw[e1,e2];exact vu
      have c2:x'.n=y'.n:=by simpa using c2
      refine aj (fun c3=>?_) fun c3=>?_
      ·have c3:bE x'.s y'.s=false:=by simpa using c3
       obtain⟨e1,e2⟩:=eV PJ;rw[e1,e2];exact vu
      have c3:bE x'.s y'.s=true:=by simpa using c3
      refine aj (fun c4=>?_) fun c4=>?_
      ·have c4:¬ x'.l.length=y'.l.length:=by simp [Tm.au] at c4; omega
       obtain⟨e1,e2⟩:=eV PK;rw[e1,e2];exact vu
      have g4:x'.l.length=y'.l.length:=by simp[Tm.au]at c4;omega
      have hN:=eW aaS;have hN2:=Jg hN;have Jh:(x'.l.zip y'.l).length=x'.l.length:=by rw[mA1];omega
      have hRz:(R++x'.l.zip y'.l).length=R.length+x'.l.length:=by rw[List.length_append,Jh]
      refine bh (fun k:Nat=>([(0,.lo 0 0),(7,.ow 5 (s+1+k)),(8,.mp 6),(10,.lo 7 0),(66,.d (.sl (Tm.aa x'.l))),(67,iV x'.l.length),(68,iV k)],b7 d a b B (s+1+k) (R++(x'.l.zip y'.l).take k) gS++[aP y',aP x',.box [iV x.n,iV y.n]])) (fun k=>k≤x'.l.length) (fun k=>x'.l.length - k) 0 fy ⟨.refl _,.refl _,.refl _,.refl _,.refl _,bM.int uD,.refl _,trivial⟩ aj8 ?_;rintro k hk;refine af ?_;refine aj (fun h=>?_) fun h=>?_
      ·have aR:k<x'.l.length:=bK h rfl;have e1:x'.l[k]? = some x'.l[k]:=dY aR;have e2:y'.l[k]? = some (y'.l[k]' an):=dY an;have e3:(x'.l.zip y'.l)[k]? = some (x'.l[k],y'.l[k]' an):=by rw[mA3];exact⟨e1,e2⟩
       generalize x'.l[k]=xk at e1 e3;generalize (y'.l[k]' an)=yk at e2 e3;have Ig:R++(x'.l.zip y'.l).take (k+1)=(R++(x'.l.zip y'.l).take k)++[(xk,yk)]:=by rw[I5,e3,List.append_assoc];rfl
       have U8:(R++(x'.l.zip y'.l).take k).length=R.length+k:=by rw[List.length_append,zz];omega
       refine cW (Tm.aB e1) ?_;refine cW (Tm.aB e2) ?_;refine Mt ?_;refine aaw ?_;refine mL9 ?_;refine bb 10 (b7 d a b B (s+1+(k+1)) (R++(x'.l.zip y'.l).take (k+1)) gS++[aP y',aP x',.box [iV x.n,iV y.n]]) sN rfl ?_ ?_
       ·exact aeg
       exact Vq
      ·have aR:x'.l.length≤k:=cf h rfl;rw[Ih (by omega:(x'.l.zip y'.l).length≤k)];refine bb 7 (b7 d a b B (s+1+k) (R++x'.l.zip y'.l) gS) sN rfl ?_ ?_
       ·exact fI d a b B (s+1+k) (R++x'.l.zip y'.l) gS _
       exact adQ
   ·have hmU:Tm.lK x y cD=cD:=by
     unfold Tm.lK;rw[if_neg];simp only[aV,decide_eq_true_eq];exact zF
    rw[hmU]at ei;obtain⟨gS,rfl⟩:∃m,cD=m:=⟨cD,rfl⟩;by_cases tK:x.k=1
    ·refine cQ hg.ok rfl rfl (by simp [tK]) rfl rfl ?_;refine en hg.ok rfl rfl (by have:¬ y.k=1:=fun h=>zF ⟨tK,h⟩;simp[this]) rfl rfl ?_;exact mB1
    ·refine en hg.ok rfl rfl (by simp [tK]) rfl rfl ?_;exact mB1
theorem Rk (A B:ak):ub (A++B)=ub A++ub B:=by simp[ub]
theorem Ov (l:List Int)(n:Nat):(di l).take n=di (l.take n):=by simp[di,List.map_take]

theorem CK (Y:YP)(d:Nat)(B X:ak)(hn:((B++X).map (·.1)).Nodup)(hl:(B++X).length≤1000000):aU Tryz.prog Y 83 [.lo 0 0,iV B.length] (cv d (B++X)) (.cH []) (cv (X.length+d+1) B):=by
 refine aU.ej (pf:=fun f=>bif Nat.beq f 4000000004 then .bO 1 else .ji) gK mixed Tryz.func83 rfl cX cX (by simp[Tryz.ntmps83]) (by simp[cv]) fun w S φ hg=>?_
 have hφ:φ.length=3:=hg.j5.len;have Va:((B.length:Nat):Int).toNat=B.length:=vM _;have aZ:((B++X).map (·.1)).length=B.length+X.length:=by simp
 have hXl:X.length≤1000000:=by rw[List.length_append]at hl;omega
 refine af ?_;refine Yh hg.ok rfl rfl rfl rfl rfl rfl rfl rfl rfl Mz (by rw[bR,aZ];omega) ?_;rw[Va];refine af ?_;refine ahK hg.ok rfl rfl rfl rfl rfl (n:=(X.length:Int)) (by rw[bR,aZ];simp) (af ?_);refine bh (fun k:Nat=>([(0,.lo 0 0),(1,iV B.length),(11,.vw 2 ((B++X).length+d) B.length),(12,iV X.length),(13,iV k)],[.box [.mp 1,.ow 2 ((B++X).length+d)],.map (cn (ub (B++X.drop k))),.arr 1 ((B++X).length+d) (di ((B++X).map (·.1)))])) (fun k=>k≤X.length) (fun k=>X.length - k) 0 fy agc rfl ?_;intro k hk;refine af ?_;refine aj (fun h=>?_) fun h=>?_
 ·have aR:k<X.length:=bK h rfl;have e1:X[k]? = some X[k]:=dY aR;have e2:=List.drop_eq_getElem_cons aR;generalize X[k]=c at e1 e2
  have gL:(di ((B++X).map (·.1)))[B.length+k]? = some [.v (.int .i64 c.1)]:=by
   refine lg ?_;rw[eU,kR an,yO,e1];rfl
  refine Yi hg.ok (B.length+k) rfl rfl rfl rfl rfl rfl rfl rfl rfl (yN k) (by rw[bR,aZ,vM];omega) (by rw[vM]) (af ?_);refine Py ?_
  have eo:∀p∈ub B,p.1≠c.1:=fun p hp=>by
   obtain⟨b,hb,rfl⟩:=fA.1 hp;intro he;rw[List.map_append,vN]at hn;exact hn.2.2 b.1 (fA.2 ⟨b,hb,rfl⟩) c.1 (fA.2 ⟨c,gZ e1,rfl⟩) he
  refine TA hg.ok (l:=ub (B++X.drop k)) (n:=c.1) (v:=c.2.av) (ub B) (ub (X.drop (k+1))) (ub (B++X.drop (k+1))) rfl rfl rfl rfl rfl rfl rfl (by rw[Rk,e2];rfl) eo (Rk _ _).symm (af ?_);exact VC
 ·have aR:X.length≤k:=cf h rfl;rw[gD aR,vJ];refine sG hg.ok (di (B.map (·.1))) rfl rfl rfl rfl rfl rfl rfl rfl rfl rfl Mz (by rw[bR,aZ];omega) (by rw[Va,Ov,List.map_append,List.take_left' aC]) (af ?_);have hs:Nat.succ ((B++X).length+d)=B.length+(X.length+d+1):=by rw[List.length_append];omega
  rw[hs];refine l3 hg 3 5 cP rfl rfl ?_;show [_,aQ _ (.map (cn (ub B))),_]=_
  rw[dJ (fun t=>rfl)];rfl

theorem fX (d:Nat)(B:ak)(o:List Ob):(cv d B).map (aQ (bQ false 3 o 5))=cv d B:=by
 simp only[cv,List.map_cons,fj];rw[dJ (fun t=>rfl)];rfl
def Lm (ok:Bool)(d:Nat)(B X:ak):List Ob:=if ok then cv d (B++X) else cv (X.length+d+1) B

theorem mP (Y:YP)(d:Nat){S:List Int}{N:Nat}(hS:S.length≤900000)(hN:N≤3000)(hSN:N * (N+S.length * N)≤1000000000000)(B X:ak)(ok:Bool)(a b:Tm)(n0:Nat)(h0:Tm.eN S N a n0 [(a,b)] B [] (B++X) ok)(hn:((B++X).map (·.1)).Nodup)(hl:(B++X).length≤1000000)(ha:a.bS=true)(hb:b.bS=true)(na:∀e∈a.gV 1,e.2.s.size<1000000000)(nb:∀e∈b.gV 1,e.2.s.size<1000000000):aU Tryz.prog Y 60 [.lo 0 0,a.av,b.av] (cv d B) (.cH [bV ok,iV 0]) (Lm ok d B X):=by
 have sa:a.size≤3000:=(Tm.dF.1 ha).2.1;have sb:b.size≤3000:=(Tm.dF.1 hb).2.1;refine aU.ej (pf:=fun _=>.ji) gK mixed Tryz.func60 rfl cX cX (by simp[Tryz.ntmps60]) (by unfold Lm;cases ok<;>simp[cv]) fun w S φ hg=>?_
 have hφ:φ.length=3:=hg.j5.len;refine af ?_;refine IM ?_;refine gu ?_;refine aF (eY a an na) ?_;rw[cN,ha];refine gu ?_;refine aF (eY b an nb) ?_;rw[cN,hb];refine gu ?_;refine ad5 ?_;refine ai hg.ok hg.cm hg.wide hg.Y [0,1,2] (cv d (B++X)++[aP a,aP b]) (Ll Y d hS hN hSN B (B++X) ok a b n0 h0) cF rfl rfl rfl rfl rfl iU rfl iU (af ?_);cases ok with
 |true =>
  refine oS ?_;exact aK hg 3 5 cP rfl rfl (fX d (B++X) _)
 |false =>
  refine gu ?_;refine ai hg.ok hg.cm hg.wide hg.Y [0,1,2] (cv (X.length+d+1) B++[aP a,aP b]) (CK Y d B X hn hl) cF rfl rfl rfl rfl rfl iU rfl iU (af ?_);exact aei
end Go.Proofs.YtaagocopollacaaGreatDoor

namespace aw
open Go
variable{W S:List Int}{Q B:ak}{v:Int}{N:Nat}
namespace Tm

def jI (B:ak):Nat→List Int→ak→Option ak
 |0,_,_=>none
 |_+1,[],Q=>some Q
 |n+1,v::R,Q=>match a7 B v with
  |none=>jI B n R Q
  |some x=>if (Q.map (·.1)).contains v then jI B n R Q else jI B n (R++bH [x]) (Q++[(v,x)])

theorem tu(B:ak):∀ (u:Nat) (Q:ak),(B.countP fun b=>!(Q.map (·.1)).contains b.1)≤u→∀R,∃n Q',jI B n R Q=some Q'
 |u,Q,hu,[]=>⟨1,Q,rfl⟩
 |u,Q,hu,v::R=>by
  cases hx:a7 B v with
  |none =>
   obtain⟨n,Q',h⟩:=tu B u Q hu R;exact⟨n+1,Q',by simp only[jI,hx];exact h⟩
  |some x =>
   cases hc:(Q.map (·.1)).contains v with
   |true =>
    obtain⟨n,Q',h⟩:=tu B u Q hu R;exact⟨n+1,Q',by simp only[jI,hx];rw[if_pos hc];exact h⟩
   |false =>
    have fu:=Cq hx hc
    match u,hu with
    |0,hu=>omega
    |u+1,hu =>
     obtain⟨n,Q',h⟩:=tu B u (Q++[(v,x)]) (by rw[List.map_append];simp only[List.map_cons,fj];omega) (R++bH [x]);exact⟨n+1,Q',by simp only[jI,hx];rw[if_neg (by rw[hc];simp)];exact h⟩
termination_by u _ _ R=>(u,R.length)

structure ou (B:ak) (W:List Int) (R:List Int) (Q:ak):Prop where
 nodup:(Q.map (·.1)).Nodup
 look:∀b∈Q,a7 B b.1=some b.2
 all:∀v,(v∈W∨∃b∈Q,v∈cz b.2)→a7 B v=none∨v∈Q.map (·.1)∨v∈R

theorem ou.first(B:ak)(W:List Int):ou B W W []:=⟨by simp,by simp,fun v h=>by
 rcases h with h |⟨b,hb,_⟩
 ·exact .inr (.inr h)
 ·cases hb⟩

theorem ou.skip{W R:List Int}(h:ou B W (v::R) Q)(hv:a7 B v=none∨v∈Q.map (·.1)):ou B W R Q:=⟨h.nodup,h.look,fun u hu=>by
 rcases h.all u hu with h1 |h1 |h1
 ·exact .inl h1
 ·exact .inr (.inl h1)
 ·rcases eL.1 h1 with rfl | h1
  ·rcases hv with hv | hv
   ·exact .inl hv
   ·exact .inr (.inl hv)
  ·exact .inr (.inr h1)⟩

theorem ou.more(hB:∀b∈B,b.2.bw=true){W R:List Int}{x:Tm}(h:ou B W (v::R) Q)(hx:a7 B v=some x)(hv:v ∉ Q.map (·.1)):ou B W (R++bH [x]) (Q++[(v,x)]):=by
 have hf:cM [x]=true:=fN.2 fun t ht=>by
  rw[dh]at ht;subst ht;exact hB _ (dq hx)
 refine⟨?_,fun b hb=>?_,fun u hu=>?_⟩
 ·rw [List.map_append,vN];refine⟨h.nodup,by simp,fun a ha b hb=>?_⟩;simp only[List.map_cons,fj,dh]at hb;subst hb;exact fun e=>hv (e ▸ ha)
 ·rcases bW.1 hb with hb | hb
  ·exact h.look b hb
  ·rw[dh]at hb;subst hb;exact hx
 ·have key:(u∈W∨∃b∈Q,u∈cz b.2)∨u∈cz x:=by
   rcases hu with hu |⟨b,hb,hu⟩
   ·exact .inl (.inl hu)
   ·rcases bW.1 hb with hb | hb
    ·exact .inl (.inr ⟨b,hb,hu⟩)
    ·rw[dh]at hb;subst hb;exact .inr hu
  rcases key with hu |hu
  ·rcases h.all u hu with h1 | h1 | h1
   ·exact .inl h1
   ·exact .inr (.inl (by rw[List.map_append];exact bW.2 (.inl h1)))
   ·rcases eL.1 h1 with rfl | h1
    ·exact .inr (.inl (by rw[List.map_append];exact bW.2 (.inr aC)))
    ·exact .inr (.inr (bW.2 (.inl h1)))
  ·refine .inr (.inr (bW.2 (.inr ((j7 hf).2 ?_))));simpa[ek]using hu

theorem Al{B:ak}(hB:∀b∈B,b.2.bw=true){W:List Int}:∀ (n:Nat) (R:List Int) (Q Q':ak),jI B n R Q=some Q'→ou B W R Q→ou B W [] Q'
 |0,_,_,_,h,_=>by simp[jI]at h
 |n+1,[],Q,Q',h,hI=>by simp only[jI,Option.some.injEq]at h;subst h;exact hI
 |n+1,v::R,Q,Q',h,hI=>by
  simp only[jI]at h;split at h
  ·rename_i hx;exact Al hB n _ _ _ h (hI.skip (.inl hx))
  ·rename_i x hx;split at h
   ·rename_i hc;exact Al hB n _ _ _ h (hI.skip (.inr PV))
   ·rename_i hc;exact Al hB n _ _ _ h (hI.more hB hx PV)

theorem vh(h:v∈Q.map (·.1)):∃x,a7 Q v=some x:=by
 cases hq:a7 Q v with
 |some x=>exact⟨x,rfl⟩
 |none =>
  obtain⟨b,hb,rfl⟩:=fA.1 h;exact absurd rfl (nF.1 hq b hb)

theorem yt(hB:UG S N [] B)(hI:ou B W [] Q):Sub Q Q.length∧Q.length≤B.length∧(∀b∈Q,b∈B)∧∀t,t.bw=true→(∀u∈cz t,u∈W)→bn Q Q.length t=bn B B.length t:=by
 obtain⟨σ,hσ⟩:=hB.Vc;obtain⟨ρ,hρ⟩:=K7 hσ hB.chain;have hQB:∀b∈Q,b∈B:=fun b hb=>dq (hI.look b hb)
 have rX:∀u x,a7 Q u=some x→a7 B u=some x:=fun u x h=>hI.look (u,x) (dq h)
 have hS:Sub Q Q.length:=K5 (ρ:=ρ) (fun b hb=>(hB.mo b (hQB b hb)).1) fun b hb u hu hq=>hρ b (hQB b hb) u hu fun e=>by
  cases hx:a7 Q u with
  |none=>exact hq hx
  |some x=>rw[rX u x hx]at e;cases e
 have hl:Q.length≤B.length:=by
  have:=y9 (B:=B) hI.nodup fun m hm=>by
   obtain⟨x,hx⟩:=vh hm;rw[rX _ _ hx];simp
  simpa using this
 have key:∀M t,(∀u∈cz t,a7 Q u=a7 B u)→bn Q M t=bn B M t:=by
  have dV:∀b∈Q,∀u∈cz b.2,a7 Q u=a7 B u:=fun b hb u hu=>by
   rcases hI.all u (.inr ⟨b,hb,hu⟩) with h1 |h1 |h1
   ·rw [h1];cases hx:a7 Q u with
    |none=>rfl
    |some x=>rw[rX u x hx]at h1;cases h1
   ·obtain ⟨x,hx⟩:=vh h1;rw[hx,rX u x hx]
   ·cases h1
  intro M;induction M with
  |zero=>intro t _;rfl
  |succ M ih =>
   intro t ht;simp only[bn];refine nr t fun u hu=>?_
   rw[ht u hu];cases hx:a7 B u with
   |none=>rfl
   |some x =>
    have hq:a7 Q u=some x:=by rw[ht u hu,hx]
    exact ih x fun z hz=>dV (u,x) (dq hq) z hz
 refine⟨hS,hl,hQB,fun t hf ht=>?_⟩;rw[← yY hS.fair Q.length t hf (hS.lev t) B.length hl];refine key _ t fun u hu=>?_
 rcases hI.all u (.inl (ht u hu)) with h1 |h1 |h1
 ·rw [h1];cases hx:a7 Q u with
  |none=>rfl
  |some x=>rw[rX u x hx]at h1;cases h1
 ·obtain ⟨x,hx⟩:=vh h1;rw[hx,rX u x hx]
 ·cases h1

theorem Ln(hr:∀b∈B,b.2.bS=true)(hB:UG S N [] B)(hI:ou B W [] Q):jq Q=true:=by
 obtain⟨h1,_,h3,_⟩:=yt hB hI;refine Ue h1 hI.nodup fun b hb=>?_
 have hb:=h3 b hb;obtain⟨_,h2,h3⟩:=hB.mo b hb;exact⟨h2,h3,hr b hb⟩

theorem Lo(hr:∀b∈B,b.2.bS=true)(hB:UG S N [] B)(hI:ou B W [] Q){t:Tm}(ht:t.bS=true)(hW:∀u∈cz t,u∈W):qv Q Q.length t=DU (bn B B.length t):=by
 rw[Kk (Ln hr hB hI) ht,(yt hB hI).2.2.2 t (nq ht) hW]
end Tm
end aw

namespace Go.Proofs.YtaagocopollacaaGreatDoor
open Go aw Go.Proofs

theorem Lp (B:ak)(hl:B.length<1000000000):bD Tryz.prog 107 [.d (.sl (cO B))] (.d (.map (GP (yK (B.map (·.1)))))):=by
 refine zp Tryz.func107 fun w S hg=>?_
 refine DB ?_;refine bh (fun x:Nat × List (Int × AV)=>([(3,.mp 0),(9,.d (.sl (cO B))),(10,iV B.length),(11,iV x.1)],[.map (cn x.2)])) (fun x=>x.1≤B.length∧yK (B.map (·.1))=BE ((B.map (·.1)).drop x.1) x.1 x.2∧∀p∈x.2,∃n,p.2=iV n) (fun x=>B.length - x.1) (0,[]) ⟨cT _,rfl,by simp⟩ ⟨.refl _,.refl _,bM.int (by rw[fz]),.refl _,trivial⟩ rfl ?_;rintro⟨k,A⟩ ⟨hk,hm,hA⟩;simp only at hk hm hA;refine af ?_;refine iD (fun h=>?_) fun h=>?_
 rotate_left
 ·have aR:B.length≤k:=cf h rfl;rw[gD (by simpa using aR),BE]at hm;rw[hm];refine x9 hg.cm 0 (GP A) fy (by rw[QG hA];rfl) rfl (af ?_);refine cq ?_;rfl
 refine af ?_;have aR:k<B.length:=bK h rfl;have e1:B[k]? = some B[k]:=dY aR;rw[List.drop_eq_getElem_cons (by simpa using aR),List.getElem_map,BE]at hm;refine cW (mE e1) ?_;cases hf:ib A B[k].1 with
 |some x =>
  rw[hf]at hm;refine gC hg.ok A rfl rfl rfl rfl rfl rfl rfl (zv:=.int .i64 0) cX (v:=.cH [x,bV true]) (by rw[hf];rfl) ?_;obtain⟨n,rfl⟩:=QS hA hf;refine af ?_;refine gu ?_;refine bb 1 [.map (cn A)] fy rfl (by show [aQ _ (.map (cn A))]=_;rw[Ki cF hA]) ?_;exact bp (k+1,A) ⟨aR,hm,hA⟩ ka ⟨.refl _,.refl _,.refl _,bM.wrap ka ka ka,trivial⟩ rfl
 |none =>
  rw[hf]at hm;refine gC hg.ok A rfl rfl rfl rfl rfl rfl rfl (zv:=.int .i64 0) cX (v:=.cH [iV 0,bV false]) (by rw[hf];rfl) (af ?_);refine oS ?_;refine EU hg.ok A (A++[(B[k].1,iV k)]) rfl rfl rfl rfl rfl rfl rfl hf rfl rfl (af ?_)
  have hA':∀p∈A++[(B[k].1,iV (k:Int))],∃n,p.2=iV n:=fun p hp=>by
   rcases bW.1 hp with hp |hp
   ·exact hA p hp
   ·simp at hp;exact⟨k,by rw[hp]⟩
  refine bb 1 [.map (cn (A++[(B[k].1,iV k)]))] fy rfl (by show [aQ _ (.map (cn (A++[(B[k].1,iV k)])))]=_;rw[Ki cF hA']) ?_;exact bp (k+1,A++[(B[k].1,iV k)]) ⟨aR,hm,hA'⟩ ka ⟨.refl _,.refl _,.refl _,bM.wrap ka ka ka,trivial⟩ rfl

def lr (B:ak)(st:List Int):List Ob:=[.box [.ow 4 0],.box [.d (.sl (cO B))],.box [.d (.map (GP (yK (B.map (·.1)))))],.box [.bU 117 [] [.lo 0 0,.lo 1 0,.lo 2 0,.lo 3 0]],.arr 1 0 (di st)]

theorem CL {B:ak}{f:AV→AV}(h2:f (.ow 4 0)=.ow 4 0)(h3:f (.d (.sl (cO B)))=.d (.sl (cO B)))(h4:f (.d (.map (GP (yK (B.map (·.1))))))=.d (.map (GP (yK (B.map (·.1))))))(h5:f (.bU 117 [] [.lo 0 0,.lo 1 0,.lo 2 0,.lo 3 0])=.bU 117 [] [.lo 0 0,.lo 1 0,.lo 2 0,.lo 3 0])(st:List Int):(lr B st).map (aQ f)=lr B st:=by
 simp only[lr,aQ,List.map_cons,fj,h2,h3,h4,h5]

theorem Zf {st:List Int}{i:Nat}(h:i<st.length):st[i]? = some (st.getD i 0):=by
 rw[dY h,List.getD_eq_getElem?_getD,dY h];rfl

theorem UB (Y:YP)(B:ak)(hB:∀b∈B,b.2.size<400000000)(hBl:B.length<1000000):∀ (f i:Nat) (st:List Int),i<B.length→st.length=B.length→j8 st<f→aU Tryz.prog Y 117 [iV i,.lo 0 0,.lo 1 0,.lo 2 0,.lo 3 0] (lr B st) (bV (fV (fW B) f i st).1) (lr B (fV (fW B) f i st).2):=by
 intro f;induction f with
 |zero=>intro i st _ _ h;omega
 |succ f ih =>
 intro i st hi cS hz;have e1:B[i]? = some B[i]:=dY hi;have hsz:=hB _ (eg hi);refine Ph Tryz.func117 fun w S φ hg=>?_
 have hφ:φ.length=5:=hg.j5.len;have ret:∀ {r:Bool} {Q:List Int},fV (fW B) (f+1) i st=(r,Q)→bV r=bV (fV (fW B) (f+1) i st).1∧lr B Q=lr B (fV (fW B) (f+1) i st).2:=fun e=>by rw[e];exact⟨rfl,rfl⟩
 have iS:∀ (Q:List Int) (o:List Ob),(lr B Q).map (aQ (bQ false 5 o 5))=lr B Q:=fun Q o=>CL rfl rfl rfl rfl Q
 have kO:∀ {Q:List Int},Q.length=B.length→(di Q)[((i:Nat):Int).toNat]? = some [.v (.int .i64 (Q.getD i 0))]:=fun h=>lg (Zf an)
 refine af ?_;refine af5 ?_;refine zT hg.ok rfl rfl rfl rfl rfl rfl (kO cS) rfl (af ?_);refine aj (fun h0=>?_) fun h0=>?_
 ·have h0:¬ st.getD i 0=0:=by simpa using h0
  refine af5 ?_;refine zT hg.ok rfl rfl rfl rfl rfl rfl (kO cS) rfl (af ?_);have e:=ret (r:=st.getD i 0==2) (Q:=st) (by simp only[fV,if_pos h0];congr 1);rw[← e.1,← e.2];exact aK hg 5 5 cP rfl rfl (iS st _)
 have h0:st.getD i 0=0:=by simpa using h0
 have jB:fV (fW B) (f+1) i st=if (me (fV (fW B) f) (fW B i) (st.set i 1)).1 then (true,(me (fV (fW B) f) (fW B i) (st.set i 1)).2.set i 2) else (false,(me (fV (fW B) f) (fW B i) (st.set i 1)).2):=by
  simp only[fV];rw[if_neg (by simpa using h0)]
 have Ig:=(pE st i 1 an).2 an h0;refine af5 ?_;refine EX hg.ok (di (st.set i 1)) rfl rfl rfl rfl rfl (kO cS) rfl rfl rfl fi Fh (af ?_);refine cW (mE e1) ?_;refine aF ((tc [B[i].2] Sc).one) ?_;have Qx:(bH [B[i].2]).length≤Tm.ay [B[i].2]:=by have:=pM [B[i].2] [];simpa[vz,bH]using this
 simp only[Tm.ay]at Qx;rw[placesOf e1]at jB;generalize bH [B[i].2]=V at jB Qx ⊢
 refine bh (fun x:Nat × List Int=>([(0,iV i),(1,.lo 0 0),(3,.lo 2 0),(4,.lo 3 0),(30,.d (.sl (di V))),(31,iV V.length),(32,iV x.1)],lr B x.2))
  (fun x=>x.1≤V.length∧me (fV (fW B) f) (V.filterMap fun v=>if eM B v<0 then none else some (eM B v).toNat) (st.set i 1)=me (fV (fW B) f) ((V.drop x.1).filterMap fun v=>if eM B v<0 then none else some (eM B v).toNat) x.2∧x.2.length=B.length∧j8 x.2≤j8 (st.set i 1)) (fun x=>V.length - x.1) (0,st.set i 1)
  ⟨cT _,rfl,by simp[cS],ef _⟩ ⟨.refl _,.refl _,.refl _,.refl _,.refl _,bM.int PQ,.refl _,trivial⟩ rfl ?_
 rintro⟨k,Q⟩ ⟨hk,hm,hQ,hzQ⟩;simp only at hk hm hQ hzQ;refine af ?_;refine aj (fun h=>?_) fun h=>?_
 ·have aR:k<V.length:=bK h rfl;have e2:V[k]? = some V[k]:=dY aR;rw[List.drop_eq_getElem_cons aR,tO]at hm;refine cW (lg e2) ?_;have hgi:=QQ (B.map (·.1)) V[k];by_cases hp:eM B V[k]<0
  ·rw [show tT (B.map (·.1)) V[k] 0=eM B V[k] from rfl,if_pos hp] at hgi;rw[if_pos hp]at hm;refine adp ?_;refine gu ?_;exact bp (k+1,Q) ⟨aR,hm,hQ,hzQ⟩ ka ⟨.refl _,.refl _,.refl _,.refl _,.refl _,.refl _,bM.wrap ka ka ka,trivial⟩ rfl
  ·rw [show tT (B.map (·.1)) V[k] 0=eM B V[k] from rfl,if_neg hp] at hgi;rw[if_neg hp]at hm
   obtain⟨j,hj,Bb⟩:∃j:Nat,eM B V[k]=j∧j<B.length:=by
    rcases fF B V[k]with ⟨h1,_⟩ |⟨j,t,h1,h2,_⟩
    ·exact absurd h1 hp
    ·exact⟨j,h1,(bC.1 h2).1⟩
   rw[hj]at hgi hm;simp only[vM,me]at hm;refine adt ?_;refine oS ?_;have fx:=ih j Q Bb hQ an;have eE:=pF (fW B) f j Q;generalize hr:fV (fW B) f j Q=rq at fx hm eE;obtain⟨r,Q'⟩:=rq
   have aaO:∀ (n:Nat) (Z:List Int),(lr B Z).map (bz (rn [0,1,2,3,4] n))=lr B Z:=fun n Z=>by
    have e:(bz (rn [0,1,2,3,4] n))=aQ (c8 (rn [0,1,2,3,4] n)):=by funext o;cases o<;>simp[bz,aQ,gF]
    rw[e];exact CL rfl rfl rfl rfl Z
   refine ai hg.ok hg.cm hg.wide hg.Y [0,1,2,3,4] (lr B Q') fx cF rfl rfl rfl rfl rfl DE rfl DE (af ?_);refine aj (fun h=>?_) fun h=>?_
   ·have SE:r=false:=by simpa using h
    subst SE;have e:=ret (r:=false) (Q:=Q') (by rw[jB,hm];simp);rw[← e.1,← e.2];exact aK hg 5 5 cP rfl rfl (iS Q' _)
   ·have SE:r=true:=by simpa using h
    subst SE;refine bp (k+1,Q') ⟨aR,by rw[hm];simp,by rw[← hQ];exact eE.1,by have:=eE.2;simp only at this ⊢;omega⟩ ka ⟨.refl _,.refl _,.refl _,.refl _,.refl _,.refl _,bM.wrap ka ka ka,trivial⟩ rfl
 ·have aR:V.length≤k:=cf h rfl;rw[gD aR]at hm;refine ry hg.ok rfl rfl rfl rfl rfl rfl rfl rfl rfl (yN i) (by rw[bR];simpa[hQ]using hi) (af ?_);refine EX hg.ok (di (Q.set i 2)) rfl rfl rfl rfl rfl (kO hQ) rfl rfl rfl fi Fh (af ?_);have e:=ret (r:=true) (Q:=Q.set i 2) (by rw[jB,hm];rfl);rw[← e.1,← e.2];exact aK hg 5 5 cP rfl rfl (iS (Q.set i 2) _)

structure Ow (B:ak):Prop where
 len:B.length≤125000
 size:∀b∈B,b.2.size<400000000
 name:∀b∈B,∀x e,e∈b.2.gV x→e.2.s.size<1000000000

theorem Lq {fG:Nat→List Nat}{n i:Nat}(h:i<n)(st:List Int):kD fG n ((List.range n).drop i) st=if (fV fG (n+1) i st).1 then kD fG n ((List.range n).drop (i+1)) (fV fG (n+1) i st).2 else false:=by
 rw[List.drop_eq_getElem_cons l6,List.getElem_range,kD]
theorem Ox (n:Nat):List.replicate n [D.v (.int .i64 0)]=di (List.replicate n 0):=by simp[di,J2]

theorem Hy (B:ak)(hB:Ow B):bD Tryz.prog 105 [.d (.sl (cO B))] (bV (jq B)):=by
 have hl:=hB.len;refine oY Tryz.func105 fun w S hg=>?_
 refine aF (Lp B an) ?_;refine aht hg.ok rfl rfl rfl rfl (n:=((yK (B.map (·.1))).length:Int)) (by rw[abI]) (af ?_);refine aj (fun h=>?_) fun h=>?_
 ·have h:=of_decide_eq_true h;refine cq ?_;rw[fz]at h;have:(yK (B.map (·.1))).length<B.length:=by omega
  simp only[jq];rw[decide_eq_true this];rfl
 have h:=of_decide_eq_false h;rw[fz]at h
 have hr1:jq B=(pG B&&kD (fW B) B.length (List.range B.length) (List.replicate B.length 0)):=by
  unfold jq;rw[decide_eq_false an];simp
 refine bh (fun k:Nat=>([(1,.lo 0 0),(3,.lo 1 0),(16,.d (.sl (cO B))),(17,iV B.length),(18,iV k)],[.box [.d (.sl (cO B))],.box [.d (.map (GP (yK (B.map (·.1)))))]])) (fun k=>k≤B.length∧pG B=pG (B.drop k)) (fun k=>B.length - k) 0 ⟨cT _,rfl⟩ ⟨.refl _,.refl _,.refl _,bM.int (by rw[fz]),.refl _,trivial⟩ rfl ?_;rintro k ⟨hk,hm⟩;refine af ?_;refine aj (fun h=>?_) fun h=>?_
 ·have aR:k<B.length:=bK h rfl;have e1:B[k]? = some B[k]:=dY aR;rw[List.drop_eq_getElem_cons aR]at hm;simp only[pG,rE]at hm;have bad:pG B=false→AV.d (.v (.bool false))=bV (jq B):=fun h=>by rw[hr1,h];rfl
  refine cW (mE e1) ?_;refine aj (fun h1=>?_) fun h1=>?_
  ·have h1:=of_decide_eq_true h1;refine cq ?_;exact bad (by unfold pG;rw[hm,decide_eq_false (by omega:¬ 0≤B[k].1)];simp)
  have h1:=of_decide_eq_false h1;refine aj (fun h2=>?_) fun h2=>?_
  ·have h2:=of_decide_eq_true h2;refine cq ?_;exact bad (by unfold pG;rw[hm,decide_eq_false (by omega:¬ B[k].1<1000000)];simp)
  have h2:=of_decide_eq_false h2;refine aF (eY B[k].2 (by have:=hB.size _ (eg aR);omega) (hB.name _ (eg aR) 1)) ?_;rw[cN];refine aj (fun h3=>?_) fun h3=>?_
  ·refine cq ?_;exact bad (by unfold pG;rw[hm,show B[k].2.bS=false by simpa using h3];simp)
  ·refine bb 2 [.box [.d (.sl (cO B))],.box [.d (.map (GP (yK (B.map (·.1)))))]] fy rfl rfl ?_;refine bp (k+1) ⟨aR,?_⟩ an IV rfl;unfold pG;rw[hm,show B[k].2.bS=true by simpa using h3,decide_eq_true (by omega:0≤B[k].1),decide_eq_true (by omega:B[k].1<1000000)];simp
 have aR:B.length≤k:=cf h rfl;rw[gD aR]at hm;have QC:jq B=kD (fW B) B.length (List.range B.length) (List.replicate B.length 0):=by rw[hr1,hm];simp[pG]
 refine J8 hg.ok (di (List.replicate B.length 0)) rfl rfl rfl rfl rfl rfl V4 V4 V4 (by rw[fz];exact Ox B.length) (af ?_)
 refine bh (fun x:Nat × List Int=>([(7,.lo 4 0),(42,iV B.length),(43,iV x.1)],[.box [.d (.sl (cO B))],.box [.d (.map (GP (yK (B.map (·.1)))))],.arr 1 0 (di x.2),.box [.ow 2 0],.box [.bU 117 [] [.lo 3 0,.lo 0 0,.lo 1 0,.lo 4 0]]]))
  (fun x=>x.1≤B.length∧jq B=kD (fW B) B.length ((List.range B.length).drop x.1) x.2∧x.2.length=B.length) (fun x=>B.length - x.1) (0,List.replicate B.length 0) ⟨cT _,QC,by simp⟩ ⟨.refl _,bM.int (by rw[fz]),.refl _,trivial⟩ rfl ?_
 rintro⟨k,st⟩ ⟨hk,hm,cS⟩;simp only at hk hm cS;refine af ?_;refine aj (fun h=>?_) fun h=>?_
 ·have aR:k<B.length:=bK h rfl;rw[Lq aR]at hm
  have hz:j8 st<B.length+1:=by
   have:j8 st≤st.length:=Jd;omega
  have fx:=UB ⟨[],fun _=>true⟩ B hB.size an (B.length+1) k st aR cS hz;have eE:=pF (fW B) (B.length+1) k st;generalize fV (fW B) (B.length+1) k st=rq at fx hm eE;obtain⟨r,Q⟩:=rq;refine ai hg.ok hg.cm ⟨rfl,rfl⟩ (fun _ _ _ _ h=>by cases h) [3,0,1,4,2] [.box [.d (.sl (cO B))],.box [.d (.map (GP (yK (B.map (·.1)))))],.arr 1 0 (di Q),.box [.ow 2 0],.box [.bU 117 [] [.lo 3 0,.lo 0 0,.lo 1 0,.lo 4 0]]] fx cF rfl rfl rfl rfl rfl rfl rfl rfl (af ?_);refine aj (fun h=>?_) fun h=>?_
  ·refine cq ?_;have SE:r=false:=by simpa using h
   rw[hm,SE];rfl
  ·have SE:r=true:=by simpa using h
   exact bp (k+1,Q) ⟨aR,by rw[hm,SE];rfl,by rw[← cS];exact eE.1⟩ ka ⟨.refl _,.refl _,bM.wrap ka ka ka,trivial⟩ rfl
 ·have aR:B.length≤k:=cf h rfl;refine cq ?_;rw[hm,gD (by simpa using aR)];rfl

def lX (B:ak)(left:Int):List Ob:=[.box [.d (.map (GP (yK (B.map (·.1)))))],.box [.d (.sl (cO B))],.box [iV left],.box [.bU 118 [] [.lo 0 0,.lo 1 0,.lo 2 0,.lo 3 0]]]

theorem yu {B:ak}{f:AV→AV}(h1:∀n,f (iV n)=iV n)(h3:f (.d (.sl (cO B)))=.d (.sl (cO B)))(h4:f (.d (.map (GP (yK (B.map (·.1))))))=.d (.map (GP (yK (B.map (·.1))))))(h5:f (.bU 118 [] [.lo 0 0,.lo 1 0,.lo 2 0,.lo 3 0])=.bU 118 [] [.lo 0 0,.lo 1 0,.lo 2 0,.lo 3 0])(left:Int):(lX B left).map (aQ f)=lX B left:=by
 simp only[lX,aQ,List.map_cons,fj,h1,h3,h4,h5]
def UC:Ob:=.box [.d (.v (.int .i64 0)),.d (.v (.string ByteArray.empty)),.d (.v (.int .i64 0)),.d (.v (.slice none 0 0))]

theorem Hz (F:Tm→Tm){l:List Tm}{k:Nat}{x:Tm}(h:l[k]? = some x):Tm.aa ((l.take k).map F)++[[.v (.int .i64 (F x).k),.v (.string (F x).s),.v (.int .i64 (F x).n),.sl (Tm.aa (F x).l)]]=Tm.aa ((l.take (k+1)).map F):=by
 rw[I5,h];simp[Tm.dZ,Tm.row]

theorem Oy (Y:YP)(B:ak)(M:Nat)(hS:Sub B M)(hBl:B.length≤125000):∀ (N:Nat) (t:Tm) (left aq:Int),(bn B M t).size≤N→t.bw=true→0≤left→left≤3000→1≤aq→aq≤200 →
  aU Tryz.prog Y 118 [t.av,iV aq,.lo 0 0,.lo 1 0,.lo 2 0,.lo 3 0] (lX B left) (.cH [(if (Tm.kV (bn B M t) left aq).1 then bn B M t else aJ).av,bV (Tm.kV (bn B M t) left aq).1]) (lX B (Tm.kV (bn B M t) left aq).2):=by
 intro N;induction N with
 |zero=>intro t _ _ h;have:=Tm.size_eq (bn B M t);omega
 |succ N ih =>
 intro t left aq hN hf Qu Du hd0 hd1;refine Ph Tryz.func118 fun w S φ hg=>?_
 have hφ:φ.length=4:=hg.j5.len;have ret:∀ {r:Bool} {q:Int},Tm.kV (bn B M t) left aq=(r,q)→AV.cH [(if r then bn B M t else aJ).av,bV r]=.cH [(if (Tm.kV (bn B M t) left aq).1 then bn B M t else aJ).av,bV (Tm.kV (bn B M t) left aq).1]∧lX B q=lX B (Tm.kV (bn B M t) left aq).2:=fun e=>by rw[e];exact⟨rfl,rfl⟩
 have iS:∀ (q:Int) (o:List Ob),(lX B q).map (aQ (bQ false 4 o 5))=lX B q:=fun q o=>yu cF rfl rfl rfl q
 refine af ?_;refine uR (fun u:Tm=>([(1,iV aq),(2,.lo 0 0),(3,.lo 1 0),(4,.lo 2 0),(5,.lo 3 0),(6,.lo 4 0),(8,.lo 5 0)],lX B left++[aP u,UC])) (fun u=>u.bw=true∧bn B M t=bn B M u∧(u.k=1→a7 B u.n=none)) rfl ?_ ?_
 ·refine bh (fun x:Nat × Tm=>([(1,iV aq),(2,.lo 0 0),(3,.lo 1 0),(4,.lo 2 0),(5,.lo 3 0),(6,.lo 4 0),(8,.lo 5 0)],lX B left++[aP x.2,UC])) (fun x=>x.2.bw=true∧bn B M t=bn B M x.2∧Tc B x.1 x.2) (fun x=>x.1) (M,t) ⟨hf,rfl,hS.lev t⟩ DC rfl ?_;rintro⟨m,u⟩ ⟨hu,zP,hlu⟩;simp only at hu zP hlu;refine af ?_;refine aj (fun Va=>?_) fun Va=>?_
  ·have hk:u.k=1:=by simpa using Va
   have hgi:=QQ (B.map (·.1)) u.n;rcases fF B u.n with ⟨h1,h2⟩ |⟨j,x,h1,h2,h3⟩
   ·rw [show tT (B.map (·.1)) u.n 0=eM B u.n from rfl,if_pos h1] at hgi;refine adp ?_;refine oS ?_;exact q0 u ⟨hu,zP,fun _=>h2⟩ DC rfl
   ·rw [show tT (B.map (·.1)) u.n 0=eM B u.n from rfl,h1,if_neg an] at hgi;refine adt ?_;refine gu ?_;refine cW (mE h2) ?_;obtain⟨q,rfl,hq⟩:=BG hS.fair hlu (Ab hk) h3;exact bp (q,x) ⟨hS.fair _ (gZ h2),by rw[zP];exact hS.bound hu hk h3,hq⟩ ka DC rfl
  ·have hk:¬ u.k=1:=by simpa using Va
   exact q0 u ⟨hu,zP,fun h=>absurd h hk⟩ DC rfl
 rintro u ⟨hu,zP,hnu⟩;have afs:=hS.head hu hnu;have hc:=Tm.abO (bn B M t) left aq;have UA:(bn B M t).l=u.l.map (bn B M):=by rw[zP,afs];rfl
 rw[UA]at hc;refine af ?_;rw[sK (n:=left - 1) an an];refine aj (fun h1=>?_) fun h1=>?_
 ·have h1:=of_decide_eq_true h1;have e:=ret (r:=false) (q:=left - 1) (by rw[hc,if_pos (.inl h1)]);rw[← e.1,← e.2];exact VP
 have h1:=of_decide_eq_false h1;refine aj (fun h2=>?_) fun h2=>?_
 ·have h2:=of_decide_eq_true h2;have e:=ret (r:=false) (q:=left - 1) (by rw[hc,if_pos (.inr h2)]);rw[← e.1,← e.2];exact VP
 have h2:=of_decide_eq_false h2;rw[if_neg an]at hc;have apy:=Tm.size_eq (bn B M t);rw[UA]at apy;have Vd:=Tm.cI (u.l.map (bn B M));rw[eS]at Vd;refine l9 6 3 4 rfl rfl rfl ?_
 refine bh (fun x:Nat × Int=>([(1,iV aq),(5,.lo 3 0),(8,.lo 5 0),(12,.lo 6 0),(46,.d (.sl (Tm.aa u.l))),(47,iV u.l.length),(48,iV x.1)],lX B x.2++[aP u,UC,.box [.d (.v (.int .i64 u.k)),.d (.v (.string u.s)),.d (.v (.int .i64 u.n)),.ow 7 x.1],.arr 4 x.1 (Tm.aa ((u.l.take x.1).map (bn B M)))]))
  (fun x=>x.1≤u.l.length∧Tm.pH (u.l.map (bn B M)) (left - 1) (aq+1)=Tm.pH ((u.l.drop x.1).map (bn B M)) x.2 (aq+1)∧0≤x.2∧x.2+x.1≤left - 1) (fun x=>u.l.length - x.1) (0,left - 1) ⟨cT _,rfl,by simp only;omega,by simp only;omega⟩ ⟨.refl _,.refl _,.refl _,.refl _,.refl _,bM.int uD,.refl _,trivial⟩ rfl ?_
 rintro⟨k,q⟩ ⟨hk,hm,hq0,hq1⟩;simp only at hk hm hq0 hq1;refine af ?_;refine aj (fun h=>?_) fun h=>?_
 ·have aR:k<u.l.length:=bK h rfl;have e1:u.l[k]? = some u.l[k]:=dY aR;rw[List.drop_eq_getElem_cons aR,List.map_cons,Tm.pH]at hm;have hsm:(bn B M u.l[k]).size≤Tm.ay (u.l.map (bn B M)):=Tm.ct (List.mem_map_of_mem (eg aR));refine cW (Tm.aB e1) ?_;have fx:=ih u.l[k] q (aq+1) an (Sub.BH hu (eg aR)) hq0 an an an;have MQ:=Tm.G0 (bn B M u.l[k]) q (aq+1) hq0 an;have aoy:=Tm.size_eq (bn B M u.l[k]);generalize hrr:Tm.kV (bn B M u.l[k]) q (aq+1)=rq at fx hm MQ;obtain⟨r,q'⟩:=rq
  have aaO:∀ (n:Nat) (Z:Int),(lX B Z).map (bz (rn [0,1,2,3] n))=lX B Z:=fun n Z=>by
   have e:(bz (rn [0,1,2,3] n))=aQ (c8 (rn [0,1,2,3] n)):=by funext o;cases o<;>simp[bz,aQ,gF]
   rw[e];exact yu cF rfl rfl rfl Z
  rw[sK (n:=aq+1) an an];refine ai hg.ok hg.cm hg.wide hg.Y [0,1,2,3] (lX B q'++[aP u,UC,.box [.d (.v (.int .i64 u.k)),.d (.v (.string u.s)),.d (.v (.int .i64 u.n)),.ow 7 k],.arr 4 k (Tm.aa ((u.l.take k).map (bn B M))),aP u.l[k]]) fx cF rfl rfl rfl rfl rfl DE rfl DE ?_;cases r with
  |false =>
   refine af ?_;refine oS ?_;have e:=ret (r:=false) (q:=q') (by rw[hc,hm];simp);rw[← e.1,← e.2];exact VP
  |true =>
   refine af ?_;refine gu ?_;refine dp hg.ok (Tm.aa ((u.l.take (k+1)).map (bn B M))) rfl rfl rfl rfl rfl rfl rfl rfl rfl aC I4 (Hz (bn B M) e1) aaR aaR (af ?_);refine bb 8 (lX B q'++[aP u,UC,.box [.d (.v (.int .i64 u.k)),.d (.v (.string u.s)),.d (.v (.int .i64 u.n)),.ow 7 (k+1)],.arr 4 (k+1) (Tm.aa ((u.l.take (k+1)).map (bn B M)))]) sN rfl (by show (lX B q').map _++_=_;rw[yu cF rfl rfl rfl];rfl) ?_;have hq':=MQ.2.1 rfl;have hle:=MQ.1.1 rfl;simp only at hq';exact bp (k+1,q') ⟨aR,by rw[hm];simp,by simp only;omega,by simp only;omega⟩ ka ⟨.refl _,.refl _,.refl _,.refl _,.refl _,.refl _,bM.wrap ka ka ka,trivial⟩ rfl
 ·have aR:u.l.length≤k:=cf h rfl;rw[gD aR]at hm;have e:=ret (r:=true) (q:=q) (by rw[hc,hm];rfl);rw[← e.1,← e.2];rw[Ih aR];have hT:(if true=true then bn B M t else aJ)=.mk u.k u.s u.n (u.l.map (bn B M)):=by simp only[if_true];rw[zP,afs]
  rw[hT];refine aK hg 4 5 cP rfl ?_ (iS q _);exact congrArg (fun x=>AV.cH [x,bV true]) (nk (a':=.d (.v (.int .i64 u.k))) (b':=.d (.v (.string u.s))) (c':=.d (.v (.int .i64 u.n))) rfl rfl rfl rfl rfl)

theorem UD (B:ak)(M:Nat)(hS:Sub B M)(hBl:B.length≤125000)(t:Tm)(hf:t.bw=true):bD Tryz.prog 106 [.d (.sl (cO B)),.d (.map (GP (yK (B.map (·.1))))),t.av] (.cH [(if (Tm.kV (bn B M t) 3000 1).1 then bn B M t else aJ).av,bV (Tm.kV (bn B M t) 3000 1).1]):=by
 refine zp Tryz.func106 fun w S hg=>?_
 have fx:=Oy ⟨[],fun _=>true⟩ B M hS hBl _ t 3000 1 cP hf an an an an;generalize Tm.kV (bn B M t) 3000 1=rq at fx ⊢;obtain⟨r,q⟩:=rq;refine ai hg.ok hg.cm ⟨rfl,rfl⟩ (fun _ _ _ _ h=>by cases h) [1,0,4,5] [.box [.d (.sl (cO B))],.box [.d (.map (GP (yK (B.map (·.1)))))],aP t,UC,.box [iV q],.box [.bU 118 [] [.lo 1 0,.lo 0 0,.lo 4 0,.lo 5 0]]] fx cF rfl rfl rfl rfl rfl rfl rfl rfl (af ?_);refine cq ?_;rfl

theorem UE (B:ak)(M:Nat)(hS:jq B=true→Sub B M)(hB:Ow B)(t:Tm)(ht:t.size<1000000000)(hn:∀x e,e∈t.gV x→e.2.s.size<1000000000):bD Tryz.prog 77 [.d (.sl (cO B)),t.av] (.cH [(qv B M t).1.av,iV (qv B M t).2]):=by
 have hl:=hB.len;refine oY Tryz.func77 fun w S hg=>?_
 refine aF (Hy B hB) ?_;refine aj (fun h1=>?_) fun h1=>?_
 ·refine cq ?_;unfold qv;rw[show jq B=false by simpa using h1];rfl
 have h1:jq B=true:=by simpa using h1
 refine aF (eY t ht (hn 1)) ?_;rw[cN];refine aj (fun h2=>?_) fun h2=>?_
 ·refine cq ?_;unfold qv;rw[show t.bS=false by simpa using h2,Bool.and_false];rfl
 have h2:t.bS=true:=by simpa using h2
 refine aF (Lp B an) ?_;have fx:=UD B M (hS h1) hl t (nq h2);have dw:=(Tm.G0 (bn B M t) 3000 1 an an).1
 have hb:(Tm.kV (bn B M t) 3000 1).1=(decide ((bn B M t).size≤3000)&&decide ((bn B M t).depth≤100)):=by
  rw[vK,dw];simp;omega
 have ha:qv B M t=if (Tm.kV (bn B M t) 3000 1).1 then (bn B M t,0) else (aJ,3):=by
  unfold qv;rw[h1,h2,hb];rfl
 generalize (Tm.kV (bn B M t) 3000 1).1=r at fx ha;refine aF (fx) ?_;rw[ha];cases r with
 |true =>
  refine gu ?_;refine cq ?_;rfl
 |false =>
  refine oS ?_;refine cq ?_;rfl

def ail (V:List Int):List Ob:=[.map (cn (V.map fun n=>(n,bV true))),.box [.mp 0],.box [.ow 3 V.length],.arr 1 V.length (di V)]

theorem UF {f:AV→AV}(h:f .tt=bV true)(V:List Int):aQ f (.map (cn (rA V)))=.map (cn (V.map fun n=>(n,bV true))):=by
 simp[aQ,cn,rA,h]

theorem Zg (Y:YP)(l:List Tm)(hsz:Tm.ay l<1000000000):aU Tryz.prog Y 26 [.d (.sl (Tm.aa l))] [] (.ow 3 (bH l).length) (ail (bH l)):=by
 refine Ph Tryz.func26 fun w S φ hg=>?_
 have hφ:φ.length=0:=hg.j5.len;refine af ?_;refine DB ?_;refine l9 2 0 1 rfl rfl rfl ?_;refine ajI ?_;rintro⟨k,acc⟩ ⟨hk,hm,BQ⟩;simp only at hk hm BQ;have hl:=Tm.cI l;refine af ?_;refine aj (fun h=>?_) fun h=>?_
 ·have aR:k<l.length:=bK h rfl;have e1:l[k]? = some l[k]:=dY aR;rw[List.drop_eq_getElem_cons aR]at hm BQ;simp only[Tm.ay]at BQ;refine cW (Tm.aB e1) ?_;refine aF (G4 l[k]) ?_;generalize l[k]=t at *;refine GJ hg.ok hg.cm hg.wide rfl (t.gV 1) Tm.enc ⟨(t.gV 1).map Tm.enc,fun _=>true⟩ rfl (fun n=>yH (pL acc t n)++[aP t]) (fun _ _=>[(3,.lo 1 0),(4,.lo 2 0),(8,.lo 5 0)]) (fun n e=>yH (pL acc t n)++[aP t,aP e.2]) _ .ret rfl rfl rfl (BO _ t an fun _ _ h=>Nx h) rfl (fun _ _=>rfl) rfl ?_ ?_ ?_ rfl rfl (fun _ h=>by cases h)
  ·intro n x hx _ L w R0 X φ0 _ xF;refine VL ?_;exact M4 uC rfl
  ·intro n x hx _ L w R0 X φ0 Md xF;have xD:=sL hg.ok L w R0 X φ0 xF;have hn:=Ny hx;have ei:pL acc t (n+1)=fJ (pL acc t n) x:=by unfold pL;rw[I5,hx,aa8];rfl
   have aZ:(pL acc t n).length≤acc.length+n:=by
    have:=lj ((t.gV 1).take n) acc;unfold pL;rw[zz]at this;omega
   rw[ei];generalize pL acc t n=a at *;refine qZ ?_;refine qY rfl rfl (fun h1=>?_) (fun h1=>?_)<;>refine gv xD 1000 rfl rfl ?_
   ·have tK:x.2.k=1:=by simpa using h1
    by_cases hmem:a.contains x.2.n=true
    ·refine adC ?_;refine qZ ?_;refine R1 ?_;exact aej
    ·have El:a.contains x.2.n=false:=by simpa using hmem
     refine adI ?_;refine qZ ?_;refine s7 xD (rA a) rfl rfl rfl rfl rfl rfl rfl (by rw[rB,El];rfl) ?_;rw[show ∀E:bk,ev E (.const (.bool true))=.tt from fun _=>rfl,Fp];refine qZ ?_;refine adA ?_;rw[BR];refine qZ ?_;refine R1 ?_;refine xG rfl ?_;unfold fJ jT;rw[if_pos tK,El];simp only[lL,if_false,yH,List.length_append,dv,lM];rfl
   ·have tK:¬ x.2.k=1:=by simpa using h1
    refine R1 ?_;exact xG rfl (by unfold fJ;rw[if_neg tK];rfl)
  ·intro _;rw[BP cF];refine af ?_;refine bb 4 _ sN rfl (Vu (dA 4) rfl _ _) ?_;have hA:pL acc t (0+t.size)=(t.gV 1).foldl fJ acc:=by unfold pL;rw[Ih (by rw[Tm.lE];omega)]
   have Bp:=lj (t.gV 1) acc;rw[Tm.lE]at Bp;rw[hA];refine bp (k+1,(t.gV 1).foldl fJ acc) ⟨aR,hm,by simp only;omega⟩ ka ⟨.refl _,.refl _,.refl _,.refl _,bM.wrap ka ka ka,trivial⟩ rfl
 ·have aR:l.length≤k:=cf h rfl;have e:bH l=acc:=by rw[hm,gD aR];rfl
  rw[e];refine aK hg 4 5 fy rfl rfl ?_;simp only[yH,List.map_cons,fj,List.take];rw[UF rfl];rfl

theorem ux (Y:YP)(d:Nat)(B:ak):aU Tryz.prog Y 36 [.lo 0 0] (cv d B) (iV B.length) (cv d B):=by
 refine Ph Tryz.func36 fun w S φ hg=>?_
 have hφ:φ.length=3:=hg.j5.len;refine af ?_;refine IM ?_;refine gu ?_;refine ad5 ?_;exact VM

theorem vj (Y:YP)(d:Nat)(B X:ak)(hn:((B++X).map (·.1)).Nodup)(hl:(B++X).length≤1000000):aU Tryz.prog Y 61 [.lo 0 0,iV B.length] (cv d (B++X)) (iV 0) (cv (X.length+d+1) B):=by
 refine Ph Tryz.func61 fun w S φ hg=>?_
 have hφ:φ.length=3:=hg.j5.len;refine af ?_;refine IM ?_;refine gu ?_;refine gu ?_;refine uy hg.ok rfl rfl rfl rfl rfl (n:=((B++X).length:Int)) (by rw[bR,eS]) (af ?_);refine en hg.ok rfl rfl (by rw[List.length_append];simp;omega) rfl rfl ?_;refine ai hg.ok hg.cm hg.wide hg.Y [0,1,2] (cv (X.length+d+1) B) (CK Y d B X hn hl) cF rfl rfl rfl rfl rfl iU rfl iU (af ?_);exact aei
def IT (d:Nat)(B:ak)(t:Tm)(V R:List Int)(s:Nat)(Q:ak):List Ob:=cv d B++[aP t,.arr 5 Q.length (cO Q),.map (cn ((Q.map (·.1)).map fun n=>(n,bV true))),.map (cn (V.map fun n=>(n,bV true))),.box [.mp 6],.box [.ow 9 V.length],.arr 1 s (di R)]
def aim:Nat→cC:=fun f=>bif Nat.beq f 26 then .bO 0 else bif Nat.beq f 4000000004 then .bO 1 else .ji

theorem Zh {f:Nat→Nat}(M:List Int):bz f (.map (cn (M.map fun n=>(n,bV true))))=.map (cn (M.map fun n=>(n,bV true))):=by
 simp only[bz,cn,jw];congr 1

theorem FL (l:List Tm):(bH l).length≤Tm.ay l:=by
 have h:(vz [] l).length≤Tm.ay l:=by simpa using pM l []
 exact h

theorem Em (d:Nat)(B:ak)(t:Tm)(V R:List Int)(s:Nat)(Q:ak)(n:Nat)(hn:n=10):(IT d B t V R s Q).map (aQ (dA n))=IT d B t V R s Q:=by
 subst hn;simp only[IT,cv,List.map_append,List.map_cons,fj,jj,o8];rw[dJ (fun t=>rfl),qF (fun b=>rfl),qF (fun b=>rfl)];rfl

theorem Oz (Y:YP)(d:Nat)(B Q':ak)(hB:∀b∈B,b.2.size<1000000)(t:Tm)(ht:t.size<1000000)(n0:Nat)(h0:Tm.jI B n0 (bH [t]) []=some Q')(hQ:∀Q:ak,(Q.map (·.1)).Nodup→(∀b∈Q,a7 B b.1=some b.2)→Q.length≤125000):aU Tryz.prog Y 78 [.lo 0 0,t.av] (cv d B) (.d (.sl (cO Q'))) (cv d B):=by
 refine aU.ej (pf:=aim) gK mixed Tryz.func78 rfl cX cX (by simp[Tryz.ntmps78]) (by simp[cv]) fun w S φ hg=>?_
 have hφ:φ.length=3:=hg.j5.len;refine gv hg.ok 6 rfl rfl ?_;refine JL 5 5 rfl rfl (af ?_);refine DB ?_;refine yd hg.ok hg.cm hg.wide hg.Y (IT d B t (bH [t]) (bH [t]) (bH [t]).length []) (Zg Y [t] Sc).one cF rfl rfl rfl rfl rfl ?_ ?_
 ·show _++List.map _ (ail _)=_
  simp only[ail,List.map_cons,fj];rw[Zh];rfl
 refine af ?_;refine bh (fun x:Nat × List Int × ak × Nat=>([(0,.lo 0 0),(5,.ow 4 x.2.2.1.length),(6,.mp 5),(7,.ow 9 x.2.2.2)],IT d B t (bH [t]) x.2.1 x.2.2.2 x.2.2.1)) (fun x=>Tm.jI B x.1 x.2.1 x.2.2.1=some Q'∧(x.2.2.1.map (·.1)).Nodup∧(∀b∈x.2.2.1,a7 B b.1=some b.2)∧x.2.1.length≤1000000 * (x.2.2.1.length+1)) (fun x=>x.1) (n0,bH [t],[],(bH [t]).length) ⟨h0,by simp,by simp,?_⟩ Mx rfl ?_
 ·have:=FL [t];simp only[Tm.ay,lM]at this ⊢;omega
 rintro⟨n,R,Q,s⟩ ⟨hn,p8,hlk,hRl⟩;simp only at hn p8 hlk hRl;have hQl:=hQ Q p8 hlk;refine af ?_;refine uy hg.ok rfl rfl rfl rfl rfl (n:=(R.length:Int)) PQ (af ?_);cases n with
 |zero=>simp[Tm.jI]at hn
 |succ n =>
 cases R with
 |nil =>
  simp only[Tm.jI,Option.some.injEq]at hn;subst hn;refine gu ?_;exact aK hg 3 5 cP rfl (J1 rfl rfl) (fX d B _)
 |cons v R =>
 refine oS ?_;simp only[dv]at hRl;have gL:(di (v::R))[(0:Int).toNat]? = some [.v (.int .i64 v)]:=rfl;refine ry hg.ok rfl rfl rfl rfl rfl rfl rfl rfl rfl (gP 0) (by rw[bR];simp) (af ?_);refine Py ?_;refine Yj hg.ok (di R) rfl rfl rfl rfl rfl rfl rfl rfl rfl fi agl rfl (af ?_);cases hb:a7 B v with
 |none =>
  have AD:Tm.jI B n R Q=some Q':=by simpa only[Tm.jI,hb]using hn
  refine af3 ?_;refine gu ?_;refine adO ?_;exact adG
 |some x =>
  refine af4 ?_;refine oS ?_;have sM:=CH (Q.map (·.1)) v;cases hc:(Q.map (·.1)).contains v with
  |true =>
   have AD:Tm.jI B n R Q=some Q':=by
    simp only[Tm.jI,hb]at hn
    rwa [if_pos hc]at hn
   rw[hc,if_pos rfl]at sM;refine gC hg.ok ((Q.map (·.1)).map fun n=>(n,bV true)) rfl rfl rfl rfl rfl rfl rfl (zv:=.bool false) cX (v:=bV true) (by rw[sM];rfl) (af ?_);refine gu ?_;refine adO ?_;exact adG
  |false =>
   have AD:Tm.jI B n (R++bH [x]) (Q++[(v,x)])=some Q':=by
    simp only[Tm.jI,hb]at hn
    rwa [if_neg (by rw[hc];simp)]at hn
   rw[hc,if_neg aC]at sM;have Mh:x.size<1000000:=hB _ (Tm.dq hb);have hxl:=FL [x];simp only[Tm.ay,Ja]at hxl;refine gC hg.ok ((Q.map (·.1)).map fun n=>(n,bV true)) rfl rfl rfl rfl rfl rfl rfl (zv:=.bool false) cX (v:=.ff) (by rw[sM];rfl) (af ?_);refine Fs hg.ok (bV true) ((Q.map (·.1)).map fun n=>(n,bV true)) (((Q++[(v,x)]).map (·.1)).map fun n=>(n,bV true)) rfl rfl rfl rfl rfl rfl rfl sM .tt aC (af ?_);refine dp hg.ok (cO (Q++[(v,x)])) rfl rfl rfl rfl rfl rfl rfl rfl rfl aC I4 (Uy _ _ _) (by rw[fz];simp;omega) (by rw[fz];simp;omega) (af ?_);refine aF ((tc [x] Sc).one) ?_;refine dp hg.ok (di (R++bH [x])) rfl rfl rfl rfl rfl rfl rfl rfl rfl (by simp[di,J2]) (by simp[di,J2,p7]) (by simp[di]) (by rw[bR,bR];simp;omega) (by rw[bR,bR];omega) (af ?_);refine bb 10 (IT d B t (bH [t]) (R++bH [x]) (s+2) (Q++[(v,x)])) sN rfl ?_ ?_
   ·rw [← Em d B t (bH [t]) (R++bH [x]) (s+2) (Q++[(v,x)]) 10 rfl];have e:(Q++[(v,x)]).length=Nat.succ Q.length:=by simp
    unfold IT;rw[e];rfl
   refine bp (n,R++bH [x],Q++[(v,x)],s+2) ⟨AD,?_,fun b uc=>?_,by simp only[List.length_append,dv,lM];omega⟩ ka ⟨.refl _,?_,.refl _,.refl _,trivial⟩ rfl
   ·rw [List.map_append,vN];refine⟨p8,by simp,fun a ha b hb=>?_⟩;simp only[List.map_cons,fj,dh]at hb;intro e;rw[hb]at e;rw[e]at ha;have:(Q.map (·.1)).contains v=true:=ags.2 ha;rw[hc]at this;cases this
   ·rcases bW.1 uc with h | h
    ·exact hlk b h
    ·rw[dh]at h;subst h;exact hb
   ·have e:(Q++[(v,x)]).length=Nat.succ Q.length:=by simp
    simp only[e];exact .refl _
def amH:Nat→cC:=fun f=>bif Nat.beq f 78 then .bO 3 else bif Nat.beq f 4000100003 then .look 4 else .ji

theorem wU (Y:YP)(d:Nat){S:List Int}{N:Nat}(hS:S.length≤125000)(hN:N≤3000)(B:ak)(hr:∀b∈B,b.2.bS=true)(hB:Tm.UG S N [] B)(t:Tm)(ht:t.bS=true)(nt:∀x,∀e∈t.gV x,e.2.s.size<1000000000):aU Tryz.prog Y 53 [.lo 0 0,t.av] (cv d B) (.cH [(DU (bn B B.length t)).1.av,iV (DU (bn B B.length t)).2]) (cv d B):=by
 have st:t.size≤3000:=(Tm.dF.1 ht).2.1;obtain⟨n0,Q,h0⟩:=Tm.tu B _ [] cP (bH [t]);have hI:=Tm.Al (fun b hb=>(hB.mo b hb).1) _ _ _ _ h0 (Tm.ou.first B (bH [t]));obtain⟨q1,q2,q3,_⟩:=Tm.yt hB hI;have hBl:=hB.Oe;have GF:∀b∈B,b.2.size<1000000:=fun b hb=>by have:=hB.sb b hb;omega
 have hft:Tm.cM [t]=true:=Tm.fN.2 fun x hx=>by rw[dh]at hx;subst hx;exact nq ht
 have hap:=Tm.Lo hr hB hI ht fun u hu=>(j7 hft).2 (by simpa[Tm.ek]using hu)
 have sQ:Ow Q:=⟨by omega,fun b hb=>by have:=GF b (q3 b hb);omega,fun b hb x e he=>uW (hB.mo b (q3 b hb)).1 x e he⟩;have hA:=UE Q Q.length (fun _=>q1) sQ t an fun x e he=>nt x e he
 rw[hap]at hA
 have hN':=Oz Y d B Q GF t an n0 h0 fun Q' g1 g2=>by
  have:=Tm.y9 (B:=B) g1 fun m hm=>by
   obtain⟨b,hb,rfl⟩:=fA.1 hm;rw[g2 b hb];simp
  rw[eS]at this;omega
 generalize DU (bn B B.length t)=r at hA;obtain⟨x,e⟩:=r;simp only at hA ⊢;refine aU.ej (pf:=amH) gK mixed Tryz.func53 rfl cX cX (by simp[Tryz.ntmps53]) (by simp[cv]) fun w S φ hg=>?_
 have hφ:φ.length=3:=hg.j5.len;refine af ?_;refine IM ?_;refine gu ?_;refine VH ?_;refine aF (eY t an (nt 1)) ?_;rw[cN,ht];refine gu ?_;refine VH ?_;refine jv hg.ok hg.cm hg.wide hg.Y [0,1,2] (cv d B++[aP t,.box [.d (.v (.int .i64 0)),.d (.v (.string ByteArray.empty)),.d (.v (.int .i64 0)),.d (.v (.slice none 0 0))]]) hN' cF (fun i hi=>by show i<φ.length;simp at hi;omega) rfl rfl rfl rfl rfl iU rfl iU (af ?_);refine VH ?_;refine aF (hA) ?_;exact VM
end Go.Proofs.YtaagocopollacaaGreatDoor

namespace aw
open Go
variable{m:Mo}
def wV (e:Ev):Prop:=e.k=1∨e.k=2
def OA (e:Ev):Prop:=e.k=3∨e.k=4∨e.k=5

structure Grow (m:Mo) (r:Mo × Bool):Prop where
 go:r.2=true→∃X,r.1.aD=m.aD++X∧∀e∈X,wV e
 stop:r.2=false→∃X e,r.1.aD=m.aD++(X++[e])∧(∀e∈X,wV e)∧OA e
theorem Grow.same{m':Mo}(h:m'.aD=m.aD):Grow m (m',true):=⟨fun _=>⟨[],by simp[h],by simp⟩,fun h=>by cases h⟩
theorem Grow.last{m m':Mo}{e:Ev}(h:m'.aD=m.aD++[e])(he:OA e):Grow m (m',false):=⟨fun h=>DH,fun _=>⟨[],e,by simp[h],by simp,he⟩⟩
theorem Grow.of_eq{m m1:Mo}{r:Mo × Bool}(h:m1.aD=m.aD)(hr:Grow m1 r):Grow m r:=⟨fun h1=>by rw[← h];exact hr.go h1,fun h1=>by rw[← h];exact hr.stop h1⟩

theorem Grow.add{m m1:Mo}{e:Ev}{r:Mo × Bool}(h:m1.aD=m.aD++[e])(he:wV e)(hr:Grow m1 r):Grow m r:=by
 refine⟨fun h1=>?_,fun h1=>?_⟩
 ·obtain ⟨X,h2,h3⟩:=hr.go h1;refine⟨e::X,by rw[h2,h];simp,fun e' h'=>?_⟩;rcases eL.1 h' with rfl |h'
  ·exact he
  ·exact h3 e' h'
 ·obtain ⟨X,e2,h2,h3,h4⟩:=hr.stop h1;refine⟨e::X,e2,by rw[h2,h];simp,fun e' h'=>?_,h4⟩;rcases eL.1 h' with rfl |h'
  ·exact he
  ·exact h3 e' h'

theorem tv(m:Mo)(t:Tr):∀ (l:List Cs) (i:Nat) (m':Mo),je m t i l=some m'→m'.aD=m.aD∧m'.done=m.done
 |[],_,_,h=>by simp[je]at h
 |c::r,i,m',h=>by
  rw[je]at h;split at h
  ·cases hu:sd m.B t.call (dz m.az c.head) with
   |none=>rw[hu]at h;exact tv m t r _ _ h
   |some B'=>rw[hu]at h;cases h;exact⟨rfl,rfl⟩
  ·exact tv m t r _ _ h

theorem CM(P:List Cs):∀ (n:Nat) (m:Mo),Grow m (jh P n m)∧(jh P n m).1.done=m.done
 |0,m=>⟨.last rfl (.inr (.inl rfl)),rfl⟩
 |n+1,m=>by
  rw[jh];cases hl:m.ag.getLast? with
  |none=>exact⟨.last rfl (.inr (.inl rfl)),rfl⟩
  |some t =>
   simp only;split
   ·exact⟨.same rfl,rfl⟩
   ·cases hc:je { m with ag:=m.ag.dropLast,B:=m.B.take t.mark,az:=t.az } t t.oW (P.drop t.oW) with
    |none =>
     obtain⟨h1,h2⟩:=CM P n { m with ag:=m.ag.dropLast,B:=m.B.take t.mark,az:=t.az };exact⟨.of_eq (m1:={ m with ag:=m.ag.dropLast,B:=m.B.take t.mark,az:=t.az }) rfl h1,h2⟩
    |some m' =>
     obtain⟨h1,h2⟩:=tv _ _ _ _ _ hc;exact⟨.same h1,h2⟩
theorem lY(P:List Cs)(m:Mo):Grow m (ep P m)∧(ep P m).1.done=m.done:=CM P _ m

theorem OB(P:List Cs)(m:Mo)(t:Tm):Grow m (oo P m t)∧(oo P m t).1.done=m.done:=by
 unfold oo;split
 ·exact⟨.last rfl (.inl rfl),rfl⟩
 ·simp only;generalize dR t.s (t.l.map fun x=>(eH m.B x).1) m.az=a;split
  ·exact⟨.last rfl (.inl rfl),rfl⟩
  ·split
   ·exact lY P m
   ·split
    ·cases fP m.B a.al with
     |none=>exact⟨.same rfl,rfl⟩
     |some _=>exact lY P m
    ·cases fP m.B a.al with
     |none=>exact lY P m
     |some B' =>
      refine⟨⟨fun _=>?_,fun h=>by cases h⟩,rfl⟩;by_cases ht:a.tx=[]
      ·exact⟨[],by simp[ht],by simp⟩
      ·exact⟨[r9 a.tx],by simp[ht],fun e he=>by rw[dh.1 he];exact .inr rfl⟩

theorem HA(P:List Cs)(head:Tm)(m:Mo):Grow m (jf P head m)∧(jf P head m).1.done=m.done:=by
 unfold jf;split
 ·exact⟨.last rfl (.inl rfl),rfl⟩
 ·obtain ⟨h1,h2⟩:=lY P { m with aD:=m.aD++[nI (dH (head.l.map fun x=>(eH m.B x).1)).1] };exact⟨.add (e:=nI (dH (head.l.map fun x=>(eH m.B x).1)).1) rfl (.inl rfl) h1,h2⟩

theorem OC(P:List Cs)(head:Tm)(ab:Nat)(m:Mo):Grow m (eh P head ab m):=by
 unfold eh;cases m.now with
 |nil=>exact(HA P head m).1
 |cons x r =>
  simp only;split
  ·exact .same rfl
  ·split
   ·exact .of_eq (m1:={ m with now:=r }) rfl (OB P _ _).1
   ·split
    ·exact .same rfl
    ·split
     ·exact .same rfl
     ·split
      ·split
       ·exact .last rfl (.inr (.inr rfl))
       ·cases hc:je { m with now:=r,done:=m.done+1 } ⟨m.B.length,m.az,dz x.sh x.g.t,0,r,false⟩ 0 P with
        |none=>exact .of_eq (m1:={ m with now:=r,done:=m.done+1 }) rfl (lY P _).1
        |some m'=>exact .same (tv _ _ _ _ _ hc).1
      ·exact .same rfl

theorem tw(P:List Cs)(head:Tm)(ab:Nat):∀ (n:Nat) (m:Mo),Grow m (oQ P head ab n m)
 |0,m=>.same rfl
 |n+1,m=>by
  rw[oQ];have h1:=OC P head ab m;split
  ·rename_i hs;obtain⟨X,h2,h3⟩:=h1.go hs;have h4:=tw P head ab n (eh P head ab m).1;refine⟨fun h=>?_,fun h=>?_⟩
   ·obtain ⟨Y,h5,h6⟩:=h4.go h;exact⟨X++Y,by rw[h5,h2];simp,fun e he=>(bW.1 he).elim (h3 e) (h6 e)⟩
   ·obtain ⟨Y,e,h5,h6,h7⟩:=h4.stop h;exact⟨X++Y,e,by rw[h5,h2];simp,fun e he=>(bW.1 he).elim (h3 e) (h6 e),h7⟩
  ·rename_i hs;have hs:(eh P head ab m).2=false:=by simpa using hs
   obtain⟨X,e,h5,h6,h7⟩:=h1.stop hs;exact⟨fun h=>DH,fun _=>⟨X,e,h5,h6,h7⟩⟩

def stops (ab:Nat)(m:Mo):Prop:=∃x r,m.now=x::r∧x.g.k=1∧ab≤m.done

theorem OD(P:List Cs)(head:Tm){f f':Nat}(hf:f≤f')(m:Mo):eh P head f m=eh P head f' m∨(stops f m∧eh P head f m=({ m with now:=m.now.tail,aD:=m.aD++[ko] },false)):=by
 by_cases hs:stops f m
 ·obtain ⟨x,r,hn,h1,hd⟩:=hs;refine .inr ⟨⟨x,r,hn,h1,hd⟩,?_⟩;unfold eh;rw[hn];simp only;rw[if_neg an,if_neg an,if_neg an,if_neg an,if_pos h1,if_pos hd];rfl
 ·left;unfold eh;cases hn:m.now with
  |nil=>rfl
  |cons x r =>
   simp only;by_cases h1:x.g.k=1
   ·have hd:¬ f≤m.done:=fun hd=>hs ⟨x,r,hn,h1,hd⟩
    have Qi:¬ f'≤m.done:=by omega
    simp only[if_neg hd,if_neg Qi]
   ·simp only[if_neg h1]

theorem FM(P:List Cs)(head:Tm){f f':Nat}(hf:f≤f'):∀ (n:Nat) (m m1:Mo) (n':Nat) (m2:Mo),oQ P head f n m=(m1,false)→oQ P head f' n' m=(m2,false)→m1.aD=m2.aD∨∃X Y,m1.aD=X++[ko]∧m2.aD=X++Y
 |0,m,m1,n',m2,h,_=>by rw[oQ]at h;cases h
 |n+1,m,m1,0,m2,_,h=>by rw[oQ]at h;cases h
 |n+1,m,m1,n'+1,m2,h,h'=>by
  have hg:=tw P head f' (n'+1) m;rw[h']at hg;rcases OD P head hf m with he |⟨_,he⟩
  ·rw [oQ,he] at h;rw[oQ]at h';split at h
   ·rename_i hs;rw[if_pos hs]at h';exact FM P head hf n _ m1 n' m2 h h'
   ·rename_i hs;rw[if_neg hs]at h'
    left;have e1:=congrArg Prod.fst h;have e2:=congrArg Prod.fst h';simp only at e1 e2;rw[← e1,← e2]
  ·right;rw[oQ,he,if_neg aC]at h;obtain⟨Y,e,h5,_,_⟩:=hg.stop rfl;refine⟨m.aD,Y++[e],?_,h5⟩;have e1:=congrArg Prod.fst h;simp only at e1;rw[← e1]
end aw

namespace aw
open Go

mutual
def CN:Gl→Nat
 | .mk k _ a b c=>(if k=0∨k=2 then 1 else 4)+gq a+gq b+gq c
def gq:List Gl→Nat
 |[]=>0
 |g::r=>CN g+gq r
end
theorem jP (g:Gl):CN g=(if g.k=0∨g.k=2 then 1 else 4)+gq g.a+gq g.b+gq g.c:=by cases g;rw[CN];rfl

theorem CO:∀ (l m:List Gl),gq (l++m)=gq l+gq m
 |[],m=>by rw[gq];simp
 |g::r,m=>by rw[jj,gq,gq,CO r m];omega
theorem gp:CN aM=1:=by rw[aM,CN];simp[gq]
theorem vF:CN dK=1:=by rw[dK,CN];simp[gq]

theorem Zi (l:List Gl)(sh to:Nat)(r:List Td):(bJ l sh to r).map (·.g)=l++r.map (·.g):=by
 simp[bJ,Function.comp_def]
end aw

namespace aw
open Go

structure Im where
 g:Gl
 sh:Nat
 id:Nat

structure Wo where
 left:Nat
 aD:List Ev
 ids:Nat
 over:Bool

inductive Dn (β:Type) where
 |bad (e:Int)
 |no
 |yes (b:β) (next:Nat) (tx:Bs)

structure Dt (β:Type) where
 uni:β→Tm→Tm→Option β
 oL:β→Nat→Tm→Dn β
 Dy:β→List Tm→Option (List Tm)
def cY (l:List Gl)(sh id:Nat)(r:List Im):List Im:=l.map (fun g=>⟨g,sh,id⟩)++r

def sj:Option Nat→Nat→Option Nat
 |none,b=>some b
 |some a,b=>if b<a then some b else some a
def oM (n id:Nat):Option Nat:=if n=id then none else some n
def Wo.see (w:Wo)(e:Ev):Wo:={ w with aD:=w.aD++[e] }
def Wo.stop (w:Wo)(e:Ev):Wo:={ w with aD:=w.aD++[e],over:=true }
def Wo.next (w:Wo):Wo:={ w with ids:=w.ids+1 }
def Wo.said (w:Wo)(tx:Bs):Wo:=if tx=[] then w else w.see (r9 tx)

inductive Jb where
 |run (l:List Im)
 |cls (cs:List Cs) (t:Tm) (id:Nat) (r:List Im)

inductive eO {β:Type} (D:Dt β) (P:List Cs) (head:List Tm):Jb→β→Nat→Wo→Option Nat→Wo→Prop
 |oN {b f w} (h:D.Dy b head=none):eO D P head (.run []) b f w none (w.stop (kJ 3))
 |Dy {b f w l} (h:D.Dy b head=some l):eO D P head (.run []) b f w none (w.see (nI l))
 |cut {x:Im} {r b f w n w'} (hk:x.g.k=0∨x.g.k=3) (h:eO D P head (.run r) b f w n w'):eO D P head (.run (x::r)) b f w (sj n x.id) w'
 |bad {x:Im} {r b f w e} (hk:x.g.k=2) (h:D.oL b f (dz x.sh x.g.t)=.bad e):eO D P head (.run (x::r)) b f w none (w.stop (kJ e))
 |no {x:Im} {r b f w} (hk:x.g.k=2) (h:D.oL b f (dz x.sh x.g.t)=.no):eO D P head (.run (x::r)) b f w none w
 |yes {x:Im} {r b f w b' f' tx n w'} (hk:x.g.k=2) (hd:D.oL b f (dz x.sh x.g.t)=.yes b' f' tx) (h:eO D P head (.run r) b' f' (w.said tx) n w'):eO D P head (.run (x::r)) b f w n w'
 |stop {x:Im} {r b f w} (hk:x.g.k=1) (h:w.left=0):eO D P head (.run (x::r)) b f w none (w.next.stop ko)
 |call {x:Im} {r b f w c n w'} (hk:x.g.k=1) (hl:w.left=c+1) (h:eO D P head (.cls P (dz x.sh x.g.t) (w.ids+1) r) b f { w.next with left:=c } n w'):eO D P head (.run (x::r)) b f w n w'
 |so {x:Im} {r b f w n w'} (hk:x.g.k=5) (h:eO D P head (.run (cY x.g.a x.sh (w.ids+1) [⟨aM,0,w.ids+1⟩,⟨dK,0,0⟩])) b f w.next n w') (hn:n.isSome=true∨w'.over=true):eO D P head (.run (x::r)) b f w none w'
 |AQ {x:Im} {r b f w w1 n w'} (hk:x.g.k=5) (h:eO D P head (.run (cY x.g.a x.sh (w.ids+1) [⟨aM,0,w.ids+1⟩,⟨dK,0,0⟩])) b f w.next none w1) (ho:w1.over=false) (h2:eO D P head (.run r) b f w1 n w'):eO D P head (.run (x::r)) b f w n w'
 |sq {x:Im} {r b f w n w'} (hk:x.g.k=4) (h:eO D P head (.run (cY x.g.a x.sh (w.ids+1) (⟨aM,0,w.ids+1⟩::cY x.g.b x.sh x.id r))) b f w.next n w') (ho:w'.over=true):eO D P head (.run (x::r)) b f w none w'
 |zg {x:Im} {r b f w n w'} (hk:x.g.k=4) (h:eO D P head (.run (cY x.g.a x.sh (w.ids+1) (⟨aM,0,w.ids+1⟩::cY x.g.b x.sh x.id r))) b f w.next (some n) w') (ho:w'.over=false):eO D P head (.run (x::r)) b f w (oM n (w.ids+1)) w'
 |MH {x:Im} {r b f w w1 n w'} (hk:x.g.k=4) (h:eO D P head (.run (cY x.g.a x.sh (w.ids+1) (⟨aM,0,w.ids+1⟩::cY x.g.b x.sh x.id r))) b f w.next none w1) (ho:w1.over=false) (h2:eO D P head (.run (cY x.g.c x.sh x.id r)) b f w1 n w'):eO D P head (.run (x::r)) b f w n w'
 |skip {x:Im} {r b f w n w'} (h0:x.g.k≠0) (h1:x.g.k≠1) (h2:x.g.k≠2) (h3:x.g.k≠3) (h4:x.g.k≠4) (h5:x.g.k≠5) (h:eO D P head (.run r) b f w n w'):eO D P head (.run (x::r)) b f w n w'
 |none {t id r b f w}:eO D P head (.cls [] t id r) b f w none w
 |other {c:Cs} {cs t id r b f w n w'} (hh:¬ (c.head.s=t.s∧c.head.l.length=t.l.length)) (h:eO D P head (.cls cs t id r) b f w n w'):eO D P head (.cls (c::cs) t id r) b f w n w'
 |fail {c:Cs} {cs t id r b f w n w'} (hh:c.head.s=t.s∧c.head.l.length=t.l.length) (hu:D.uni b t (dz f c.head)=none) (h:eO D P head (.cls cs t id r) b f w n w'):eO D P head (.cls (c::cs) t id r) b f w n w'
 |over {c:Cs} {cs t id r b f w b' n w'} (hh:c.head.s=t.s∧c.head.l.length=t.l.length) (hu:D.uni b t (dz f c.head)=some b') (h:eO D P head (.run (cY c.body f id r)) b' (f+c.vars.toNat) w n w') (ho:w'.over=true):eO D P head (.cls (c::cs) t id r) b f w none w'
 |aH {c:Cs} {cs t id r b f w b' n w'} (hh:c.head.s=t.s∧c.head.l.length=t.l.length) (hu:D.uni b t (dz f c.head)=some b') (h:eO D P head (.run (cY c.body f id r)) b' (f+c.vars.toNat) w (some n) w') (ho:w'.over=false):eO D P head (.cls (c::cs) t id r) b f w (oM n id) w'
 |more {c:Cs} {cs t id r b f w b' w1 n w'} (hh:c.head.s=t.s∧c.head.l.length=t.l.length) (hu:D.uni b t (dz f c.head)=some b') (h:eO D P head (.run (cY c.body f id r)) b' (f+c.vars.toNat) w none w1) (ho:w1.over=false) (h2:eO D P head (.cls cs t id r) b f w1 n w'):eO D P head (.cls (c::cs) t id r) b f w n w'

theorem eO.mono {β:Type}{D:Dt β}{P:List Cs}{head:List Tm}{j:Jb}{b:β}{f:Nat}{w:Wo}{n:Option Nat}{w':Wo}(h:eO D P head j b f w n w'):w'.left≤w.left∧w.ids≤w'.ids:=by
 induction h with
 |oN=>exact⟨ef _,ef _⟩
 |Dy=>exact⟨ef _,ef _⟩
 |cut _ _ ih=>exact ih
 |bad=>exact⟨ef _,ef _⟩
 |no=>exact⟨ef _,ef _⟩
 |yes _ _ _ ih=>simp only[Wo.said,Wo.see]at ih;split at ih<;>exact ih
 |stop=>exact⟨ef _,o9 _⟩
 |call _ hl _ ih=>simp only[Wo.next]at ih;omega
 |so _ _ _ ih=>simp only[Wo.next]at ih;omega
 |AQ _ _ _ _ ih zY=>simp only[Wo.next]at ih;omega
 |sq _ _ _ ih=>simp only[Wo.next]at ih;omega
 |zg _ _ _ ih=>simp only[Wo.next]at ih;omega
 |MH _ _ _ _ ih zY=>simp only[Wo.next]at ih;omega
 |skip _ _ _ _ _ _ _ ih=>exact ih
 |none=>exact⟨ef _,ef _⟩
 |other _ _ ih=>exact ih
 |fail _ _ _ ih=>exact ih
 |over _ _ _ _ ih=>exact ih
 |aH _ _ _ _ ih=>exact ih
 |more _ _ _ _ _ ih zY=>omega
def mi (l:List Im):Nat:=gq (l.map (·.g))
theorem aio (l:List Gl)(sh id:Nat)(r:List Im):(cY l sh id r).map (·.g)=l++r.map (·.g):=by simp[cY,Function.comp_def]
theorem dB (l:List Gl)(sh id:Nat)(r:List Im):mi (cY l sh id r)=gq l+mi r:=by unfold mi;rw[aio,CO]
theorem bF (x:Im)(r:List Im):mi (x::r)=CN x.g+mi r:=by simp only[mi,List.map_cons,gq]
theorem o6:mi []=0:=by simp[mi,gq]

theorem eO.total {β:Type}(D:Dt β)(P:List Cs)(head:List Tm):∀ (c s:Nat) (l:List Im) (b:β) (f:Nat) (w:Wo),w.left≤c→mi l≤s→∃n w',eO D P head (.run l) b f w n w':=by
 intro c;induction c with
 |zero =>
  intro s;induction s with
  |zero =>
   intro l b f w hc hs;cases l with
   |nil=>cases h:D.Dy b head with
    |none=>exact⟨_,_,.oN h⟩
    |some l=>exact⟨_,_,.Dy h⟩
   |cons x r=>rw[bF,jP]at hs;split at hs<;>omega
  |succ s ih =>
   intro l b f w hc hs;cases l with
   |nil=>cases h:D.Dy b head with
    |none=>exact⟨_,_,.oN h⟩
    |some l=>exact⟨_,_,.Dy h⟩
   |cons x r =>
    have hz:=jP x.g;rw[bF]at hs;have hr:mi r≤s:=by split at hz<;>omega
    by_cases h0:x.g.k=0∨x.g.k=3
    ·obtain ⟨n,w',h⟩:=ih r b f w hc hr;exact⟨_,_,.cut h0 h⟩
    by_cases h2:x.g.k=2
    ·cases h:D.oL b f (dz x.sh x.g.t) with
     |bad e=>exact⟨_,_,.bad h2 h⟩
     |no=>exact⟨_,_,.no h2 h⟩
     |yes b' f' tx =>
      exact akx
    rw[if_neg an]at hz;by_cases h4:x.g.k=4
    ·obtain ⟨n,w1,h⟩:=ih (cY x.g.a x.sh (w.ids+1) (⟨aM,0,w.ids+1⟩::cY x.g.b x.sh x.id r)) b f w.next hc aj7;cases ho:w1.over with
     |true=>exact⟨_,_,.sq h4 h ho⟩
     |false =>
      cases n with
      |some n=>exact⟨_,_,.zg h4 h ho⟩
      |none =>
       have hm:=h.mono;simp only[Wo.next]at hm;exact akw
    by_cases h5:x.g.k=5
    ·obtain ⟨n,w1,h⟩:=ih (cY x.g.a x.sh (w.ids+1) [⟨aM,0,w.ids+1⟩,⟨dK,0,0⟩]) b f w.next hc aj1;by_cases hn:n.isSome=true∨w1.over=true
     ·exact⟨_,_,.so h5 h hn⟩
     ·cases n with
      |some n=>simp at hn
      |none =>
       have ho:w1.over=false:=by simpa using hn
       have hm:=h.mono;simp only[Wo.next]at hm;exact akK
    by_cases h1:x.g.k=1
    ·exact⟨_,_,.stop h1 an⟩
    ·obtain ⟨n,w',h⟩:=ih r b f w hc hr;exact⟨_,_,.skip an h1 h2 an h4 h5 h⟩
 |succ c ihc =>
  have apA:∀ (cs:List Cs) (t:Tm) (id:Nat) (r:List Im) (b:β) (f:Nat) (w:Wo),w.left≤c→∃n w',eO D P head (.cls cs t id r) b f w n w':=by
   intro cs;induction cs with
   |nil=>intro t id r b f w _;exact⟨_,_,.none⟩
   |cons x cs ih =>
    intro t id r b f w hw;by_cases hh:x.head.s=t.s∧x.head.l.length=t.l.length
    ·cases hu:D.uni b t (dz f x.head) with
     |none =>
      obtain⟨n,w',h⟩:=ih t id r b f w hw;exact⟨_,_,.fail hh hu h⟩
     |some b' =>
      obtain⟨n,w1,h⟩:=ihc _ (cY x.body f id r) b' (f+x.vars.toNat) w hw cP;cases ho:w1.over with
      |true=>exact⟨_,_,.over hh hu h ho⟩
      |false =>
       cases n with
       |some n=>exact⟨_,_,.aH hh hu h ho⟩
       |none =>
        have hm:=h.mono;obtain⟨n,w',h'⟩:=ih t id r b f w1 an;exact⟨_,_,.more hh hu h ho h'⟩
    ·obtain ⟨n,w',h⟩:=ih t id r b f w hw;exact⟨_,_,.other hh h⟩
  intro s;induction s with
  |zero =>
   intro l b f w hc hs;cases l with
   |nil=>cases h:D.Dy b head with
    |none=>exact⟨_,_,.oN h⟩
    |some l=>exact⟨_,_,.Dy h⟩
   |cons x r=>rw[bF,jP]at hs;split at hs<;>omega
  |succ s ih =>
   intro l b f w hc hs;cases l with
   |nil=>cases h:D.Dy b head with
    |none=>exact⟨_,_,.oN h⟩
    |some l=>exact⟨_,_,.Dy h⟩
   |cons x r =>
    have hz:=jP x.g;rw[bF]at hs;have hr:mi r≤s:=by split at hz<;>omega
    by_cases h0:x.g.k=0∨x.g.k=3
    ·obtain ⟨n,w',h⟩:=ih r b f w hc hr;exact⟨_,_,.cut h0 h⟩
    by_cases h2:x.g.k=2
    ·cases h:D.oL b f (dz x.sh x.g.t) with
     |bad e=>exact⟨_,_,.bad h2 h⟩
     |no=>exact⟨_,_,.no h2 h⟩
     |yes b' f' tx =>
      exact akx
    rw[if_neg an]at hz;by_cases h4:x.g.k=4
    ·obtain ⟨n,w1,h⟩:=ih (cY x.g.a x.sh (w.ids+1) (⟨aM,0,w.ids+1⟩::cY x.g.b x.sh x.id r)) b f w.next hc aj7;cases ho:w1.over with
     |true=>exact⟨_,_,.sq h4 h ho⟩
     |false =>
      cases n with
      |some n=>exact⟨_,_,.zg h4 h ho⟩
      |none =>
       have hm:=h.mono;simp only[Wo.next]at hm;exact akw
    by_cases h5:x.g.k=5
    ·obtain ⟨n,w1,h⟩:=ih (cY x.g.a x.sh (w.ids+1) [⟨aM,0,w.ids+1⟩,⟨dK,0,0⟩]) b f w.next hc aj1;by_cases hn:n.isSome=true∨w1.over=true
     ·exact⟨_,_,.so h5 h hn⟩
     ·cases n with
      |some n=>simp at hn
      |none =>
       have ho:w1.over=false:=by simpa using hn
       have hm:=h.mono;simp only[Wo.next]at hm;exact akK
    by_cases h1:x.g.k=1
    ·by_cases hl:w.left=0
     ·exact⟨_,_,.stop h1 hl⟩
     ·obtain ⟨k,hk⟩:∃ k,w.left=k+1:=⟨w.left - 1,by omega⟩;obtain⟨n,w',h⟩:=apA P (dz x.sh x.g.t) (w.ids+1) r b f { w.next with left:=k } ka;exact⟨_,_,.call h1 hk h⟩
    ·obtain ⟨n,w',h⟩:=ih r b f w hc hr;exact⟨_,_,.skip an h1 h2 an h4 h5 h⟩

theorem eO.oV {β:Type}{D:Dt β}{P:List Cs}{head:List Tm}{bs Dm K:Nat}(hP:∀c∈P,gq c.body≤bs)(hK:P.length * (Dm+1)≤K){j:Jb}{b:β}{f:Nat}{w:Wo}{n:Option Nat}{w':Wo}(h:eO D P head j b f w n w') :
  match (generalizing:=false) j with
  | .run l=>mi l+w.left * bs≤Dm→w'.aD.length+w'.left * K≤w.aD.length+1+mi l+w.left * K∧∀ (X:List Im) (y:Im) (Y:List Im),l=X++y::Y→(y.g.k=0∨y.g.k=3)→y.id≤w.ids→w'.over=false→(∀m,n=some m→y.id<m)→w'.aD.length+w'.left * K≤w.aD.length+mi X+w.left * K
  | .cls cs _ _ r=>(∀c∈cs,c∈P)→mi r+(w.left+1) * bs≤Dm→w'.aD.length+w'.left * K≤w.aD.length+cs.length * (Dm+1)+w.left * K:=by
 induction h with
 |oN =>
  intro _;refine⟨by simp only[Wo.stop,List.length_append,dv,lM];omega,fun X y Y he=>?_⟩;simp at he
 |Dy =>
  intro _;refine⟨by simp only[Wo.see,List.length_append,dv,lM];omega,fun X y Y he=>?_⟩;simp at he
 |@cut x r b f w n w' hk h ih =>
  intro hD;have hc:=bF x r;have h1:=ih an;refine⟨by omega,fun X y Y he hy hi ho hn=>?_⟩;cases X with
  |nil =>
   simp only[o8,List.cons.injEq]at he;obtain⟨rfl,_⟩:=he;exfalso;cases n with
   |none=>have:=hn x.id rfl;omega
   |some a =>
    simp only[sj]at hn;split at hn
    ·have:=hn x.id rfl;omega
    ·have:=hn a rfl;omega
  |cons z X =>
   simp only[jj,List.cons.injEq]at he;obtain⟨rfl,he⟩:=he
   have:=h1.2 X y Y he hy hi ho fun m hm=>by
    subst hm;simp only[sj]at hn;split at hn
    ·have:=hn x.id rfl;omega
    ·exact hn m rfl
   rw[bF];omega
 |@bad x r b f w e hk h =>
  intro hD;refine⟨by simp only[Wo.stop,List.length_append,dv,lM];omega,fun X y Y he hy hi ho hn=>?_⟩;simp[Wo.stop]at ho
 |@no x r b f w hk h =>
  intro hD;exact⟨by omega,fun X y Y he hy hi ho hn=>by omega⟩
 |@yes x r b f w b' f' tx n w' hk hd h ih =>
  intro hD;have hc:=bF x r;have hg:=jP x.g;rw[if_pos (.inr hk)]at hg
  have hs:(w.said tx).aD.length≤w.aD.length+1∧(w.said tx).left=w.left∧(w.said tx).ids=w.ids:=by
   unfold Wo.said Wo.see;split<;>simp
  have h1:=ih (by rw[hs.2.1];omega);rw[hs.2.1]at h1;refine⟨by omega,fun X y Y he hy hi ho hn=>?_⟩;cases X with
  |nil =>
   simp only[o8,List.cons.injEq]at he;obtain⟨rfl,_⟩:=he;omega
  |cons z X =>
   simp only[jj,List.cons.injEq]at he;obtain⟨rfl,he⟩:=he;have:=h1.2 X y Y he hy an ho hn;rw[bF];omega
 |@stop x r b f w hk h =>
  intro hD;refine⟨by simp only[Wo.stop,Wo.next,List.length_append,dv,lM];omega,fun X y Y he hy hi ho hn=>?_⟩;simp[Wo.stop]at ho
 |@call x r b f w c n w' hk hl h ih =>
  intro hD;have hc:=bF x r;have h1:=ih (fun _ h=>h) (by simp only;rw[hl]at hD;omega);simp only[Wo.next]at h1;have hm:w.left * K=c * K+K:=by rw[hl,uF]
  refine⟨by omega,fun X y Y he hy hi ho hn=>by omega⟩
 |@so x r b f w n w' hk h hn ih =>
  intro hD;have hc:=bF x r;have hg:=jP x.g;rw[if_neg an]at hg;have hz:mi (cY x.g.a x.sh (w.ids+1) [⟨aM,0,w.ids+1⟩,⟨dK,0,0⟩])=gq x.g.a+2:=by rw[dB,bF,bF,gp,vF,o6]
  have h1:=ih VU;rw[hz]at h1;simp only[Wo.next]at h1;refine⟨by omega,fun X y Y he hy hi ho hn=>?_⟩;cases X with
  |nil =>
   simp only[o8,List.cons.injEq]at he;obtain⟨rfl,_⟩:=he;omega
  |cons z X =>
   simp only[jj,List.cons.injEq]at he;obtain⟨rfl,he⟩:=he;rw[bF];omega
 |@AQ x r b f w w1 n w' hk h nQ h2 ih zY =>
  intro hD;have hc:=bF x r;have hg:=jP x.g;rw[if_neg an]at hg;have hz:mi (cY x.g.a x.sh (w.ids+1) [⟨aM,0,w.ids+1⟩,⟨dK,0,0⟩])=gq x.g.a+2:=by rw[dB,bF,bF,gp,vF,o6]
  have h1:=(ih VU).2 (cY x.g.a x.sh (w.ids+1) []) ⟨aM,0,w.ids+1⟩ [⟨dK,0,0⟩] (by simp[cY]) (.inl rfl) cP nQ aC;rw[dB,o6]at h1;have hm:=h.mono;simp only[Wo.next]at h1 hm;have hmb:w1.left * bs≤w.left * bs:=o7 _ hm.1;have h3:=zY an;refine⟨by omega,fun X y Y he hy hi ho hn=>?_⟩;cases X with
  |nil =>
   simp only[o8,List.cons.injEq]at he;obtain⟨rfl,_⟩:=he;omega
  |cons z X =>
   simp only[jj,List.cons.injEq]at he;obtain⟨rfl,he⟩:=he;have:=h3.2 X y Y he hy an ho hn;rw[bF];omega
 |@sq x r b f w n w' hk h ho ih =>
  intro hD;have hc:=bF x r;have hg:=jP x.g;rw[if_neg an]at hg;have hz:mi (cY x.g.a x.sh (w.ids+1) (⟨aM,0,w.ids+1⟩::cY x.g.b x.sh x.id r))=gq x.g.a+(1+(gq x.g.b+mi r)):=by rw[dB,bF,dB,gp]
  have h1:=ih VU;rw[hz]at h1;simp only[Wo.next]at h1;refine⟨by omega,fun X y Y he hy hi rM hn=>?_⟩;rw[ho]at rM;cases rM
 |@zg x r b f w n w' hk h ho ih =>
  intro hD;have hc:=bF x r;have hg:=jP x.g;rw[if_neg an]at hg;have hz:mi (cY x.g.a x.sh (w.ids+1) (⟨aM,0,w.ids+1⟩::cY x.g.b x.sh x.id r))=gq x.g.a+(1+(gq x.g.b+mi r)):=by rw[dB,bF,dB,gp]
  have h1:=ih VU;rw[hz]at h1;simp only[Wo.next]at h1;refine⟨by omega,fun X y Y he hy hi rM hn=>?_⟩;cases X with
  |nil =>
   simp only[o8,List.cons.injEq]at he;obtain⟨rfl,_⟩:=he;omega
  |cons z X =>
   simp only[jj,List.cons.injEq]at he;obtain⟨rfl,he⟩:=he
   have:=h1.2 (cY x.g.a x.sh (w.ids+1) (⟨aM,0,w.ids+1⟩::cY x.g.b x.sh x.id X)) y Y (by rw[he];simp[cY]) hy an ho fun m hm=>by
    cases hm;simp only[oM]at hn;split at hn
    ·omega
    ·exact hn _ rfl
   rw[dB,bF,dB,gp]at this;rw[bF];omega
 |@MH x r b f w w1 n w' hk h nQ h2 ih zY =>
  intro hD;have hc:=bF x r;have hg:=jP x.g;rw[if_neg an]at hg;have hz:mi (cY x.g.a x.sh (w.ids+1) (⟨aM,0,w.ids+1⟩::cY x.g.b x.sh x.id r))=gq x.g.a+(1+(gq x.g.b+mi r)):=by rw[dB,bF,dB,gp]
  have h1:=(ih VU).2 (cY x.g.a x.sh (w.ids+1) []) ⟨aM,0,w.ids+1⟩ (cY x.g.b x.sh x.id r) (by simp[cY]) (.inl rfl) cP nQ aC;rw[dB,o6]at h1;have hm:=h.mono;simp only[Wo.next]at h1 hm;have hmb:w1.left * bs≤w.left * bs:=o7 _ hm.1;have U8:=dB x.g.c x.sh x.id r;have h3:=zY an;refine⟨by omega,fun X y Y he hy hi ho hn=>?_⟩;cases X with
  |nil =>
   simp only[o8,List.cons.injEq]at he;obtain⟨rfl,he⟩:=he;omega
  |cons z X =>
   simp only[jj,List.cons.injEq]at he;obtain⟨rfl,he⟩:=he;have:=h3.2 (cY x.g.c x.sh x.id X) y Y (by rw[he];simp[cY]) hy an ho hn;rw[dB]at this;rw[bF];omega
 |@skip x r b f w n w' h0 h1 h2 h3 h4 h5 h ih =>
  intro hD;have hc:=bF x r;have h1:=ih an;refine⟨by omega,fun X y Y he hy hi ho hn=>?_⟩;cases X with
  |nil =>
   simp only[o8,List.cons.injEq]at he;obtain⟨rfl,he⟩:=he;omega
  |cons z X =>
   simp only[jj,List.cons.injEq]at he;obtain⟨rfl,he⟩:=he;have:=h1.2 X y Y he hy hi ho hn;rw[bF];omega
 |none=>intro _ _;omega
 |other _ _ ih =>
  intro hc hD;have:=ih (fun c h=>hc c (by simp[h])) hD;simp only[dv,uF];omega
 |fail _ _ _ ih =>
  intro hc hD;have:=ih (fun c h=>hc c (by simp[h])) hD;simp only[dv,uF];omega
 |@over c cs t id r b f w b' n w' hh hu h ho ih =>
  intro hc hD;have h1:=hP c (hc c aC);have hz:=dB c.body f id r;rw[uF]at hD;have:=(ih an).1;simp only[dv,uF];omega
 |@aH c cs t id r b f w b' n w' hh hu h ho ih =>
  intro hc hD;have h1:=hP c (hc c aC);have hz:=dB c.body f id r;rw[uF]at hD;have:=(ih an).1;simp only[dv,uF];omega
 |@more c cs t id r b f w b' w1 n w' hh hu h ho h2 ih zY =>
  intro hc hD;have h1:=hP c (hc c aC);have hz:=dB c.body f id r;have hm:=h.mono;have hmb:(w1.left+1) * bs≤(w.left+1) * bs:=o7 _ an;have h4:=zY (fun c h=>hc c (by simp[h])) an;rw[uF]at hD;have:=(ih an).1;simp only[dv,uF];omega

theorem eO.ids {β:Type}{D:Dt β}{P:List Cs}{head:List Tm}{j:Jb}{b:β}{f:Nat}{w:Wo}{n:Option Nat}{w':Wo}(h:eO D P head j b f w n w') :
  match (generalizing:=false) j with
  | .run l=>∀m,n=some m→∃x∈l,x.id=m∧x.g.k≠2
  | .cls _ _ _ r=>∀m,n=some m→∃x∈r,x.id=m∧x.g.k≠2:=by
 have hb:∀ {a i m:Nat},oM a i=some m→a=m∧m≠i:=fun {a i m} h=>by
  unfold oM at h;split at h
  ·cases h
  ·cases h;exact⟨rfl,by assumption⟩
 have him:∀ {l:List Gl} {sh id m:Nat} {r:List Im},(∃x∈cY l sh id r,x.id=m∧x.g.k≠2)→m=id∨∃x∈r,x.id=m∧x.g.k≠2:=fun {l sh id m r} h=>by
  obtain⟨x,hx,he⟩:=h;rcases bW.1 hx with hx |hx
  ·obtain⟨g,_,rfl⟩:=fA.1 hx;exact .inl he.1.symm
  ·exact .inr ⟨x,hx,he⟩
 induction h with
 |oN=>intro m h;cases h
 |Dy=>intro m h;cases h
 |@cut x r b f w n w' hk h ih =>
  intro m hm;cases n with
  |none=>simp only[sj,Option.some.injEq]at hm;exact⟨x,by simp,hm,by omega⟩
  |some a =>
   simp only[sj]at hm;split at hm
   ·cases hm;exact⟨x,by simp,rfl,by omega⟩
   ·obtain⟨y,hy,he⟩:=ih m hm;exact⟨y,by simp[hy],he⟩
 |bad=>intro m h;cases h
 |no=>intro m h;cases h
 |yes _ _ _ ih=>intro m hm;obtain⟨y,hy,he⟩:=ih m hm;exact⟨y,by simp[hy],he⟩
 |stop=>intro m h;cases h
 |call _ _ _ ih=>intro m hm;obtain⟨y,hy,he⟩:=ih m hm;exact⟨y,by simp[hy],he⟩
 |so=>intro m h;cases h
 |AQ _ _ _ _ _ ih=>intro m hm;obtain⟨y,hy,he⟩:=ih m hm;exact⟨y,by simp[hy],he⟩
 |sq=>intro m h;cases h
 |@zg x r b f w n w' hk h ho ih =>
  intro m hm;obtain⟨rfl,eo⟩:=hb hm;rcases him (ih n rfl) with he |⟨y,hy,he⟩
  ·exact absurd he eo
  ·rcases eL.1 hy with rfl | hy
   ·exact absurd he.1.symm eo
   ·rcases him ⟨y,hy,he⟩ with he | ⟨y,hy,he⟩
    ·exact⟨x,by simp,he.symm,by omega⟩
    ·exact⟨y,by simp[hy],he⟩
 |@MH x r b f w w1 n w' hk h ho h2 ih zY =>
  intro m hm;rcases him (zY m hm) with he |⟨y,hy,he⟩
  ·exact⟨x,by simp,he.symm,by omega⟩
  ·exact⟨y,by simp[hy],he⟩
 |skip _ _ _ _ _ _ _ ih=>intro m hm;obtain⟨y,hy,he⟩:=ih m hm;exact⟨y,by simp[hy],he⟩
 |none=>intro m h;cases h
 |other _ _ ih=>exact ih
 |fail _ _ _ ih=>exact ih
 |over=>intro m h;cases h
 |aH hh hu h ho ih =>
  intro m hm;obtain⟨rfl,eo⟩:=hb hm;rcases him (ih _ rfl) with he |h
  ·exact absurd he eo
  ·exact h
 |more _ _ _ _ _ _ ih=>exact ih
end aw

namespace aw
open Go

variable{hh:Nat→Nat}{tl f' id f:Nat}{r l:List Im}{nw:List Td}
noncomputable def Am:Dt ak where
 uni:=sd
 oL b f t :=
  if t.l.any (fun x=>(eH b x).2≠0) then .bad 3
  else
   let a:=dR t.s (t.l.map fun x=>(eH b x).1) f
   if a.e≠0 then .bad a.e
   else if a.h=false then .no
   else if a.ap then (match fP b a.al with
    |some _=>.no
    |none=>.yes b f [])
   else match fP b a.al with
    |none=>.no
    |some b'=>.yes b' a.nx.toNat a.tx
 Dy b l:=if l.any (fun x=>(eH b x).2≠0) then none else some (dH (l.map fun x=>(eH b x).1)).1

theorem wW(P:List Cs)(m:Mo)(t:Tm):oo P m t=match Am.oL m.B m.az t with
  | .bad e=>({ m with aD:=m.aD++[kJ e] },false)
  | .no=>ep P m
  | .yes b f tx=>({ m with B:=b,az:=f,aD:=if tx=[] then m.aD else m.aD++[r9 tx] },true):=by
 unfold oo Am;simp only;split
 ·rfl
 ·generalize dR t.s (t.l.map fun x=>(eH m.B x).1) m.az=a;split
  ·rfl
  ·split
   ·rfl
   ·split
    ·cases fP m.B a.al with
     |none=>simp
     |some _=>rfl
    grind

theorem CP(P:List Cs)(head:Tm)(m:Mo):jf P head m=match Am.Dy m.B head.l with
  |none=>({ m with aD:=m.aD++[kJ 3] },false)
  |some l=>ep P { m with aD:=m.aD++[nI l] }:=by
 unfold jf Am
 grind

theorem tz{B B':ak}{a b:Tm}(h:sd B a b=some B'):∃X,B'=B++X:=by
 unfold sd at h;split at h
 ·rename_i hx;cases h;obtain⟨n,hr⟩:=Classical.choose_spec hx
  have key:∀ {sw:Bool} {n:Nat} {T:List (Tm × Tm)} {B B':ak} {cD:List (Int × Int)} {ok:Bool},Tm.mH sw n T B cD B' ok→∃X,B'=B++X:=fun {sw n T B B' cD ok} h=>by
   induction h with
   |done=>simp_all
   |skip _ _ ih=>exact ih
   |same _ _ _ ih=>exact ih
   |cz=>simp_all
   |bind _ _ _ _ _ _ ih=>grind
   |kI=>simp_all
   |args _ _ _ _ _ ih=>exact ih
  exact key hr
 ·cases h

theorem qG:∀ {l:List Tm} {B B':ak},fP B l=some B'→∃X,B'=B++X
 |[],B,B',h=>by simp only[fP]at h;simp_all
 |[_],B,B',h=>by simp only[fP]at h;simp_all
 |a::b::r,B,B',h=>by
  rw[fP]at h;cases hu:sd B a b with
  |none=>simp_all
  |some C =>
   rw[hu]at h;obtain⟨X,rfl⟩:=tz hu;obtain⟨Y,rfl⟩:=qG h
   simp_all

theorem UH{b b':ak}{t:Tm}{tx:Bs}(h:Am.oL b f t=.yes b' f' tx):∃X,b'=b++X:=by
 unfold Am at h;simp only at h;split at h
 ·cases h
 ·generalize dR t.s (t.l.map fun x=>(eH b x).1) f=a at h;split at h
  ·cases h
  ·split at h
   ·cases h
   ·split at h
    ·cases hu:fP b a.al with
     |none=>simp_all
     |some _=>simp_all
    ·cases hu:fP b a.al with
     |none=>simp_all
     |some _=>rw[hu]at h;cases h;exact qG hu

theorem sr(t:Tr){m1 m2:Mo}(hB:m1.B=m2.B)(hf:m1.az=m2.az)(ht:m1.ag=m2.ag)(hd:m1.done=m2.done)(hs:m1.aD=m2.aD):∀ (l:List Cs) (i:Nat),je m1 t i l=je m2 t i l
 |[],_=>rfl
 |c::r,i=>by
  rw[je,je,hB,hf,ht,sr t hB hf ht hd hs r (i+1),hd,hs]

structure EqB (r1 r2:Mo × Bool):Prop where
 b:r1.2=r2.2
 s:r1.1.aD=r2.1.aD
 m:r1.2=true→r1.1=r2.1

theorem FN(P:List Cs):∀ (n:Nat) {m1 m2:Mo},m1.ag=m2.ag→m1.aD=m2.aD→m1.done=m2.done→(∀t∈m1.ag,m1.B.take t.mark=m2.B.take t.mark)→EqB (jh P n m1) (jh P n m2)
 |0,m1,m2,_,hs,_,_=>⟨rfl,by rw[jh,jh,hs],fun h=>by rw[jh]at h;cases h⟩
 |n+1,m1,m2,ht,hs,hd,hB=>by
  rw[jh,jh,← ht];cases hl:m1.ag.getLast? with
  |none=>exact⟨rfl,by simp only[hs],fun h=>by cases h⟩
  |some t =>
   have hm:t∈m1.ag:=List.mem_of_getLast? hl;simp only;rw[hB t hm,hs,hd];split
   ·exact⟨rfl,rfl,fun _=>rfl⟩
   ·rw [sr t (m1:={ m1 with ag:=m1.ag.dropLast,B:=m2.B.take t.mark,az:=t.az,aD:=m2.aD,done:=m2.done }) (m2:={ m2 with ag:=m1.ag.dropLast,B:=m2.B.take t.mark,az:=t.az }) rfl rfl rfl rfl rfl];cases je { m2 with ag:=m1.ag.dropLast,B:=m2.B.take t.mark,az:=t.az } t t.oW (P.drop t.oW) with
    |some m'=>exact⟨rfl,rfl,fun _=>rfl⟩
    |none=>exact FN P n rfl rfl rfl fun _ _=>rfl
def k7 (P:List Cs)(head:Tm)(ab:Nat)(m:Mo)(s:List Ev):Prop:=∃n m',oQ P head ab n m=(m',false)∧m'.aD=s
def mv (P:List Cs)(head:Tm)(ab:Nat)(m:Mo)(s:List Ev):Prop:=((ep P m).2=false∧(ep P m).1.aD=s)∨((ep P m).2=true∧k7 P head ab (ep P m).1 s)
section
variable {P:List Cs} {head:Tm} {ab:Nat} {s:List Ev}

theorem mv.irr{m1 m2:Mo}(ht:m1.ag=m2.ag)(hs:m1.aD=m2.aD)(hd:m1.done=m2.done)(hB:∀t∈m1.ag,m1.B.take t.mark=m2.B.take t.mark)(h:mv P head ab m1 s):mv P head ab m2 s:=by
 have he:EqB (ep P m1) (ep P m2):=by unfold ep;rw[← ht];exact FN P _ ht hs hd hB
 rcases h with ⟨h1,h2⟩ |⟨h1,h2⟩
 ·exact .inl ⟨by rw[← he.b,h1],by rw[← he.s,h2]⟩
 ·exact .inr ⟨by rw[← he.b,h1],by rw[← he.m h1];exact h2⟩
theorem mv.to{T:List Tr}{B B':ak}{nw nw':List Td}{d:Nat}{sn:List Ev}(hB:∀t∈T,B.take t.mark=B'.take t.mark)(h:mv P head ab ⟨B,f,T,nw,d,sn⟩ s):mv P head ab ⟨B',f',T,nw',d,sn⟩ s:=mv.irr (m1:=⟨B,f,T,nw,d,sn⟩) rfl rfl rfl hB h

theorem k7.step{m m':Mo}(h:eh P head ab m=(m',true))(h2:k7 P head ab m' s):k7 P head ab m s:=by
 obtain⟨n,m2,hr,hs⟩:=h2;exact⟨n+1,m2,by rw[oQ,h];exact hr,hs⟩
theorem k7.stop{m m':Mo}(h:eh P head ab m=(m',false))(h2:m'.aD=s):k7 P head ab m s:=⟨1,m',by rw[oQ,h];rfl,h2⟩

theorem k7.back{m m':Mo}(h:eh P head ab m=ep P m')(h2:mv P head ab m' s):k7 P head ab m s:=by
 rcases h2 with ⟨h1,h2⟩ |⟨h1,h2⟩
 ·exact .stop (h.trans (Prod.ext rfl h1)) h2
 ·exact .step (h.trans (Prod.ext rfl h1)) h2

theorem k7.fun{m:Mo}{s':List Ev}(h:k7 P head ab m s)(h':k7 P head ab m s'):s=s':=by
 obtain⟨n,m1,hr,rfl⟩:=h;obtain⟨n',m1',Dv,rfl⟩:=h'
 have key:∀ (n n':Nat) (m:Mo),oQ P head ab n m=(m1,false)→oQ P head ab n' m=(m1',false)→m1=m1':=fun n=>by
  induction n with
  |zero=>intro n' m h _;rw[oQ]at h;cases h
  |succ n ih =>
   intro n' m h h';cases n' with
   |zero=>rw[oQ]at h';cases h'
   |succ n' =>
    rw[oQ]at h h';split at h
    ·rename_i hs;rw[if_pos hs]at h';exact ih n' _ h h'
    ·rename_i hs;rw[if_neg hs]at h';rw[h]at h';cases h';rfl
 grind
end
def uo (hh:Nat→Nat)(x:Im):Td:=⟨x.g,x.sh,hh x.id⟩

def rj (hh:Nat→Nat) (T:List Tr):Option Nat→List Tr
 |none=>T
 |some n=>T.take (hh n)

structure ix (hh:Nat→Nat) (l:List Im) (ids tl:Nat):Prop where
 le:∀x∈l,x.id≤ids
 ht:∀x∈l,hh x.id≤tl
 pw:l.Pairwise fun x y=>y.id≤x.id∧hh y.id≤hh x.id
 z:hh 0=0
theorem ix.tail{x:Im}{ids tl:Nat}(h:ix hh (x::r) ids tl):ix hh r ids tl:=⟨fun y hy=>h.le y kb,fun y hy=>h.ht y kb,(xz.1 h.pw).2,h.z⟩
theorem ix.ids{ids amI tl tl':Nat}(h:ix hh l ids tl)(h1:ids≤amI)(h2:tl≤tl'):ix hh l amI tl':=⟨fun y hy=>tP (h.le y hy) h1,fun y hy=>tP (h.ht y hy) h2,h.pw,h.z⟩
def gW (hh:Nat→Nat)(id tl:Nat):Nat→Nat:=fun n=>if n=id then tl else hh n

theorem ix.new{ids tl tl' id:Nat}(h:ix hh l ids tl)(hi:∀x∈l,x.id<id)(h0:0<id):ix (gW hh id tl') l ids tl:=by
 have e:∀x∈l,gW hh id tl' x.id=hh x.id:=fun x hx=>if_neg q5
 refine⟨h.le,fun x hx=>by rw[e x hx];exact h.ht x hx,h.pw.imp_of_mem fun hx hy hxy=>by simp_all,?_⟩;unfold gW;rw[if_neg an];exact h.z

theorem ix.UI{l:List Gl}{sh id:Nat}{ids tl:Nat}(h:ix hh r ids tl)(hi:id≤ids)(ht:hh id≤tl)(hr:∀x∈r,x.id≤id∧hh x.id≤hh id):ix hh (cY l sh id r) ids tl:=by
 refine⟨fun x hx=>?_,fun x hx=>?_,?_,h.z⟩
 ·rcases bW.1 hx with hx | hx
  ·obtain⟨g,_,rfl⟩:=fA.1 hx;exact hi
  grind
 ·rcases bW.1 hx with hx | hx
  ·obtain⟨g,_,rfl⟩:=fA.1 hx;exact ht
  grind
 ·refine kS.2 ⟨?_,h.pw,fun x hx y hy=>?_⟩
  ·rw [List.pairwise_map];exact List.pairwise_of_forall fun _ _=>⟨ef _,ef _⟩
  grind

theorem ix.cons{x:Im}{ids tl:Nat}(h:ix hh r ids tl)(hi:x.id≤ids)(ht:hh x.id≤tl)(hr:∀y∈r,y.id≤x.id∧hh y.id≤hh x.id):ix hh (x::r) ids tl :=
 ⟨fun y hy=>(eL.1 hy).elim (fun e=>e ▸ hi) (h.le y),fun y hy=>(eL.1 hy).elim (fun e=>e ▸ ht) (h.ht y),xz.2 ⟨hr,h.pw⟩,h.z⟩

theorem jg(hh:Nat→Nat)(l:List Gl)(sh id:Nat)(r:List Im):(cY l sh id r).map (uo hh)=bJ l sh (hh id) (r.map (uo hh)):=by
 simp[cY,bJ,uo,Function.comp_def]

theorem tA(h:∀x∈l,x.id<id):l.map (uo (gW hh id tl))=l.map (uo hh):=by
 refine Gg fun x hx=>?_
 have:=h x hx;simp only[uo,gW];grind
theorem dX(hh:Nat→Nat)(id tl:Nat):gW hh id tl id=tl:=if_pos rfl
theorem fo{id tl n:Nat}(h:n≠id):gW hh id tl n=hh n:=if_neg h

theorem Zj(hh:Nat→Nat)(T:List Tr)(n:Option Nat):∀t∈rj hh T n,t∈T:=fun t ht=>by
 cases n with
 |none=>exact ht
 |some n=>exact Wd ht

theorem CQ{T:List Tr}{t:Tr}{id n:Nat}(hn:n≠id→hh n≤T.length):rj (gW hh id T.length) (T++[t]) (some n)=rj hh T (oM n id):=by
 unfold oM;by_cases h:n=id
 ·rw[if_pos h,h];simp[rj,dX]
 ·rw [if_neg h];simp only[rj,fo h]
  grind
section
variable {P:List Cs} {head:Tm} {ab:Nat} {x:Td} {r:List Td} {B:ak} {f d:Nat} {T:List Tr} {sn:List Ev}

theorem FO(hk:x.g.k=0∨x.g.k=3):eh P head ab ⟨B,f,T,x::r,d,sn⟩=(⟨B,f,T.take x.to,r,d,sn⟩,true):=by
 simp only[eh];rw[if_pos hk]

theorem qH(hk:x.g.k=2):eh P head ab ⟨B,f,T,x::r,d,sn⟩=oo P ⟨B,f,T,r,d,sn⟩ (dz x.sh x.g.t):=by
 simp only[eh];simp_all

theorem wX(hk:x.g.k=4):eh P head ab ⟨B,f,T,x::r,d,sn⟩=(⟨B,f,T++[⟨B.length,f,aJ,0,bJ x.g.c x.sh x.to r,true⟩],bJ x.g.a x.sh T.length (⟨aM,0,T.length⟩::bJ x.g.b x.sh x.to r),d,sn⟩,true):=by
 simp only[eh];rw[if_neg an,if_neg an,if_pos hk];rfl

theorem yv(hk:x.g.k=5):eh P head ab ⟨B,f,T,x::r,d,sn⟩=(⟨B,f,T++[⟨B.length,f,aJ,0,r,true⟩],bJ x.g.a x.sh T.length (⟨aM,0,T.length⟩::bJ [dK] 0 0 []),d,sn⟩,true):=by
 simp only[eh];rw[if_neg an,if_neg an,if_neg an,if_pos hk];rfl

theorem CR(hk:x.g.k=1)(hd:ab≤d):eh P head ab ⟨B,f,T,x::r,d,sn⟩=(⟨B,f,T,r,d,sn++[ko]⟩,false):=by
 simp only[eh];simp_all

theorem CS(hk:x.g.k=1)(hd:¬ ab≤d):eh P head ab ⟨B,f,T,x::r,d,sn⟩=match je ⟨B,f,T,[],d+1,sn⟩ ⟨B.length,f,dz x.sh x.g.t,0,r,false⟩ 0 P with
  |some m'=>(m',true)
  |none=>ep P ⟨B,f,T,r,d+1,sn⟩:=by
 simp only[eh];rw[if_neg an,if_neg an,if_neg an,if_neg an,if_pos hk,if_neg hd];rw[sr _ (m1:=⟨B,f,T,r,d+1,sn⟩) (m2:=⟨B,f,T,[],d+1,sn⟩) rfl rfl rfl rfl rfl];rfl

theorem CT(h0:x.g.k≠0)(h1:x.g.k≠1)(h2:x.g.k≠2)(h3:x.g.k≠3)(h4:x.g.k≠4)(h5:x.g.k≠5):eh P head ab ⟨B,f,T,x::r,d,sn⟩=(⟨B,f,T,r,d,sn⟩,true):=by
 simp only[eh];simp_all

theorem mI{c:Tm}{k:Nat}:ep P ⟨B,f',T++[⟨B.length,f,c,k,r,true⟩],nw,d,sn⟩=(⟨B,f,T,r,d,sn⟩,true):=by
 unfold ep;simp only[List.length_append,dv,lM];rw[jh];simp

theorem OE{X:ak}{c:Tm}{k:Nat}:ep P ⟨B++X,f',T++[⟨B.length,f,c,k,r,false⟩],nw,d,sn⟩=match je ⟨B,f,T,[],d,sn⟩ ⟨B.length,f,c,k,r,false⟩ k (P.drop k) with
  |some m'=>(m',true)
  |none=>ep P ⟨B,f,T,nw,d,sn⟩:=by
 unfold ep;simp only[List.length_append,dv,lM];rw[jh];simp only[List.getLast?_append,List.getLast?_singleton,Option.or_some,Option.some_or,List.dropLast_concat,List.take_left',lL,if_false];rw[sr _ (m1:=⟨B,f,T,nw,d,sn⟩) (m2:=⟨B,f,T,[],d,sn⟩) rfl rfl rfl rfl rfl];rfl
end
theorem acI(w:Wo)(tx:Bs):w.said tx=⟨w.left,if tx=[] then w.aD else w.aD++[r9 tx],w.ids,w.over⟩:=by unfold Wo.said Wo.see;split<;>rfl

theorem ctl{P:List Cs}{head:Tm}{ab:Nat}{j:Jb}{B:ak}{w:Wo}{n:Option Nat}{w':Wo}(h:eO Am P head.l j B f w n w') :
  match (generalizing:=false) j with
  | .run l=>∀ (T:List Tr) (hh:Nat→Nat) (s:List Ev),ix hh l w.ids T.length→(∀t∈T,t.mark≤B.length)→w.left≤ab→w.over=false→(w'.over=true→w'.aD=s)→(w'.over=false→mv P head ab ⟨B,f,rj hh T n,[],ab - w'.left,w'.aD⟩ s)→k7 P head ab ⟨B,f,T,l.map (uo hh),ab - w.left,w.aD⟩ s
  | .cls cs t id r=>∀ (T:List Tr) (hh:Nat→Nat) (s:List Ev) (i k:Nat),P.drop i=cs→ix hh r w.ids T.length→(∀ x∈r,x.id<id)→0<id→id≤w.ids→(∀ t∈T,t.mark≤B.length)→w.left≤ab→w.over=false→(w'.over=true→w'.aD=s)→(w'.over=false→mv P head ab ⟨B,f,rj hh T n,[],ab - w'.left,w'.aD⟩ s) →
   match je ⟨B,f,T,[],ab - w.left,w.aD⟩ ⟨B.length,f,t,k,r.map (uo hh),false⟩ i cs with
   |some m'=>k7 P head ab m' s
   |none=>mv P head ab ⟨B,f,T,[],ab - w.left,w.aD⟩ s:=by
 have hmk:∀ {T:List Tr} {B X:ak},(∀t∈T,t.mark≤B.length)→∀t∈T,t.mark≤(B++X).length:=fun h t ht=>by grind
 have htk:∀ {hh:Nat→Nat} {T:List Tr} {B:ak} (X:ak) {n:Option Nat},(∀t∈T,t.mark≤B.length)→∀t∈rj hh T n,B.take t.mark=(B++X).take t.mark:=@fun hh T B X n h t ht=>(List.take_append_of_le_length (h t (Zj _ _ _ t ht))).symm
 induction h with
 |@oN b f w h =>
  intro T hh s hi hT hl ho hs hb;refine .stop (m':=⟨b,f,T,[],ab - w.left,w.aD++[kJ 3]⟩) ?_ (hs rfl);exact(CP P head ⟨b,f,T,[],ab - w.left,w.aD⟩).trans (by rw[h])
 |@Dy b f w l h =>
  intro T hh s hi hT hl ho hs hb;refine .back (m':=⟨b,f,T,[],ab - w.left,w.aD++[nI l]⟩) ?_ (hb ho);exact(CP P head ⟨b,f,T,[],ab - w.left,w.aD⟩).trans (by rw[h])
 |@cut x r b f w n w' hk h ih =>
  intro T hh s hi hT hl ho hs hb;have hp:=(xz.1 hi.pw).1;have hx:=hi.ht x aC;refine .step (FO hk) (ih (T.take (hh x.id)) hh s ⟨hi.tail.le,fun y hy=>?_,hi.tail.pw,hi.z⟩ (fun t ht=>hT t (Wd ht)) hl ho hs fun hv=>?_)
  ·simp_all
  ·have e:rj hh (T.take (hh x.id)) n=rj hh T (sj n x.id):=by
    cases n with
    |none=>rfl
    |some a =>
     obtain⟨y,hy,rfl,_⟩:=h.ids a rfl;have:=hp y hy;simp only[sj];rw[if_neg an];simp only[rj];rw[List.take_take,Ge this.2]
   simp_all
 |@bad x r b f w e hk h =>
  intro T hh s hi hT hl ho hs hb;refine .stop (m':=⟨b,f,T,r.map (uo hh),ab - w.left,w.aD++[kJ e]⟩) ?_ (hs rfl);exact(qH hk).trans ((wW _ _ _).trans (by simp only[uo,h]))
 |@no x r b f w hk h =>
  intro T hh s hi hT hl ho hs hb;refine .back (m':=⟨b,f,T,r.map (uo hh),ab - w.left,w.aD⟩) ?_ (mv.to (fun _ _=>rfl) (hb ho));exact(qH hk).trans ((wW _ _ _).trans (by simp only[uo,h]))
 |@yes x r b f w b' f' tx n w' hk hd h ih =>
  intro T hh s hi hT hl ho hs hb;obtain⟨X,rfl⟩:=UH hd;generalize hw:w.said tx=w2 at h ih;rw[acI]at hw;subst hw;refine .step ((qH hk).trans ((wW _ _ _).trans (by simp only[uo,hd]))) (ih T hh s hi.tail (hmk hT) hl ho hs fun hv=>mv.to (htk X hT) (hb hv))
 |@stop x r b f w hk h =>
  intro T hh s hi hT hl ho hs hb;exact .stop (CR hk an) (hs rfl)
 |@call x r b f w c n w' hk hl h ih =>
  intro T hh s hi hT j3 ho hs hb;have h1:=ih T hh s 0 0 rfl (hi.tail.ids (o9 _) cP) (fun y hy=>yP (hi.tail.le y hy)) (Nat.succ_pos _) cP hT q5 ho hs hb;simp only[Wo.next]at h1;have cS:=CS (P:=P) (head:=head) (ab:=ab) (x:=uo hh x) (r:=r.map (uo hh)) (B:=b) (f:=f) (d:=ab - w.left) (T:=T) (sn:=w.aD) hk an;rw[show ab - w.left+1=ab - c from by omega]at cS;simp only[uo]at cS;cases hc:je ⟨b,f,T,[],ab - c,w.aD⟩ ⟨b.length,f,dz x.sh x.g.t,0,r.map (uo hh),false⟩ 0 P with
  |some m' =>
   rw[hc]at h1 cS;exact .step cS h1
  |none =>
   rw[hc]at h1 cS;exact .back cS (mv.to (fun _ _=>rfl) h1)
 |@so x r b f w n w' hk h hn ih =>
  intro T hh s hi hT hl ho hs hb;refine .step (yv hk) ?_
  have hid:ix (gW hh (w.ids+1) T.length) (cY x.g.a x.sh (w.ids+1) [⟨aM,0,w.ids+1⟩,⟨dK,0,0⟩]) (w.ids+1) (T.length+1):=by
   refine ix.UI (.cons (.cons ⟨by simp,by simp,.nil,?_⟩ fy ?_ aC) cP ?_ ?_) cP ?_ ?_
   ·rw[fo an];exact hi.z
   ·simp only;rw[fo an,hi.z];exact cT _
   ·simp only;rw[dX];omega
   ·intro y hy;rw[dh.1 hy];simp only;rw[fo an,hi.z];exact⟨cT _,cT _⟩
   ·rw[dX];omega
   ·intro y hy;rcases eL.1 hy with rfl |hy
    ·exact⟨ef _,ef _⟩
    ·rw [dh.1 hy];simp only;rw[fo an,hi.z];exact⟨cT _,cT _⟩
  have h1:=ih (T++[⟨b.length,f,aJ,0,r.map (uo hh),true⟩]) (gW hh (w.ids+1) T.length) s VW (fun t ht=>?_) hl ho hs fun hv=>?_
  ·rw [jg] at h1;simp only[List.map_cons,fj,uo,dX,fo (hh:=hh) (tl:=T.length) (show (0:Nat)≠w.ids+1 by omega),hi.z]at h1;exact h1
  ·grind
  ·rw [hv] at hn;cases n with
   |none=>simp at hn
   |some m =>
    have hm:m=w.ids+1:=by
     obtain⟨y,hy,he,oz⟩:=h.ids m rfl;rcases bW.1 hy with hy |hy
     ·grind
     ·rcases eL.1 hy with rfl | hy
      ·exact he.symm
      ·rw[dh.1 hy]at oz;exact absurd rfl oz
    rw[CQ (fun h=>absurd hm h),oM,if_pos hm];exact hb hv
 |@AQ x r b f w w1 n w' hk h nQ h2 ih zY =>
  intro T hh s hi hT hl ho hs hb;refine .step (yv hk) ?_
  have hid:ix (gW hh (w.ids+1) T.length) (cY x.g.a x.sh (w.ids+1) [⟨aM,0,w.ids+1⟩,⟨dK,0,0⟩]) (w.ids+1) (T.length+1):=by
   refine ix.UI (.cons (.cons ⟨by simp,by simp,.nil,?_⟩ fy ?_ aC) cP ?_ ?_) cP ?_ ?_
   ·rw[fo an];exact hi.z
   ·simp only;rw[fo an,hi.z];exact cT _
   ·simp only;rw[dX];omega
   ·intro y hy;rw[dh.1 hy];simp only;rw[fo an,hi.z];exact⟨cT _,cT _⟩
   ·rw[dX];omega
   ·intro y hy;rcases eL.1 hy with rfl |hy
    ·exact⟨ef _,ef _⟩
    ·rw [dh.1 hy];simp only;rw[fo an,hi.z];exact⟨cT _,cT _⟩
  have hm:=h.mono;simp only[Wo.next]at hm;have h1:=ih (T++[⟨b.length,f,aJ,0,r.map (uo hh),true⟩]) (gW hh (w.ids+1) T.length) s VW (fun t ht=>?_) hl ho (fun h=>by simp_all) fun _=>?_
  ·rw [jg] at h1;simp only[List.map_cons,fj,uo,dX,fo (hh:=hh) (tl:=T.length) (show (0:Nat)≠w.ids+1 by omega),hi.z]at h1;exact h1
  ·grind
  ·refine .inr ⟨by simp only [rj]; rw [mI],?_⟩;simp only[rj];rw[mI];exact zY T hh s (hi.tail.ids an cP) hT an nQ hs hb
 |@sq x r b f w n w' hk h hov ih =>
  intro T hh s hi hT hl ho hs hb;refine .step (wX hk) ?_;have hx:=hi.le x aC;have hp:=(xz.1 hi.pw).1;have hr:ix (gW hh (w.ids+1) T.length) r (w.ids+1) (T.length+1):=(hi.tail.ids (o9 _) (o9 _)).new (fun y hy=>yP (hi.tail.le y hy)) (Nat.succ_pos _);have eo:∀y∈r,gW hh (w.ids+1) T.length y.id=hh y.id:=fun y hy=>fo agm
  have iW:gW hh (w.ids+1) T.length x.id=hh x.id:=fo an;have hbI:ix (gW hh (w.ids+1) T.length) (cY x.g.b x.sh x.id r) (w.ids+1) (T.length+1):=hr.UI an age fun y hy=>by rw[eo y hy,iW];exact hp y hy
  have eK:∀y∈cY x.g.b x.sh x.id r,y.id≤w.ids∧gW hh (w.ids+1) T.length y.id≤T.length:=fun y hy=>by
   rcases bW.1 hy with hy |hy
   ·obtain ⟨g,_,rfl⟩:=fA.1 hy;simp only;rw[iW];exact⟨hx,hi.ht x aC⟩
   ·rw[eo y hy];exact⟨hi.tail.le y hy,hi.tail.ht y hy⟩
  have hid:ix (gW hh (w.ids+1) T.length) (cY x.g.a x.sh (w.ids+1) (⟨aM,0,w.ids+1⟩::cY x.g.b x.sh x.id r)) (w.ids+1) (T.length+1):=by
   refine ix.UI (.cons hbI cP agn fun y hy=>?_) cP Se fun y hy=>?_
   ·have:=eK y hy;simp only;rw[dX];omega
   ·rcases eL.1 hy with rfl | hy
    ·exact⟨ef _,ef _⟩
    ·have:=eK y hy;rw[dX];omega
  have h1:=ih (T++[⟨b.length,f,aJ,0,bJ x.g.c x.sh (hh x.id) (r.map (uo hh)),true⟩]) (gW hh (w.ids+1) T.length) s VW (fun t ht=>?_) hl ho hs fun hv=>?_
  ·rw [jg,List.map_cons,jg,tA fun y hy=>yP (hi.tail.le y hy)] at h1;simp only[uo,dX,iW]at h1;exact h1
  ·rcases bW.1 ht with ht | ht
   ·exact hT t ht
   ·rw[dh.1 ht];exact ef _
  simp_all
 |@zg x r b f w n w' hk h hov ih =>
  intro T hh s hi hT hl ho hs hb;refine .step (wX hk) ?_;have hx:=hi.le x aC;have hp:=(xz.1 hi.pw).1;have hr:ix (gW hh (w.ids+1) T.length) r (w.ids+1) (T.length+1):=(hi.tail.ids (o9 _) (o9 _)).new (fun y hy=>yP (hi.tail.le y hy)) (Nat.succ_pos _);have eo:∀y∈r,gW hh (w.ids+1) T.length y.id=hh y.id:=fun y hy=>fo agm
  have iW:gW hh (w.ids+1) T.length x.id=hh x.id:=fo an;have hbI:ix (gW hh (w.ids+1) T.length) (cY x.g.b x.sh x.id r) (w.ids+1) (T.length+1):=hr.UI an age fun y hy=>by rw[eo y hy,iW];exact hp y hy
  have eK:∀y∈cY x.g.b x.sh x.id r,y.id≤w.ids∧gW hh (w.ids+1) T.length y.id≤T.length∧hh y.id≤T.length:=fun y hy=>by
   rcases bW.1 hy with hy |hy
   ·obtain ⟨g,_,rfl⟩:=fA.1 hy;simp only;rw[iW];exact⟨hx,hi.ht x aC,hi.ht x aC⟩
   ·rw[eo y hy];exact⟨hi.tail.le y hy,hi.tail.ht y hy,hi.tail.ht y hy⟩
  have hid:ix (gW hh (w.ids+1) T.length) (cY x.g.a x.sh (w.ids+1) (⟨aM,0,w.ids+1⟩::cY x.g.b x.sh x.id r)) (w.ids+1) (T.length+1):=by
   refine ix.UI (.cons hbI cP agn fun y hy=>?_) cP Se fun y hy=>?_
   ·have:=eK y hy;simp only;rw[dX];omega
   ·rcases eL.1 hy with rfl | hy
    ·exact⟨ef _,ef _⟩
    ·have:=eK y hy;rw[dX];omega
  have h1:=ih (T++[⟨b.length,f,aJ,0,bJ x.g.c x.sh (hh x.id) (r.map (uo hh)),true⟩]) (gW hh (w.ids+1) T.length) s VW (fun t ht=>?_) hl ho hs fun hv=>?_
  ·rw [jg,List.map_cons,jg,tA fun y hy=>yP (hi.tail.le y hy)] at h1;simp only[uo,dX,iW]at h1;exact h1
  ·rcases bW.1 ht with ht | ht
   ·exact hT t ht
   ·rw[dh.1 ht];exact ef _
  ·rw [CQ fun hm=>?_]
   ·exact hb hv
   ·obtain ⟨y,hy,he,_⟩:=h.ids n rfl;rcases bW.1 hy with hy |hy
    ·obtain⟨g,_,rfl⟩:=fA.1 hy;exact absurd he.symm hm
    grind
 |@MH x r b f w w1 n w' hk h nQ h2 ih zY =>
  intro T hh s hi hT hl ho hs hb;refine .step (wX hk) ?_;have hx:=hi.le x aC;have hp:=(xz.1 hi.pw).1;have hr:ix (gW hh (w.ids+1) T.length) r (w.ids+1) (T.length+1):=(hi.tail.ids (o9 _) (o9 _)).new (fun y hy=>yP (hi.tail.le y hy)) (Nat.succ_pos _);have eo:∀y∈r,gW hh (w.ids+1) T.length y.id=hh y.id:=fun y hy=>fo agm
  have iW:gW hh (w.ids+1) T.length x.id=hh x.id:=fo an;have hbI:ix (gW hh (w.ids+1) T.length) (cY x.g.b x.sh x.id r) (w.ids+1) (T.length+1):=hr.UI an age fun y hy=>by rw[eo y hy,iW];exact hp y hy
  have eK:∀y∈cY x.g.b x.sh x.id r,y.id≤w.ids∧gW hh (w.ids+1) T.length y.id≤T.length:=fun y hy=>by
   rcases bW.1 hy with hy |hy
   ·obtain ⟨g,_,rfl⟩:=fA.1 hy;simp only;rw[iW];exact⟨hx,hi.ht x aC⟩
   ·rw[eo y hy];exact⟨hi.tail.le y hy,hi.tail.ht y hy⟩
  have hid:ix (gW hh (w.ids+1) T.length) (cY x.g.a x.sh (w.ids+1) (⟨aM,0,w.ids+1⟩::cY x.g.b x.sh x.id r)) (w.ids+1) (T.length+1):=by
   refine ix.UI (.cons hbI cP agn fun y hy=>?_) cP Se fun y hy=>?_
   ·have:=eK y hy;simp only;rw[dX];omega
   ·rcases eL.1 hy with rfl | hy
    ·exact⟨ef _,ef _⟩
    ·have:=eK y hy;rw[dX];omega
  have hm:=h.mono;simp only[Wo.next]at hm;have h1:=ih (T++[⟨b.length,f,aJ,0,bJ x.g.c x.sh (hh x.id) (r.map (uo hh)),true⟩]) (gW hh (w.ids+1) T.length) s VW (fun t ht=>?_) hl ho (fun h=>by simp_all) fun _=>?_
  ·rw [jg,List.map_cons,jg,tA fun y hy=>yP (hi.tail.le y hy)] at h1;simp only[uo,dX,iW]at h1;exact h1
  ·grind
  ·refine .inr ⟨by simp only [rj]; rw [mI],?_⟩;simp only[rj];rw[mI,← jg];exact zY T hh s ((hi.tail.UI hx (hi.ht x aC) hp).ids an cP) hT an nQ hs hb
 |@skip x r b f w n w' h0 h1 h2 h3 h4 h5 h ih =>
  intro T hh s hi hT hl ho hs hb;exact .step (CT h0 h1 h2 h3 h4 h5) (ih T hh s hi.tail hT hl ho hs hb)
 |@none t id r b f w =>
  intro T hh s i k hd hi fu h0 hid hT hl ho hs hb;simp only[je];exact hb ho
 |@other c cs t id r b f w n w' eo h ih =>
  intro T hh s i k hd hi fu h0 hid hT hl ho hs hb;rw[je,if_neg eo];exact ih T hh s (i+1) k (by rw[← List.drop_drop,hd];rfl) hi fu h0 hid hT hl ho hs hb
 |@fail c cs t id r b f w n w' eo hu h ih =>
  intro T hh s i k hd hi fu h0 hid hT hl ho hs hb;rw[je,if_pos eo,show sd b t (dz f c.head)=none from hu];exact ih T hh s (i+1) k (by rw[← List.drop_drop,hd];rfl) hi fu h0 hid hT hl ho hs hb
 |@over c cs t id r b f w b' n w' eo hu h hov ih =>
  intro T hh s i k hd hi fu h0 hid hT hl ho hs hb;rw[je,if_pos eo,show sd b t (dz f c.head)=some b' from hu];simp only;obtain⟨X,rfl⟩:=tz hu
  have hII:ix (gW hh id T.length) (cY c.body f id r) w.ids (T.length+1):=by
   refine((hi.ids cP (o9 _)).new fu h0).UI hid Se fun y hy=>?_
   rw[dX,fo (by have:=fu y hy;omega)];exact⟨Nat.le_of_lt (fu y hy),hi.ht y hy⟩
  have h1:=ih (T++[⟨b.length,f,t,i+1,r.map (uo hh),false⟩]) (gW hh id T.length) s (by simpa using hII) (fun u hu=>?_) hl ho hs fun hv=>?_
  ·rw[jg,dX,tA fu]at h1;exact h1
  ·rcases bW.1 hu with hu | hu
   ·exact hmk hT u hu
   ·rw[dh.1 hu];simp only[List.length_append];omega
  simp_all
 |@aH c cs t id r b f w b' n w' eo hu h hov ih =>
  intro T hh s i k hd hi fu h0 hid hT hl ho hs hb;rw[je,if_pos eo,show sd b t (dz f c.head)=some b' from hu];simp only;obtain⟨X,rfl⟩:=tz hu
  have hII:ix (gW hh id T.length) (cY c.body f id r) w.ids (T.length+1):=by
   refine((hi.ids cP (o9 _)).new fu h0).UI hid Se fun y hy=>?_
   rw[dX,fo (by have:=fu y hy;omega)];exact⟨Nat.le_of_lt (fu y hy),hi.ht y hy⟩
  have h1:=ih (T++[⟨b.length,f,t,i+1,r.map (uo hh),false⟩]) (gW hh id T.length) s (by simpa using hII) (fun u hu=>?_) hl ho hs fun hv=>?_
  ·rw[jg,dX,tA fu]at h1;exact h1
  ·rcases bW.1 hu with hu | hu
   ·exact hmk hT u hu
   ·rw[dh.1 hu];simp only[List.length_append];omega
  ·rw [CQ fun hm=>?_]
   ·exact mv.to (htk X hT) (hb hv)
   ·obtain ⟨y,hy,he,_⟩:=h.ids n rfl;rcases bW.1 hy with hy |hy
    ·grind
    ·rw[← he];exact hi.ht y hy
 |@more c cs t id r b f w b' w1 n w' eo hu h nQ h2 ih zY =>
  intro T hh s i k hd hi fu h0 hid hT hl ho hs hb;rw[je,if_pos eo,show sd b t (dz f c.head)=some b' from hu];simp only;obtain⟨X,rfl⟩:=tz hu
  have hII:ix (gW hh id T.length) (cY c.body f id r) w.ids (T.length+1):=by
   refine((hi.ids cP (o9 _)).new fu h0).UI hid Se fun y hy=>?_
   rw[dX,fo (by have:=fu y hy;omega)];exact⟨Nat.le_of_lt (fu y hy),hi.ht y hy⟩
  have hm:=h.mono;have Ey:P.drop (i+1)=cs:=by rw[← List.drop_drop,hd];rfl
  have h1:=ih (T++[⟨b.length,f,t,i+1,r.map (uo hh),false⟩]) (gW hh id T.length) s (by simpa using hII) (fun u hu=>?_) hl ho (fun h=>by simp_all) fun _=>?_
  ·rw[jg,dX,tA fu]at h1;exact h1
  ·grind
  ·have h3:=zY T hh s (i+1) (i+1) Ey (hi.ids hm.2 cP) fu h0 an hT an nQ hs hb;have hg:=OE (P:=P) (B:=b) (f:=f) (T:=T) (r:=r.map (uo hh)) (d:=ab - w1.left) (sn:=w1.aD) (f':=f+c.vars.toNat) (X:=X) (c:=t) (k:=i+1) (nw:=[]);rw[Ey]at hg;simp only[rj];cases hc:je ⟨b,f,T,[],ab - w1.left,w1.aD⟩ ⟨b.length,f,t,i+1,r.map (uo hh),false⟩ (i+1) cs with
   |some m' =>
    rw[hc]at h3 hg;exact .inr ⟨by rw[hg],by simp_all⟩
   |none =>
    rw[hc]at h3 hg;unfold mv at h3 ⊢
    simp_all

def ss (w:Wo):List Ev:=if w.over then w.aD else w.aD++[r8]

theorem Lr{P:List Cs}{head:Tm}{ab:Nat}{q:List Gl}{vars:Nat}{n:Option Nat}{w':Wo}(h:eO Am P head.l (.run (cY q 0 0 [])) [] vars ⟨ab,[],0,false⟩ n w'):k7 P head ab ⟨[],vars,[],bJ q 0 0 [],0,[]⟩ (ss w'):=by
 have h1:=ctl (ab:=ab) h [] (fun _=>0) (ss w') ?_ aC cP rfl (fun ho=>by unfold ss;rw[if_pos ho]) fun ho=>?_
 ·rw [jg] at h1;simpa using h1
 ·exact ix.UI ⟨by simp,by simp,.nil,rfl⟩ fy fy aC
 ·have e:rj (fun _=>0) ([]:List Tr) n=[]:=by cases n <;> simp [rj]
  rw[e];refine .inl ⟨rfl,?_⟩;unfold ss;rw[if_neg (by rw[ho];simp)];rfl
end aw

namespace aw
open Go Tm

variable{S:List Int}{B:ak}
theorem wY{sw:Bool}{n:Nat}{T:List (Tm × Tm)}{B B1:ak}{cD:List (Int × Int)}{ok1:Bool}(h:mH sw n T B cD B1 ok1):∀ {n2:Nat} {B2:ak} {Zk:Bool},mH sw n2 T B cD B2 Zk→B1=B2∧ok1=Zk:=by
 have nv:∀ {x y u w:Tm},il sw x y=(u,w)→u.k=1→x.k≠1→y.k≠1→False:=fun hp hk hx hy=>by
  rcases pT hp with ⟨h,_⟩ |⟨_,_,h⟩
  ·exact hx (h ▸ hk)
  ·exact hy h
 induction h with
 |done=>intro n2 B2 Zk h2;cases h2;exact⟨rfl,rfl⟩
 |skip hs _ ih =>
  intro n2 B2 Zk h2;cases h2 with
  |skip _ h=>exact ih h
  |same fh |cz fh |bind fh |kI fh |args fh=>rw[hs]at fh;cases fh
 |same hs hv _ ih =>
  intro n2 B2 Zk h2;cases h2 with
  |skip fh=>rw[hs]at fh;cases fh
  |same _ _ h=>exact ih h
  |cz _ rp |bind _ rp=>exact absurd hv rp
  |kI _ hx |args _ hx=>exact absurd hv.1 hx
 |cz hs hv hp hk hw =>
  intro n2 B2 Zk h2;cases h2 with
  |skip fh=>rw[hs]at fh;cases fh
  |same _ rp=>exact absurd rp hv
  |cz=>exact⟨rfl,rfl⟩
  |bind _ _ Mi _ hw'=>rw[hp]at Mi;cases Mi;rw[hw]at hw';cases hw'
  |kI _ hx hy |args _ hx hy=>exact(nv hp hk hx hy).elim
 |bind hs hv hp hk hw _ ih =>
  intro n2 B2 Zk h2;cases h2 with
  |skip fh=>rw[hs]at fh;cases fh
  |same _ rp=>exact absurd rp hv
  |cz _ _ Mi _ hw'=>rw[hp]at Mi;cases Mi;rw[hw]at hw';cases hw'
  |bind _ _ Mi _ _ h=>rw[hp]at Mi;cases Mi;exact ih h
  |kI _ hx hy |args _ hx hy=>exact(nv hp hk hx hy).elim
 |kI hs hx hy hc =>
  intro n2 B2 Zk h2;cases h2 with
  |skip fh=>rw[hs]at fh;cases fh
  |same _ rp=>exact absurd rp.1 hx
  |cz _ _ hp hk |bind _ _ hp hk=>exact(nv hp hk hx hy).elim
  |kI=>exact⟨rfl,rfl⟩
  |args _ _ _ Qj=>rw[hc]at Qj;cases Qj
 |args hs hx hy hc _ ih =>
  intro n2 B2 Zk h2;cases h2 with
  |skip fh=>rw[hs]at fh;cases fh
  |same _ rp=>exact absurd rp.1 hx
  |cz _ _ hp hk |bind _ _ hp hk=>exact(nv hp hk hx hy).elim
  |kI _ _ _ Qj=>rw[hc]at Qj;cases Qj
  |args _ _ _ _ h=>exact ih h

theorem wZ{B:ak}(h:∀b∈B,GT b.2):∀ (f:Nat) (t:Tm),GT t→GT (dS B f t)
 |0,t,ht=>ht
 |f+1,t,ht=>by
  simp only[dS];split
  ·split
   ·rename_i x hx;exact wZ h f x (h _ (dq hx))
   ·exact ht
  ·exact ht

theorem acJ{sw:Bool}{n:Nat}{T:List (Tm × Tm)}{B B':ak}{cD:List (Int × Int)}{ok:Bool}(h:mH sw n T B cD B' ok):(∀p∈T,GT p.1∧GT p.2)→(∀b∈B,GT b.2)→∀b∈B',GT b.2:=by
 induction h with
 |done=>exact fun _ h=>h
 |skip _ _ ih=>exact fun hT hB=>ih (fun p hp=>hT p Gd) hB
 |same _ _ _ ih=>exact fun hT hB=>ih (fun p hp=>hT p Gd) hB
 |cz=>exact fun _ h=>h
 |bind hs hv hp hk hw _ ih =>
  intro hT hB;refine ih (fun p hp=>hT p Gd) fun b hb=>?_
  rcases bW.1 hb with hb |hb
  ·exact hB b hb
  ·rw [dh.1 hb];have h0:=hT _ (Wb);rcases pT hp with ⟨_,h⟩ |⟨_,h,_⟩
   ·rw[h];exact wZ hB _ _ h0.2
   ·rw[h];exact wZ hB _ _ h0.1
 |kI=>exact fun _ h=>h
 |args hs hx hy hc _ ih =>
  intro hT hB;refine ih (fun p hp=>?_) hB;have h0:=hT _ (Wb);rcases bW.1 hp with hp |hp
  ·have hz:=r7.1 hp;exact⟨(wZ hB _ _ h0.1).kid (Jf hz).1,(wZ hB _ _ h0.2).kid (Jf hz).2⟩
  ·exact hT p Gd

structure eB (S:List Int) (B:ak):Prop where
 ug:UG S 3000 [] B
 gt:∀b∈B,GT b.2
theorem eB.nil(S:List Int):eB S []:=⟨⟨.nil,by simp[Co],by simp,by simp[aia],by simp[T9],⟨vT,by simp[nU]⟩,by simp,by simp⟩,by simp⟩

theorem eB.take{B X:ak}(h:eB S (B++X)):eB S B:=by
 refine⟨⟨⟨?_,?_⟩,fun b hb=>h.ug.mo b (by simp[hb]),by simp,by simp[aia],fun b hb=>h.ug.sb b (by simp[hb]),?_,fun b hb=>h.ug.vb b (by simp[hb]),by simp⟩,fun b hb=>h.gt b (by simp[hb])⟩
 ·have:=h.ug.chain.nodup;rw[List.map_append,vN]at this;exact this.1
 ·intro i b hb hk j c hc he;have h1:=(bC.1 hb).1;have h2:=(bC.1 hc).1;exact h.ug.chain.chain i b (by rw[jx h1];exact hb) hk j c (by rw[jx h2];exact hc) he
 ·obtain ⟨σ,hσ⟩:=h.ug.Vc;exact⟨σ,fun b hb=>hσ b (by simp[hb])⟩
theorem eB.len(h:eB S B):B.length≤S.length:=h.ug.Oe

theorem HB{a b:Tm}(h:eB S B)(ga:GT a)(gb:GT b)(oa:∀u∈cz a,u∈S)(ob:∀u∈cz b,u∈S) :
  ∃n X ok,eN S 3000 a n [(a,b)] B [] (B++X) ok∧sd B a b=(if ok then some (B++X) else none)∧eB S (B++X):=by
 have hU:UG S 3000 [(a,b)] B:=⟨h.ug.chain,h.ug.mo,fun p hp=>by rw[dh.1 hp];exact⟨ga.fair,gb.fair⟩,fun p hp=>by rw[dh.1 hp];exact⟨ga.size,gb.size⟩,h.ug.sb,h.ug.Vc,h.ug.vb,fun p hp=>by rw[dh.1 hp];exact⟨oa,ob⟩⟩;obtain⟨n,B',ok,hr,hg,⟨X,rfl⟩,_,_⟩:=Od false hU;refine⟨n,X,ok,.first ga.fair ga.size hr hU,?_,hg,acJ hr (fun p hp=>by rw[dh.1 hp];exact⟨ga,gb⟩) h.gt⟩;unfold sd;cases ok with
 |true =>
  have hx:∃B',YX B a b B':=⟨_,n,hr⟩;rw[dif_pos hx];obtain⟨n2,h2⟩:=Classical.choose_spec hx;rw[if_pos rfl];exact congrArg some (wY h2 hr).1
 |false =>
  rw[dif_neg]
  ·rfl
  ·rintro ⟨B',n2,h2⟩;have:=(wY h2 hr).2;cases this

theorem Ls{B B':ak}{a b:Tm}(h:eB S B)(ga:GT a)(gb:GT b)(oa:∀u∈cz a,u∈S)(ob:∀u∈cz b,u∈S)(hu:sd B a b=some B'):eB S B'∧∃X,B'=B++X:=by
 obtain⟨n,X,ok,_,h2,h3⟩:=HB h ga gb oa ob;rw[hu]at h2;cases ok with
 |true=>cases h2;exact⟨h3,X,rfl⟩
 |false=>cases h2

theorem yw{S:List Int}:∀ {l:List Tm} {B B':ak},eB S B→(∀t∈l,GT t∧∀u∈cz t,u∈S)→fP B l=some B'→eB S B'
 |[],B,B',h,_,hu=>by rw[fP]at hu;cases hu;exact h;simp
 |[_],B,B',h,_,hu=>by rw[fP]at hu;cases hu;exact h;simp
 |a::b::r,B,B',h,hl,hu=>by
  rw[fP]at hu;split at hu
  ·rename_i B1 h1;exact yw (Ls h (hl a aC).1 (hl b aC).1 (hl a aC).2 (hl b aC).2 h1).1 (fun t ht=>hl t AK) hu
  ·cases hu

theorem Lt{B:ak}(hB:∀b∈B,GT b.2):∀ (m:Nat) (t:Tm),t.Fit→t.bw=true→(bn B m t).Fit
 |0,t,h,_=>h
 |m+1,t,h,hr=>by
  rw[bn];refine acy t h fun v hv=>?_
  split
  ·rename_i x hx;have:=hB _ (dq hx);exact Lt hB m x this.f this.fair
  ·have:=Tm.lh t hr v hv;rw[vT,se];refine⟨⟨?_,?_⟩,by simp⟩<;>unfold jt<;>omega

theorem Lu{S:List Int}{B:ak}(hB:∀b∈B,∀u∈cz b.2,u∈S):∀ (m:Nat) (t:Tm),(∀u∈cz t,u∈S)→∀u∈cz (bn B m t),u∈S
 |0,t,h=>h
 |m+1,t,h=>by
  rw[bn];intro u hu;obtain⟨v,hv,hu⟩:=wG _ _ hu;split at hu
  ·rename_i x hx;exact Lu hB m x (fun u hu=>hB _ (dq hx) u hu) u hu
  ·rw [vT,cz,if_pos rfl] at hu;rw[dh.1 hu];exact h v hv

theorem Rl{t:Tm}(h:eB S B)(gt:GT t)(ot:∀u∈cz t,u∈S)(h0:(eH B t).2=0):GT (eH B t).1∧∀u∈cz (eH B t).1,u∈S:=by
 have hf:(bn B B.length t).bw=true:=by
  have hs:=h.ug.Vc;obtain⟨σ,hs⟩:=hs;exact(Hq hs h.ug.chain h.ug.mo).ae6 gt.fair
 unfold eH DU at h0 ⊢;split at h0
 ·rename_i hc;rw[if_pos hc];simp only[aV,decide_eq_true_eq]at hc;exact⟨⟨Tm.dF.2 ⟨hf,hc.1,hc.2⟩,Lt h.gt _ _ gt.f gt.fair⟩,Lu (fun b hb=>(h.ug.vb b hb).2) _ _ ot⟩
 ·cases h0

theorem Lw{t:Tm}(h0:(eH B t).2≠0):(eH B t).2=3:=by
 unfold eH DU at h0 ⊢;split
 ·rename_i hc;rw[if_pos hc]at h0;exact absurd rfl h0
 ·rfl
end aw

namespace aw
open Go Tm

variable{l:List Tm}{s:ByteArray}{S:List Int}{nx:Int}
structure qV (S:List Int) (nx:Int) (a:Ak):Prop where
 al:∀t∈a.al,GT t∧∀u∈cz t,u∈S
 lo:nx≤a.nx
 hi:a.nx≤nx+8
 len:a.al.length≤4
section
variable {S:List Int} {nx:Int}
theorem qV.no(e:Int):qV S nx (eG nx e):=⟨by simp[eG],gP _,by simp[eG];omega,by simp[eG]⟩
theorem qV.is(b:Bool):qV S nx (mg nx b):=⟨by simp[mg],gP _,by simp[mg];omega,by simp[mg]⟩

theorem qV.ok{n:Int}(h1:nx≤n)(h2:n≤nx+8)(h:∀t∈l,t.Fit∧∀u∈cz t,u∈S)(aZ:l.length≤4:=by simp):qV S nx (bX n l):=by
 unfold bX;split
 ·rename_i hr;exact⟨fun t ht=>⟨⟨by rw[← cN];exact fk.1 hr t ht,(h t ht).1⟩,(h t ht).2⟩,h1,h2,aZ⟩
 ·exact⟨by simp,h1,h2,by simp⟩
theorem qV.same(h:∀t∈l,t.Fit∧∀u∈cz t,u∈S)(aZ:l.length≤4:=by simp):qV S nx (bX nx l):=.ok (gP _) an h aZ

theorem OF{n:Int}(h:jt n):(gj n).Fit∧∀u∈cz (gj n),u∈S:=by
 unfold gj;refine⟨se.2 ⟨⟨by unfold jt;omega,h⟩,by simp⟩,?_⟩;rw[qD];simp[k,l,ek]

theorem Rm(h:∀t∈l,t.Fit∧∀u∈cz t,u∈S):(Tm.mk 3 s 0 l).Fit∧∀u∈cz (Tm.mk 3 s 0 l),u∈S:=by
 refine⟨se.2 ⟨⟨by unfold jt;omega,by unfold jt;omega⟩,fun x hx=>(h x hx).1⟩,?_⟩;rw[qD,if_neg (show (Tm.mk 3 s 0 l).k≠1 by simp[Tm.k])];simp only[Tm.l];intro u hu
 have key:∀l:List Tm,(∀t∈l,∀u∈cz t,u∈S)→∀u∈ek l,u∈S:=fun l=>by
  induction l with
  |nil=>intro _ u hu;simp[ek]at hu
  |cons a l ih =>
   intro h u hu;simp only[ek,bW]at hu;rcases hu with hu |hu
   ·exact h a aC u hu
   ·exact ih (fun t ht=>h t AK) u hu
 exact key l (fun t ht=>(h t ht).2) u hu
theorem CU:(gG s).Fit∧∀u∈cz (gG s),u∈S:=Rm aC

theorem Rn(h:∀t∈l,t.Fit∧∀u∈cz t,u∈S):(dG l).Fit∧∀u∈cz (dG l),u∈S:=by
 unfold dG;induction l with
 |nil=>exact CU
 |cons a l ih =>
  rw[List.foldr_cons];refine Rm fun t ht=>?_
  simp only[eL,nW,or_false]at ht;rcases ht with rfl |rfl
  ·exact h _ aC
  ·exact ih fun t ht=>h t AK

theorem acK:aJ.Fit∧∀u∈cz aJ,u∈S:=by
 unfold aJ;refine⟨se.2 ⟨⟨by unfold jt;omega,by unfold jt;omega⟩,by simp⟩,?_⟩;rw[qD,if_neg (by simp[Tm.k])];simp[Tm.l,ek]

theorem OG{t x:Tm}(hk:t.k≠1)(h:t.Fit∧∀u∈cz t,u∈S)(hx:x∈t.l):x.Fit∧∀u∈cz x,u∈S:=by
 refine⟨((wQ t).1 h.1).2 x hx,fun u hu=>h.2 u ?_⟩;rw[qD,if_neg hk];exact wR hx hu

theorem yx{i:Nat}(h:∀t∈l,t.Fit∧∀u∈cz t,u∈S):((l[i]?).getD aJ).Fit∧∀u∈cz ((l[i]?).getD aJ),u∈S:=by
 cases hi:l[i]? with
 |none=>exact acK
 |some x=>exact h x (gZ hi)

theorem aip(f:Nat):∀ (t:Tm),(t.Fit∧∀u∈cz t,u∈S)→(∀x∈(rf f t).1,x.Fit∧∀u∈cz x,u∈S):=by
 induction f with
 |zero=>intro t _ x hx;simp[rf]at hx
 |succ f ih =>
  intro t h x hx;rw[rf]at hx;split at hx
  ·rename_i hc;have hk:=fun x hx=>OG (x:=x) (by rw[hc.1];omega) h hx
   rcases eL.1 hx with rfl |hx
   ·exact yx hk
   ·exact ih _ (yx hk) x hx
  ·simp at hx

theorem aft:∀ (m:Nat) (n:Int),0≤n→n+m<1000000→(∀i,n≤i→i<n+m→i∈S)→∀t∈dy n m,t.Fit∧∀u∈cz t,u∈S
 |0,n,_,_,_=>by simp[dy]
 |m+1,n,h0,h1,h=>by
  intro t ht;rw[dy]at ht;rcases eL.1 ht with rfl |ht
  ·refine ⟨se.2 ⟨⟨by unfold jt; omega,by unfold jt; omega⟩,by simp⟩,fun u hu=>?_⟩;rw[cz,if_pos rfl]at hu;rw[dh.1 hu];exact h n an an
  ·exact aft m (n+1) an an (fun i h2 h3=>h i an an) t ht
end

theorem qV.ite{c:Prop}[Decidable c]{x y:Ak}(h1:c→qV S nx x)(h2:¬ c→qV S nx y):qV S nx (if c then x else y):=by
 by_cases h:c
 ·rw[if_pos h];exact h1 h
 ·rw[if_neg h];exact h2 h

theorem Zl(hl:∀t∈l,t.Fit∧∀u∈cz t,u∈S)(h0:0≤nx)(h1:nx≤999000)(hS:s=Tx [102,117,110,99,116,111,114]→∀i,nx≤i→i<nx+8→i∈S)(aZ:∀t∈l,t.l.length≤8):qV S nx (dR s l nx):=by
 unfold dR
 extract_lets a b c;have ha:a.Fit∧∀u∈cz a,u∈S:=yx hl;have hb:b.Fit∧∀u∈cz b,u∈S:=yx hl;have hc:c.Fit∧∀u∈cz c,u∈S:=yx hl
 have BQ:a.l.length≤8:=by
  show ((l[0]?).getD aJ).l.length≤8
  cases hi:l[0]? with
  |none=>simp[aJ,Tm.l]
  |some x=>exact aZ x (gZ hi)
 clear_value a b c
 have two:∀x y:Tm,(x.Fit∧∀u∈cz x,u∈S)→(y.Fit∧∀u∈cz y,u∈S)→∀t∈[x,y],t.Fit∧∀u∈cz t,u∈S:=fun x y hx hy t ht=>by
  simp only[eL,nW,or_false]at ht;rcases ht with rfl |rfl<;>assumption
 have four:∀x y z v:Tm,(x.Fit∧∀u∈cz x,u∈S)→(y.Fit∧∀u∈cz y,u∈S)→(z.Fit∧∀u∈cz z,u∈S)→(v.Fit∧∀u∈cz v,u∈S)→∀t∈[x,y,z,v],t.Fit∧∀u∈cz t,u∈S:=fun x y z v hx hy hz hv t ht=>by
  simp only[eL,nW,or_false]at ht;rcases ht with rfl |rfl |rfl |rfl<;>assumption
 have nil:∀ (h ap:Bool) (tx:Bs) (e:Int),qV S nx ⟨h,[],ap,tx,nx,e⟩:=fun h ap tx e=>⟨by simp,gP _,by show nx≤nx+8;omega,by simp⟩
 have ord:∀is,qV S nx (jd nx a b is):=fun is=>by
  unfold jd;split
  ·exact .no _
  ·exact .is _
 have ev:∀t:Tm,t.Fit→jt (bt t).1:=fun t ht=>by
  unfold bt;split
  ·exact td ht
  ·show jt 0;unfold jt;omega
 refine qV.ite (fun _=>?_) fun _=>?_
 ·exact .is _
 refine qV.ite (fun _=>?_) fun _=>?_
 ·exact nil _ _ _ _
 refine qV.ite (fun _=>?_) fun _=>?_
 ·unfold Af; split
  ·exact nil _ _ _ _
  ·exact .no _
 refine qV.ite (fun _=>?_) fun _=>?_
 ·exact .is _
 refine qV.ite (fun _=>?_) fun _=>?_
 ·exact .is _
 refine qV.ite (fun _=>?_) fun _=>?_
 ·exact .is _
 refine qV.ite (fun _=>?_) fun _=>?_
 ·exact .is _
 refine qV.ite (fun _=>?_) fun _=>?_
 ·exact .same (two _ _ ha hb)
 refine qV.ite (fun _=>?_) fun _=>?_
 ·split
  ·rename_i h;have h2:=(qV.same (nx:=nx) (two _ _ ha hb)).al;unfold bX at h h2;split at h
   ·rename_i hr;rw[if_pos hr]at h2;exact⟨h2,gP _,by show nx≤nx+8;omega,by simp⟩
   ·cases h
  ·exact .no _
 refine qV.ite (fun _=>?_) fun _=>?_
 ·exact .is _
 refine qV.ite (fun _=>?_) fun _=>?_
 ·exact .is _
 refine qV.ite (fun _=>?_) fun _=>?_
 ·exact ord _
 refine qV.ite (fun _=>?_) fun _=>?_
 ·exact ord _
 refine qV.ite (fun _=>?_) fun _=>?_
 ·exact ord _
 refine qV.ite (fun _=>?_) fun _=>?_
 ·exact ord _
 refine qV.ite (fun _=>?_) fun _=>?_
 ·unfold Ce; split
  ·exact .no _
  ·exact .same (two _ _ ha (OF (ev b hb.1)))
 refine qV.ite (fun apB=>?_) fun _=>?_
 ·unfold cA;have hI:∀n:Int,0≤n→n≤100→jt n:=fun n _ _=>by unfold jt;omega
  split
  ·exact .same (four _ _ _ _ hb ha hc (OF (hI 0 an an)))
  split
  ·exact .same (four _ _ _ _ hb CU hc (OF (hI _ an an)))
  split
  ·exact .no _
  split
  ·exact .no _
  split
  ·exact .no _
  split
  ·exact .same (two _ _ ha hb)
  split
  ·exact .no _
  ·refine .ok an an (two _ _ ha (Rm (aft _ nx h0 an fun i h2 h3=>hS apB i h2 an)))
 refine qV.ite (fun _=>?_) fun _=>?_
 ·unfold lW;split
  ·exact .no _
  split
  ·exact .no _
  split
  ·exact .is _
  ·rename_i h1 _ _;exact .same (two _ _ (yx fun x hx=>OG (fun e=>h1 (.inr e)) hb hx) hc)
 refine qV.ite (fun _=>?_) fun _=>?_
 ·unfold jr;split
  ·exact .same (two _ _ hb (Rn fun t ht=>by rw[dh.1 ht];exact ha))
  split
  ·rename_i hk;refine .same (two _ _ hb (Rn fun t ht=>?_));rcases eL.1 ht with rfl |ht
   ·exact CU
   ·exact OG (by rw[hk];omega) ha ht
  split
  ·exact .no _
  split
  ·exact .no _
  ·have hr:=aip b.size b hb;unfold gR;split
   ·exact .no _
   ·rename_i h m hm;rw[hm]at hr;split
    ·exact .no _
    split
    ·exact .no _
    split
    ·exact .same (two _ _ ha (hr h aC))
    split
    ·exact .no _
    split
    ·exact .no _
    ·exact .same (two _ _ ha (Rm fun t ht=>hr t AK))
 ·unfold Q9;split
  ·exact .no _
  split
  ·exact .no _
  ·exact .is _
theorem Ro(hl:∀t∈l,t.Fit∧∀u∈cz t,u∈S)(h0:0≤nx)(h1:nx≤999000)(hS:∀i,nx≤i→i<nx+8→i∈S)(aZ:∀t∈l,t.l.length≤8):qV S nx (dR s l nx):=Zl hl h0 h1 (fun _=>hS) aZ
end aw

namespace Go.Proofs.YtaagocopollacaaGreatDoor
open Go aw Go.Proofs
theorem _root_.aw.GT.iC {t:Tm}(h:GT t):∀x,∀e∈t.gV x,e.2.s.size<1000000000:=fun d e he=>by have:=Hs h.fair d e he;omega

inductive Dn2 (S:List Int) (B0:ak):ak→Nat→List Tm→Bool→ak→Nat→Prop
 |nil {B:ak} {d:Nat} {l:List Tm} (hl:l.length<2):Dn2 S B0 B d l true B d
 |yes {B X:ak} {d n:Nat} {a b:Tm} {r:List Tm} {ok:Bool} {B':ak} {d':Nat} (h:Tm.eN S 3000 a n [(a,b)] B [] (B++X) true) (hs:eB S (B++X)) (hr:Dn2 S B0 (B++X) d r ok B' d'):Dn2 S B0 B d (a::b::r) ok B' d'
 |no {X0 X:ak} {d n:Nat} {a b:Tm} {r:List Tm} (h:Tm.eN S 3000 a n [(a,b)] (B0++X0) [] ((B0++X0)++X) false) (hs:eB S ((B0++X0)++X)):Dn2 S B0 (B0++X0) d (a::b::r) false B0 (X0.length+(X.length+d+1)+1)

theorem Zm {S:List Int}{B0:ak}:∀ (l:List Tm) (X0:ak) (d:Nat),eB S (B0++X0)→(∀t∈l,GT t∧∀u∈Tm.cz t,u∈S)→∃ok B' d',Dn2 S B0 (B0++X0) d l ok B' d'∧fP (B0++X0) l=(if ok then some B' else none)∧(ok=false→B'=B0)
 |[],X0,d,h,_=>⟨true,_,d,.nil aC,by simp[fP],by simp⟩
 |[_],X0,d,h,_=>⟨true,_,d,.nil aC,by simp[fP],by simp⟩
 |a::b::r,X0,d,h,hl=>by
  obtain⟨n,X,ok,h1,h2,h3⟩:=HB h (hl a aC).1 (hl b aC).1 (hl a aC).2 (hl b aC).2;rw[fP,h2];cases ok with
  |true =>
   obtain⟨Zk,B2,d2,g1,g2,g3⟩:=Zm r (X0++X) d (by rw[← List.append_assoc];exact h3) fun t ht=>hl t AK
   rw[← List.append_assoc]at g1 g2;exact⟨Zk,B2,d2,.yes h1 h3 g1,g2,g3⟩
  |false=>exact⟨false,B0,_,.no h1 h3,rfl,fun _=>rfl⟩

theorem Zn (Y:YP){S:List Int}(hS:S.length≤111000){B0:ak}{d0:Nat}(h0:eB S B0){l:List Tm}(gl:∀t∈l,GT t)(Vd:l.length≤1000){ok:Bool}{B':ak}{d':Nat}(h:Dn2 S B0 B0 d0 l ok B' d'):aU Tryz.prog Y 81 [.lo 0 0,.d (.sl (Tm.aa l))] (cv d0 B0) (bV ok) (cv d' B'):=by
 have kQ:=Tm.au l;refine Ph Tryz.func81 fun w S1 φ hg=>?_
 have hφ:φ.length=3:=hg.j5.len;refine af ?_;refine ai hg.ok hg.cm hg.wide hg.Y [0,1,2] (cv d0 B0) (ux Y d0 B0) cF rfl rfl rfl rfl rfl iU rfl iU (af ?_);refine bh (fun x:Nat × Nat × ak=>([(0,.lo 0 0),(1,.d (.sl (Tm.aa l))),(5,iV B0.length),(6,iV (2 * x.1:Nat))],cv x.2.1 (B0++x.2.2))) (fun x=>2 * x.1≤l.length∧Dn2 S B0 (B0++x.2.2) x.2.1 (l.drop (2 * x.1)) ok B' d'∧eB S (B0++x.2.2)) (fun x=>l.length - 2 * x.1) (0,d0,[]) ⟨cT _,by simpa using h,by simpa using h0⟩ Mx (by simp;rfl) ?_;rintro⟨k,d1,X1⟩ ⟨hk,hd,hs⟩;simp only at hk hd hs;refine af ?_;have hw:∀i:Int,0≤i→i≤3000→IntKind.i64.wrap i=i:=fun i h1 h2=>sK an an
 refine aj (fun h=>?_) fun h=>?_
 ·have aR:2 * k+1<l.length:=by
   have h:=of_decide_eq_true h;rw[kQ]at h;have e:IntKind.i64.wrap (((2 * k:Nat):Int)+1)=((2 * k:Nat):Int)+1:=hw _ an an;rw[e]at h;omega
  obtain⟨a,ea⟩:∃a,l[2 * k]? = some a:=⟨_,dY an⟩;obtain⟨b,eb⟩:∃b,l[2 * k+1]? = some b:=⟨_,dY aR⟩;have ga:=gl a (gZ ea);have gb:=gl b (gZ eb)
  have e2:l.drop (2 * k)=a::b::l.drop (2 * (k+1)):=by
   obtain⟨h1,h2⟩:=bC.1 ea;obtain⟨h3,h4⟩:=bC.1 eb;rw[List.drop_eq_getElem_cons h1,h2,List.drop_eq_getElem_cons h3,h4];rfl
  rw[e2]at hd;refine cW (Tm.aB ea) ?_;refine gN 26 rfl (bM.wrap (n:=((2 * k+1:Nat):Int)) an an an) ?_;refine cW (Tm.aB eb) ?_;generalize hB:B0++X1=B at hd hs ⊢;cases hd with
  |nil hl=>simp only[dv]at hl;omega
  |@yes _ X _ n _ _ _ _ _ _ hu mn hr =>
   have aZ:=mn.len;refine ai hg.ok hg.cm hg.wide hg.Y [0,1,2] (cv d1 (B++X)) (mP Y d1 an an an B X true a b n hu mn.ug.chain.nodup an ga.r gb.r (ga.iC 1) (gb.iC 1)) cF rfl rfl rfl rfl rfl iU rfl (by unfold Lm;rw[if_pos rfl,b8];rfl) (af ?_);refine gu ?_;have ea:B0++(X1++X)=B++X:=by rw[← List.append_assoc,hB]
   refine bp (k+1,d1,X1++X) ?_ ?_ ?_ ?_
   ·exact⟨by show 2 * (k+1)≤_;omega,by rw[ea];exact hr,by rw[ea];exact mn⟩
   ·show l.length - 2 * (k+1)<l.length - 2 * k;omega
   ·exact⟨.refl _,.refl _,.refl _,bM.wrap zu zu zu,trivial⟩
   ·show _=cv d1 (B0++(X1++X));rw[ea];rfl
  |@no X0 X _ n _ _ _ hu mn =>
   have aZ:=mn.len;have aqS:=hs.len;refine ai hg.ok hg.cm hg.wide hg.Y [0,1,2] (cv (X.length+d1+1) (B0++X0)) (mP Y d1 an an an (B0++X0) X false a b n hu mn.ug.chain.nodup an ga.r gb.r (ga.iC 1) (gb.iC 1)) cF rfl rfl rfl rfl rfl iU rfl (by unfold Lm;rw[if_neg aC,b8];rfl) (af ?_);refine oS ?_;refine ai hg.ok hg.cm hg.wide hg.Y [0,1,2] (cv (X0.length+(X.length+d1+1)+1) B0) (vj Y (X.length+d1+1) B0 X0 hs.ug.chain.nodup an) cF rfl rfl rfl rfl rfl iU rfl iU (af ?_);exact aK hg 3 5 cP rfl rfl (fX _ B0 _)
 ·have aR:l.length≤2 * k+1:=by
   have h:=of_decide_eq_false h;rw[kQ]at h;have e:IntKind.i64.wrap (((2 * k:Nat):Int)+1)=((2 * k:Nat):Int)+1:=hw _ an an;rw[e]at h;omega
  generalize hB:B0++X1=B at hd hs ⊢;generalize hr:l.drop (2 * k)=r at hd;have amM:r.length<2:=by rw[← hr,MC];omega
  cases hd with
  |nil=>exact aK hg 3 5 cP rfl rfl (fX _ _ _)
  |yes=>simp only[dv]at amM;omega
  |no=>simp only[dv]at amM;omega
end Go.Proofs.YtaagocopollacaaGreatDoor

namespace Go.Proofs.YtaagocopollacaaGreatDoor
open Go aw Go.Proofs
variable{B:ak}{l:List Tm}{S:List Int}{f:Nat}{t x:Tm}
def oP (B:ak)(l:List Tm):Bool:=l.any fun x=>(eH B x).2≠0
def bL (B:ak)(l:List Tm):List Tm:=l.map fun x=>(eH B x).1
def fT (B:ak)(t:Tm)(f:Nat):Ak:=dR t.s (bL B t.l) f

def afv (r:Dn ak)(nx:Nat):AV:=match r with
 | .bad e=>.cH [bV false,.d (.v (.string ByteArray.empty)),iV nx,iV e]
 | .no=>.cH [bV false,.d (.v (.string ByteArray.empty)),iV nx,iV 0]
 | .yes _ f tx=>.cH [bV true,.d (.v (.string (Tx tx))),iV f,iV 0]

def Zo (r:Dn ak)(B:ak):ak:=match r with
 | .yes b _ _=>b
 |_=>B

inductive w5 (S:List Int) (B:ak) (d:Nat) (t:Tm) (f:Nat):Nat→Prop
 |bad (h:oP B t.l=true):w5 S B d t f d
 |ask (h:oP B t.l=false) (ha:(fT B t f).e≠0∨(fT B t f).h=false):w5 S B d t f d
 |done (h:oP B t.l=false) (he:(fT B t f).e=0) (hh:(fT B t f).h=true) {ok:Bool} {X:ak} {d1:Nat} (hd:Dn2 S B B d (fT B t f).al ok (B++X) d1) (hu:fP B (fT B t f).al=if ok then some (B++X) else none) (hb:ok=false→X=[]) (hs:eB S (B++X)) (hl:(fT B t f).al.length≤4) (hg:∀x∈(fT B t f).al,GT x) (hn:(f:Int)≤(fT B t f).nx):w5 S B d t f (if (fT B t f).ap then X.length+d1+1 else d1)
noncomputable def uq (a:Ak) (B:ak) (f:Nat):Dn ak:=if a.ap then (match fP B a.al with |some _=>.no |none=>.yes B f []) else match fP B a.al with |none=>.no |some b'=>.yes b' a.nx.toNat a.tx

theorem Rp(h:oP B t.l=true):Am.oL B f t=.bad 3:=by
 exact if_pos h

theorem Zp(h:oP B t.l=false):Am.oL B f t=(if (fT B t f).e≠0 then .bad (fT B t f).e else if (fT B t f).h=false then .no else uq (fT B t f) B f):=by
 exact if_neg (show ¬ oP B t.l=true by rw[h];simp)

theorem acL{s:ByteArray}{n:Nat}(h:mf (s,(n:Int))=true):n≤3:=by
 have:=Ri (P:=fun _ n=>n≤3) s n h (fun _ _=>by omega) fi;omega

theorem OH(hs:eB S B)(hl:∀t∈l,GT t∧∀u∈Tm.cz t,u∈S)(h:oP B l=false):∀t∈bL B l,GT t∧∀u∈Tm.cz t,u∈S:=by
 intro t ht;obtain⟨x,hx,rfl⟩:=fA.1 ht
 have h0:(eH B x).2=0:=by
  unfold oP at h;rw[List.any_eq_false]at h;simpa using h x hx
 exact Rl hs (hl x hx).1 (hl x hx).2 h0

theorem Zq(d:Nat)(hs:eB S B)(hl:∀x∈t.l,GT x∧∀u∈Tm.cz x,u∈S)(hf:f≤999000)(hS:∀i:Int,f≤i→i<f+8→i∈S):∃dd,w5 S B d t f dd:=by
 cases h:oP B t.l with
 |true=>exact⟨_,.bad h⟩
 |false =>
  by_cases ha:(fT B t f).e≠0∨(fT B t f).h=false
  ·exact⟨_,.ask h ha⟩
  ·have hv:=OH hs hl h;have hA:qV S f (fT B t f):=Ro (fun t ht=>⟨(hv t ht).1.f,(hv t ht).2⟩) an an hS (fun t ht=>(hv t ht).1.len);obtain⟨ok,B',d1,h1,h2,h3⟩:=Zm (B0:=B) (fT B t f).al [] d (by rw[vJ];exact hs) hA.al;rw[vJ]at h1 h2
   have:eB S B'∧∃X,B'=B++X:=by
    cases ok with
    |true=>exact⟨yw hs hA.al (by rw[h2];rfl),qG (by rw[h2];rfl)⟩
    |false=>exact⟨by rw[h3 rfl];exact hs,[],by rw[h3 rfl,vJ]⟩
   obtain⟨mn,X,rfl⟩:=this;have he:(fT B t f).e=0:=Classical.byContradiction fun e=>ha (.inl e)
   have hh:(fT B t f).h=true:=by cases hh:(fT B t f).h with
    |true=>rfl
    |false=>exact absurd (.inr hh) ha
   exact⟨_,.done h he hh h1 h2 (fun h=>by have:=h3 h;simpa using this) mn hA.len (fun x hx=>(hA.al x hx).1) hA.lo⟩

theorem FP{g:G}{pf:Nat→cC}{Fin:Exit→Act→World→Prop}(hu:Iu g){k:List It}{E:bk}{objs:List Ob}(i:Nat)(E':bk)(objs':List Ob){sz s:Nat}{aa:List (List D)}(ho:dk objs i=some (.arr sz s aa))(ht:gz k=true)
  (hE:n8 (qn (kg i s aa) E) E') (hO:da (objs.map (aQ (kg i s aa))) i .dead=objs') (hr:R g pf Fin k E' objs') (jB:g.rr=[]:=by rfl):R g pf Fin k E objs:=by
 subst hO;exact Be hu i ho ht (WW E' hE hr) jB

theorem Lx(f:AV→AV)(d:Nat)(B:ak)(h1:f (.mp 1)=.mp 1)(h2:f (.ow 2 (B.length+d))=.ow 2 (B.length+d))(h3:∀t:Tm,f t.av=t.av):(cv d B).map (aQ f)=cv d B:=by
 simp only[cv,List.map_cons,fj];rw[dJ h3];simp only[aQ,List.map_cons,fj,h1,h2]

theorem FQ{k:Nat}(h:l[k]? = some x):bL B (l.take (k+1))=bL B (l.take k)++[(eH B x).1]:=by
 unfold bL;rw[I5,h];simp

theorem FR{k:Nat}(h:l[k]? = some x):oP B (l.take (k+1))=(oP B (l.take k) || decide ((eH B x).2≠0)):=by
 unfold oP;rw[I5,h];simp
theorem Rq(h:x∈l)(h2:(eH B x).2≠0):oP B l=true:=yM.2 ⟨x,h,by simpa using h2⟩
def akE (t:Tm)(a:Ak):List Ob:=[aP t,.dead,.box [bV a.h,.d (.sl (Tm.aa a.al)),bV a.ap,.d (.v (.string (Tx a.tx))),iV a.nx]]

theorem acM(Y:YP)(hS:S.length≤111000){d:Nat}(hs:eB S B)(ht:GT t)(hk:t.k=3)(hb:mf (t.s,(t.l.length:Int))=true)(hl:∀x∈t.l,GT x∧∀u∈Tm.cz x,u∈S)(hf:f≤999000)(hSf:∀i:Int,f≤i→i<f+8→i∈S){dd:Nat}(hD:w5 S B d t f dd):aU Tryz.prog Y 57 [t.av,.lo 0 0,iV f] (cv d B) (afv (Am.oL B f t) f) (cv dd (Zo (Am.oL B f t) B)):=by
 have kQ:=Tm.au t.l;refine Ph Tryz.func57 fun w S1 φ hg=>?_
 have hφ:φ.length=3:=hg.j5.len;have hr:=fun b hb=>(hs.gt b hb).r
 refine af ?_;refine aF (eY t ht.iw.1 (ht.iC 1)) ?_;rw[cN,ht.r];refine gu ?_;refine mw ?_;refine aF (zf t.s t.l hb) ?_;refine gu ?_;refine IM ?_;refine gu ?_;refine II ?_;refine II ?_;refine vC ?_;refine JL 10 4 rfl rfl (af ?_);refine bh (fun k:Nat=>([(1,.lo 0 0),(2,iV f),(3,.lo 3 0),(10,.ow 4 k),(50,.d (.sl (Tm.aa t.l))),(51,iV t.l.length),(52,iV k)],cv d B++[aP t,.arr 4 k (Tm.aa (bL B (t.l.take k)))])) (fun k=>k≤t.l.length∧oP B (t.l.take k)=false) (fun k=>t.l.length - k) 0 ⟨cT _,by simp[oP]⟩ ⟨.refl _,.refl _,.refl _,.refl _,.refl _,by rw[kQ];exact .refl _,.refl _,trivial⟩ rfl ?_;rintro k ⟨hk,he⟩;have hl8:=acL hb;have Qx:(bL B (t.l.take k)).length=k:=by unfold bL;rw[eS,zz];omega
 have hrk:(Tm.aa (bL B (t.l.take k))).length=k:=by rw[Tm.au,Qx]
 refine af ?_;refine iD (fun h=>?_) fun h=>?_
 ·refine af ?_;have aR:k<t.l.length:=bK h rfl;have e1:t.l[k]? = some t.l[k]:=dY aR;have hmem:=eg aR;have hm:=hl _ hmem;generalize t.l[k]=x at e1 hm hmem;refine cW (Tm.aB e1) ?_;refine ai hg.ok hg.cm hg.wide hg.Y [0,1,2] (cv d B++[aP t,.arr 4 k (Tm.aa (bL B (t.l.take k))),aP x]) (wU Y d an cP B hr hs.ug x hm.1.r hm.1.iC) cF rfl rfl rfl rfl rfl iU rfl iU ?_;show R _ _ _ _ (bf _ _ (c8 _ (.cH [(eH B x).1.av,iV (eH B x).2]))) _
  have e3:(eH B x).2≠0→(eH B x).2=3:=Lw;have e4:=FQ (B:=B) e1;have e5:=FR (B:=B) e1;have e6:=Rq (B:=B) hmem;generalize eH B x=v at e3 e4 e5 e6;obtain⟨v,ve⟩:=v;simp only at e3 e4 e5 e6;refine af ?_;refine aj (fun h2=>?_) fun h2=>?_
  ·have h2:ve≠0:=by simpa using h2
   have eV:=e6 h2;cases hD with
   |bad _ =>
    rw[Rp eV];exact VM
   |ask h=>rw[eV]at h;cases h
   |done h=>rw[eV]at h;cases h
  ·have h2:ve=0:=by simpa using h2
   refine dp hg.ok (Tm.aa (bL B (t.l.take (k+1)))) rfl rfl rfl rfl rfl rfl rfl rfl rfl (by simp[Tm.row]) PO (by rw[e4,← oh]) PN PN (af ?_);refine bb 5 (cv d B++[aP t,.arr 4 (k+1) (Tm.aa (bL B (t.l.take (k+1))))]) (by show φ.length≤5;omega) rfl ?_ ?_
   ·show List.map _ (cv d B)++_=_
    rw[Lx _ d B rfl rfl fun _=>rfl];rfl
   exact bp (k+1) ⟨aR,by rw[e5,he,h2];rfl⟩ an aj0 rfl
 ·have aR:t.l.length≤k:=cf h rfl;rw[Ih aR]at he hrk Qx ⊢;refine FP hg.cm 4 [(1,.lo 0 0),(2,iV f),(3,.lo 3 0),(10,.d (.sl (Tm.aa (bL B t.l)))),(53,.ff)] (cv d B++[aP t,.dead]) rfl rfl ⟨.refl _,.refl _,.refl _,bM.frz 4 _ _,.refl _,trivial⟩ ?_ ?_
  ·show da (List.map _ (cv d B++[aP t,_])) 4 Ob.dead=_
   rw[List.map_append,Lx _ d B rfl rfl fun _=>rfl];rfl
  refine af ?_;have aZ:(bL B t.l).length=t.l.length:=by unfold bL;rw[eS]
  have OI:bD Tryz.prog 80 [.d (.v (.string t.s)),.d (.sl (Tm.aa (bL B t.l))),iV f] (kK (fT B t f) f):=aii t.s (bL B t.l) f ⟨by omega,by omega⟩ (by rw[aZ];exact hb) (fun x hx=>(OH hs hl he x hx).1) an;rw[Zp (B:=B) (t:=t) (f:=f) he];by_cases he0:(fT B t f).e≠0
  ·rw [show kK (fT B t f) f=.cH [akZ,iV (fT B t f).e] from if_pos he0] at OI;rw[if_pos he0];refine aF (OI) ?_;refine cQ hg.ok rfl rfl (by simp[he0]) rfl rfl ?_;cases hD with
   |bad h=>rw[he]at h;cases h
   |ask h=>exact aK hg 3 5 cP rfl rfl (fX d B _)
   |done h h2=>exact absurd h2 he0
  rw[if_neg he0];by_cases hh0:(fT B t f).h=false
  ·rw [show kK (fT B t f) f=.cH [Rj (eG f 0),iV 0] by unfold kK; rw [if_neg he0,if_pos hh0]] at OI;rw[if_pos hh0];refine aF (OI) ?_;refine gu ?_;refine cQ hg.ok rfl rfl (by simp[eG]) rfl rfl ?_;cases hD with
   |bad h=>rw[he]at h;cases h
   |ask h=>exact aK hg 3 5 cP rfl rfl (fX d B _)
   |done h h2 h3=>rw[hh0]at h3;cases h3
  rw[if_neg hh0];rw[show kK (fT B t f) f=.cH [Rj (fT B t f),iV 0] by unfold kK;rw[if_neg he0,if_neg hh0]]at OI;cases hD with
  |bad h=>rw[he]at h;cases h
  |ask h h2=>exact(h2.elim he0 hh0).elim
  |@done h h2 h3 ok X d1 hd hu U9 mn BQ hgt iW =>
  generalize fT B t f=a at OI hd hu BQ hgt iW h3 ⊢;refine aF (OI) ?_;refine gu ?_;refine en hg.ok rfl rfl (by simp[h3]) rfl rfl ?_;refine ai hg.ok hg.cm hg.wide hg.Y [0,1,2] (cv d B++akE t a) (ux Y d B) cF rfl rfl rfl rfl rfl iU rfl iU (af ?_);refine ai hg.ok hg.cm hg.wide hg.Y [0,1,2] (cv d1 (B++X)++akE t a) (Zn Y hS hs hgt an hd) cF rfl rfl rfl rfl rfl iU rfl iU (af ?_);have hBX:=mn.len;by_cases hap:a.ap=true
  ·rw [if_pos hap];refine cQ hg.ok rfl rfl (by simp[hap]) rfl rfl ?_;refine ai hg.ok hg.cm hg.wide hg.Y [0,1,2] (cv (X.length+d1+1) B++akE t a) (vj Y d1 B X mn.ug.chain.nodup an) cF rfl rfl rfl rfl rfl iU rfl iU (af ?_);cases ok with
   |true =>
    rw[show uq a B f=.no by unfold uq;rw[if_pos hap,hu];rfl];exact aK hg 3 5 cP rfl rfl (fX _ B _)
   |false =>
    rw[show uq a B f=.yes B f [] by unfold uq;rw[if_pos hap,hu];rfl];exact aK hg 3 5 cP rfl rfl (fX _ B _)
  ·rw [if_neg hap];refine en hg.ok rfl rfl (by simp[hap]) rfl rfl ?_;cases ok with
   |false =>
    refine oS ?_;rw[show uq a B f=.no by unfold uq;rw[if_neg hap,hu];rfl];have e:=U9 rfl;subst e;have ec:=fX d1 (B++[]);rw[vJ]at ec;refine aK hg 3 5 cP rfl rfl ?_;show ((cv d1 (B++[])).map _)=_
    rw[vJ];exact ec _
   |true =>
    refine gu ?_;rw[show uq a B f=.yes (B++X) a.nx.toNat a.tx by unfold uq;rw[if_neg hap,hu];rfl];have e:((a.nx.toNat:Nat):Int)=a.nx:=by omega
    refine aK hg 3 5 cP rfl ?_ (fX _ (B++X) _);show _=AV.cH [bV true,.d (.v (.string (Tx a.tx))),iV (a.nx.toNat:Nat),iV 0]
    rw[e];rfl
end Go.Proofs.YtaagocopollacaaGreatDoor

namespace aw
open Go Tm
def tZ:List Int:=(List.range 111000).map fun (n:Nat)=>(n:Int)
theorem sP:tZ.length=111000:=by unfold tZ;rw[eS,List.length_range]

theorem Ao {i:Int}(h0:0≤i)(h1:i<111000):i∈tZ:=by
 unfold tZ;exact fA.2 ⟨i.toNat,zC.2 an,by omega⟩

mutual
def su (p:Gl→Prop):Gl→Prop
 | .mk k t a b c=>p (.mk k t a b c)∧eC p a∧eC p b∧eC p c
def eC (p:Gl→Prop):List Gl→Prop
 |[]=>True
 |g::r=>su p g∧eC p r
end
theorem Ap {p:Gl→Prop}{g:Gl}:su p g↔p g∧eC p g.a∧eC p g.b∧eC p g.c:=by cases g;rw[su];rfl

theorem yy {p:Gl→Prop}{l:List Gl}:eC p l↔∀g∈l,su p g:=by
 induction l with
 |nil=>simp[eC]
 |cons g r ih=>rw[eC,ih];simp

mutual
def nbG:Gl→Nat
 | .mk k _ a b c=>(if k=2∨k=5 then 1 else 0)+ua a+ua b+ua c
def ua:List Gl→Nat
 |[]=>0
 |g::r=>nbG g+ua r
end
theorem OJ (g:Gl):nbG g=(if g.k=2∨g.k=5 then 1 else 0)+ua g.a+ua g.b+ua g.c:=by cases g;rw[nbG];rfl

theorem Rs:∀ (l m:List Gl),ua (l++m)=ua l+ua m
 |[],m=>by rw[ua];simp
 |g::r,m=>by rw[jj,ua,ua,Rs r m];omega
theorem FT:nbG aM=0:=by rw[aM,nbG];simp[ua]
theorem acN:nbG dK=1:=by rw[dK,nbG];simp[ua]

structure GlF (V:Nat) (g:Gl):Prop where
 t:g.k=1∨g.k=2→GT g.t∧g.t.k=3
 o:g.k=1∨g.k=2→∀u∈cz g.t,0≤u∧u<V
 b:g.k=2→mf (iv g.t)=true
 len:g.a.length≤20∧g.b.length≤20∧g.c.length≤20

theorem FU (V:Nat):su (GlF V) aM:=by
 rw[aM,su];refine⟨⟨fun h=>?_,fun h=>?_,fun h=>?_,by decide⟩,by simp[eC],by simp[eC],by simp[eC]⟩<;>simp[Gl.k]at h

theorem acP (V:Nat):su (GlF V) dK:=by
 rw[dK,su];refine⟨⟨fun _=>⟨⟨by kernel_rfl,?_⟩,rfl⟩,fun _ u hu=>?_,fun _=>by kernel_rfl,by decide⟩,by simp[eC],by simp[eC],by simp[eC]⟩
 ·exact(CU (S:=[])).1
 ·have:=(CU (S:=[]) (s:=Tx [102,97,105,108])).2 u hu;cases this
def mj (l:List Td):Nat:=gq (l.map (·.g))
def zh (l:List Td):Nat:=ua (l.map (·.g))
theorem nL (l:List Gl)(sh to:Nat)(r:List Td):mj (bJ l sh to r)=gq l+mj r:=by unfold mj;rw[Zi,CO]
theorem qI (l:List Gl)(sh to:Nat)(r:List Td):zh (bJ l sh to r)=ua l+zh r:=by unfold zh;rw[Zi,Rs]
theorem tB (x:Td)(r:List Td):mj (x::r)=CN x.g+mj r:=by simp[mj,gq]
theorem w6 (x:Td)(r:List Td):zh (x::r)=nbG x.g+zh r:=by simp[zh,ua]

structure TdG (F T:Nat) (x:Td):Prop where
 g:∃V,x.sh+V≤F∧su (GlF V) x.g
 to:x.to≤T

structure pV (F T:Nat) (l:List Td):Prop where
 all:∀x∈l,TdG F T x
 pw:l.Pairwise fun x y=>y.to≤x.to

theorem pV.mono {F F' T T':Nat}(hF:F≤F')(hT:T≤T'){l:List Td}(h:pV F T l):pV F' T' l:=⟨fun x hx=>by
 obtain⟨⟨V,h1,h2⟩,h3⟩:=h.all x hx;exact⟨⟨V,by omega,h2⟩,by omega⟩,h.pw⟩

theorem pV.put {F T V sh to:Nat}{l:List Gl}{r:List Td}(hl:eC (GlF V) l)(hs:sh+V≤F)(ht:to≤T)(hr:pV F T r)(Vk:∀y∈r,y.to≤to):pV F T (bJ l sh to r):=by
 refine⟨fun x hx=>?_,?_⟩
 ·unfold bJ at hx;rcases bW.1 hx with hx |hx
  ·obtain ⟨g,hg,rfl⟩:=fA.1 hx;exact⟨⟨V,hs,yy.1 hl g hg⟩,ht⟩
  ·exact hr.all x hx
 ·unfold bJ;rw[kS];refine⟨?_,hr.pw,fun x hx y hy=>?_⟩
  ·rw [List.pairwise_map];clear hl;induction l with
   |nil=>exact .nil
   |cons g l ih=>exact xz.2 ⟨fun _ _=>ef _,ih⟩
  ·obtain ⟨g,hg,rfl⟩:=fA.1 hx;exact Vk y hy

theorem pV.cons {F T:Nat}{x:Td}{r:List Td}(hx:TdG F T x)(hr:pV F T r)(Vk:∀y∈r,y.to≤x.to):pV F T (x::r):=⟨fun y hy=>by
 rcases eL.1 hy with rfl |hy
 ·exact hx
 ·exact hr.all y hy,xz.2 ⟨Vk,hr.pw⟩⟩
theorem pV.nil (F T:Nat):pV F T []:=⟨by simp,.nil⟩

structure Ml (n ab done i:Nat) (t:Tr):Prop where
 tY:pV t.az i t.tY
 p1:t.az+8 * zh t.tY+(if t.other then 0 else 1160)+(ab - done) * 1160≤110000
 p2:i+mj t.tY+(if t.other then 0 else 90)+(ab - done) * 90≤1000000
 oW:t.oW≤n
 call:t.other=false→GT t.call∧∀u∈cz t.call,0≤u∧u<t.az

theorem Ml.done {n ab d d' i:Nat}{t:Tr}(h:Ml n ab d i t)(hd:d≤d'):Ml n ab d' i t:=by
 have e1:(ab - d') * 1160≤(ab - d) * 1160:=o7 _ an;have e2:(ab - d') * 90≤(ab - d) * 90:=o7 _ an;have h1:=h.p1;have h2:=h.p2;refine⟨h.tY,?_,?_,h.oW,h.call⟩
 ·generalize (if t.other=true then 0 else 1160)=c at h1 ⊢;exact tP (Nat.add_le_add_left e1 _) h1
 ·generalize (if t.other=true then 0 else 90)=c at h2 ⊢;exact tP (Nat.add_le_add_left e2 _) h2

structure pW (n ab done bl:Nat) (T:List Tr):Prop where
 tr:∀ (i:Nat) (t:Tr),T[i]? = some t→Ml n ab done i t∧t.mark≤bl
 srt:∀ (i j:Nat) (ti tj:Tr),i≤j→T[i]? = some ti→T[j]? = some tj→ti.mark≤tj.mark
theorem pW.done {n ab d d' bl:Nat}{T:List Tr}(h:pW n ab d bl T)(hd:d≤d'):pW n ab d' bl T:=⟨fun i t hi=>⟨(h.tr i t hi).1.done hd,(h.tr i t hi).2⟩,h.srt⟩
theorem pW.bl {n ab d bl bl':Nat}{T:List Tr}(h:pW n ab d bl T)(hb:bl≤bl'):pW n ab d bl' T:=⟨fun i t hi=>⟨(h.tr i t hi).1,tP (h.tr i t hi).2 hb⟩,h.srt⟩

theorem pW.take {n ab d bl:Nat}{T:List Tr}(h:pW n ab d bl T)(k:Nat):pW n ab d bl (T.take k):=by
 have key:∀ (i:Nat) (t:Tr),(T.take k)[i]? = some t→T[i]? = some t:=fun i t hi=>by
  rw[Wk]at hi;split at hi
  ·exact hi
  ·cases hi
 exact⟨fun i t hi=>h.tr i t (key i t hi),fun i j ti tj Ti hi hj=>h.srt i j ti tj Ti (key i ti hi) (key j tj hj)⟩

theorem pW.push {n ab d bl:Nat}{T:List Tr}{t:Tr}(h:pW n ab d t.mark T)(ht:Ml n ab d T.length t)(hb:t.mark≤bl):pW n ab d bl (T++[t]):=by
 have key:∀ (i:Nat) (u:Tr),(T++[t])[i]? = some u→T[i]? = some u∨(i=T.length∧u=t):=fun i u hi=>by
  rcases oy i T.length with hl |hl
  ·rw[jx hl]at hi;exact .inl hi
  ·rw [kR hl] at hi;rcases Sn (i - T.length) with h0 |h0
   ·rw [h0] at hi;simp at hi;exact .inr ⟨by omega,hi.symm⟩
   ·rw[Jc zw]at hi;cases hi
 refine⟨fun i u hi=>?_,fun i j ti tj Ti hi hj=>?_⟩
 ·rcases key i u hi with hi | ⟨rfl,rfl⟩
  ·exact⟨(h.tr i u hi).1,tP (h.tr i u hi).2 hb⟩
  ·exact⟨ht,hb⟩
 ·rcases key i ti hi with a1 | ⟨a1,a2⟩
  ·rcases key j tj hj with b1 | ⟨b1,b2⟩
   ·exact h.srt i j ti tj Ti a1 b1
   ·rw[b2];exact(h.tr i ti a1).2
  ·rcases key j tj hj with b1 | ⟨b1,b2⟩
   ·have:=(bC.1 b1).1;omega
   ·rw[a2,b2];exact ef _

structure aiq (c:Cs):Prop where
 head:GT c.head
 ho:∀u∈cz c.head,0≤u∧u<c.vars.toNat
 v:c.vars.toNat≤1000
 v0:0≤c.vars
 body:eC (GlF c.vars.toNat) c.body
 Oe:c.body.length≤20
 bnb:ua c.body≤20
 bsz:gq c.body≤80

structure rk (P:List Cs):Prop where
 len:P.length≤200
 cls:∀c∈P,aiq c

structure MI (n ab:Nat) (m:Mo):Prop where
 sv:eB tZ m.B
 p1:m.az+8 * zh m.now+(ab - m.done) * 1160≤110000
 p2:m.ag.length+mj m.now+(ab - m.done) * 90≤1000000
 now:pV m.az m.ag.length m.now
 tr:pW n ab m.done m.B.length m.ag

theorem CV {t:Tm}(h:GT t){V f F:Nat}(ho:∀u∈cz t,0≤u∧u<V)(hs:f+V≤F)(hF:F≤110000):GT (dz f t)∧∀u∈cz (dz f t),0≤u∧u<F:=by
 unfold dz;refine⟨h.bO fun v hv=>by have:=ho v hv;omega,fun u hu=>?_⟩;rw[rR _ t h.fair]at hu;obtain⟨v,hv,hu⟩:=wG _ _ hu;rw[vT,cz,if_pos rfl]at hu;have:=dh.1 hu;have:=ho v hv;omega
end aw

namespace aw
open Go Tm
variable{m:Mo}{t:Tr}{n:Nat}
section
variable {P:List Cs} {ab:Nat}

theorem CW{t:Tm}{F:Nat}(hF:F≤110000)(h:∀u∈cz t,0≤u∧u<F):∀u∈cz t,u∈tZ:=fun u hu=>by
 have:=h u hu;exact Ao this.1 an
theorem Ml.fr{n ab done i:Nat}(h:Ml n ab done i t):t.az≤110000:=by have:=h.p1;omega

theorem Aq{B:ak}{c:Cs}{i d:Nat}(hs:eB tZ B)(ht:Ml P.length ab d i t)(ho:t.other=false)(hc:aiq c):GT (dz t.az c.head)∧(∀u∈cz (dz t.az c.head),u∈tZ)∧GT t.call∧∀u∈cz t.call,u∈tZ:=by
 have h1:=ht.p1;rw[ho]at h1;simp only[lL,if_false]at h1;have hv:=hc.v;have eE:=CV hc.head hc.ho (ef (t.az+c.vars.toNat)) an;have hca:=ht.call ho;exact⟨eE.1,CW an eE.2,hca.1,CW ht.fr hca.2⟩

theorem Ar(hP:rk P){m:Mo}{t:Tr}(hs:eB tZ m.B)(hm:t.mark=m.B.length)(hf:m.az=t.az)(ht:Ml P.length ab m.done m.ag.length t)(ho:t.other=false)(hT:pW P.length ab m.done m.B.length m.ag):∀ (l:List Cs) (i:Nat),P.drop i=l→∀m',je m t i l=some m'→MI P.length ab m'
 |[],_,_,m',h=>by simp[je]at h
 |c::r,i,hi,m',h=>by
  have hmem:c∈P:=Wf (i:=i) (by rw[hi];simp);have hc:=hP.cls c hmem;have hr:P.drop (i+1)=r:=by rw[← List.drop_drop,hi];rfl
  have fu:i+1≤P.length:=by
   rcases oy i P.length with h |h
   ·exact h
   ·rw[gD h]at hi;cases hi
  rw[je]at h;split at h
  ·cases hu:sd m.B t.call (dz m.az c.head) with
   |none=>rw[hu]at h;exact Ar hP hs hm hf ht ho hT r _ hr _ h
   |some B' =>
    rw[hu]at h;cases h;obtain⟨g1,g2,g3,g4⟩:=Aq hs ht ho hc;rw[hf]at hu;obtain⟨fh,X,hX⟩:=Ls hs g3 g1 g4 g2 hu;have h1:=ht.p1;have h2:=ht.p2;rw[ho]at h1 h2;simp only[lL,if_false]at h1 h2;have b1:=hc.v;have b2:=hc.bnb;have b3:=hc.bsz;generalize e1:(ab - m.done) * 1160=k1 at h1;generalize e2:(ab - m.done) * 90=k2 at h2;refine⟨fh,?_,?_,?_,?_⟩
    ·show m.az+c.vars.toNat+8 * zh (bJ c.body m.az m.ag.length t.tY)+(ab - m.done) * 1160≤110000
     rw[qI,e1];omega
    ·show (m.ag++[_]).length+mj (bJ c.body m.az m.ag.length t.tY)+(ab - m.done) * 90≤1000000
     rw[nL,e2,List.length_append];simp only[vL];omega
    ·show pV (m.az+c.vars.toNat) (m.ag++[_]).length (bJ c.body m.az m.ag.length t.tY)
     rw[List.length_append];exact .put hc.body cP an (ht.tY.mono an an) fun y hy=>(ht.tY.all y hy).to
    ·refine pW.push (t:={ t with oW:=i+1 }) ?_ ⟨ht.tY,?_,?_,fu,ht.call⟩ ?_
     ·show pW P.length ab m.done t.mark m.ag
      rw[hm];exact hT
     ·exact ht.p1
     ·exact ht.p2
     ·show t.mark≤B'.length
      rw[hX,hm,List.length_append];omega
  ·exact Ar hP hs hm hf ht ho hT r _ hr _ h

structure BI (n ab:Nat) (m:Mo):Prop where
 sv:eB tZ m.B
 tr:pW n ab m.done m.B.length m.ag
theorem MI.b{n ab:Nat}(h:MI n ab m):BI n ab m:=⟨h.sv,h.tr⟩

theorem Zr{S:List Int}{B:ak}(h:eB S B)(k:Nat):eB S (B.take k):=by
 have:eB S (B.take k++B.drop k):=by rw[List.take_append_drop];exact h
 exact this.take

structure air (n ab:Nat) (m:Mo) (t:Tr):Prop where
 b:BI n ab { m with ag:=m.ag.dropLast,B:=m.B.take t.mark,az:=t.az }
 tg:Ml n ab m.done m.ag.dropLast.length t
 mrk:t.mark=(m.B.take t.mark).length

theorem BI.pop{n ab:Nat}(h:BI n ab m)(hl:m.ag.getLast? = some t):air n ab m t:=by
 have eo:m.ag≠[]:=fun e=>by rw[e]at hl;cases hl
 have aho:0<m.ag.length:=List.length_pos_iff.2 eo;rw[List.getLast?_eq_getElem?]at hl;obtain⟨h1,h2⟩:=h.tr.tr _ t hl;have hk:t.mark=(m.B.take t.mark).length:=by rw[zz];omega
 refine⟨⟨Zr h.sv _,⟨fun i u hi=>?_,fun i j ti tj Ti hi hj=>?_⟩⟩,by rw[P3];exact h1,hk⟩
 ·have SV:m.ag[i]? = some u∧i<m.ag.length - 1:=by
   rw[List.dropLast_eq_take,Wk]at hi;split at hi
   ·exact⟨hi,by assumption⟩
   ·cases hi
  refine⟨(h.tr.tr i u SV.1).1,?_⟩;show u.mark≤(m.B.take t.mark).length
  rw[← hk];exact h.tr.srt i _ u t an SV.1 hl
 ·have key:∀ (i:Nat) (u:Tr),m.ag.dropLast[i]? = some u→m.ag[i]? = some u:=fun i u hi=>by
   rw[List.dropLast_eq_take,Wk]at hi;split at hi
   ·exact hi
   ·cases hi
  exact h.tr.srt i j ti tj Ti (key _ _ hi) (key _ _ hj)

theorem air.other{n ab:Nat}(h:air n ab m t)(ho:t.other=true):MI n ab { m with ag:=m.ag.dropLast,B:=m.B.take t.mark,az:=t.az,now:=t.tY }:=by
 have h1:=h.tg.p1;have h2:=h.tg.p2;rw[ho]at h1 h2;simp only[if_true,Ja]at h1 h2;exact⟨h.b.sv,h1,h2,h.tg.tY,h.b.tr⟩

theorem Ly(hP:rk P):∀ (k:Nat) (m:Mo),BI P.length ab m→(jh P k m).2=true→MI P.length ab (jh P k m).1
 |0,m,_,h=>by rw[jh]at h;cases h
 |k+1,m,hb,h=>by
  rw[jh]at h ⊢;cases hl:m.ag.getLast? with
  |none=>rw[hl]at h;cases h
  |some t =>
   rw[hl]at h;have hp:=hb.pop hl;simp only at h ⊢;split
   ·rename_i ho;exact hp.other ho
   ·rename_i ho;have ho:t.other=false:=by simpa using ho
    cases hc:je { m with ag:=m.ag.dropLast,B:=m.B.take t.mark,az:=t.az } t t.oW (P.drop t.oW) with
    |some m'=>exact Ar hP hp.b.sv hp.mrk rfl hp.tg ho hp.b.tr _ _ rfl _ hc
    |none =>
     rw[if_neg (by rw[ho];simp),hc]at h;exact Ly hP k _ hp.b h
theorem pX(hP:rk P)(hb:BI P.length ab m)(h:(ep P m).2=true):MI P.length ab (ep P m).1:=Ly hP _ m hb h
theorem HD{t:Tm}(h:GT t)(hk:t.k=3){F:Nat}(ho:∀u∈cz t,0≤u∧u<F){x:Tm}(hx:x∈t.l):GT x∧∀u∈cz x,0≤u∧u<F:=⟨h.kid hx,fun u hu=>ho u (by rw[qD,if_neg an];exact wR hx hu)⟩

theorem Zs(hP:rk P){t:Tm}(hb:BI P.length ab m)(h1:m.az+8+8 * zh m.now+(ab - m.done) * 1160≤110000)(h2:m.ag.length+mj m.now+(ab - m.done) * 90≤1000000)(hn:pV m.az m.ag.length m.now)(gt:GT t)(hk:t.k=3)(ho:∀u∈cz t,0≤u∧u<m.az)(h:(oo P m t).2=true):MI P.length ab (oo P m t).1:=by
 unfold oo at h ⊢;by_cases he:(t.l.any fun x=>(eH m.B x).2≠0)=true
 ·rw[if_pos he]at h;cases h
 rw[if_neg he]at h ⊢
 have hA:qV tZ m.az (dR t.s (t.l.map fun x=>(eH m.B x).1) m.az):=by
  have hv:∀y∈t.l.map fun x=>(eH m.B x).1,GT y∧∀u∈cz y,u∈tZ:=fun y hy=>by
   obtain⟨x,hx,rfl⟩:=fA.1 hy;obtain⟨k1,k2⟩:=HD gt hk ho hx;refine Rl hb.sv k1 (CW an k2) ?_
   have he:∀x∈t.l,(eH m.B x).2=0:=by
    intro x hx;apply Classical.byContradiction;intro eo;exact he (yM.2 ⟨x,hx,by simpa using eo⟩)
   exact he x hx
  have hl8:∀y∈t.l.map (fun x=>(eH m.B x).1),y.l.length≤8:=fun y hy=>by
   have h1:=(hv y hy).1.fair;rw[Tm.px]at h1;simp only[aV]at h1;have h2:=h1.2;unfold Tm.mu at h2;split at h2
   ·simp only[aV,beq_iff_eq]at h2;omega
   ·split at h2
    ·simp only[aV,beq_iff_eq]at h2;omega
    ·simp only[aV,decide_eq_true_eq]at h2;omega
  exact Ro (fun y hy=>⟨(hv y hy).1.f,(hv y hy).2⟩) an an (fun i h3 h4=>Ao an an) hl8
 simp only at h ⊢;generalize dR t.s (t.l.map fun x=>(eH m.B x).1) m.az=a at hA h ⊢;by_cases h3:a.e≠0
 ·rw[if_pos h3]at h;cases h
 rw[if_neg h3]at h ⊢;by_cases h4:a.h=false
 ·rw[if_pos h4]at h ⊢;exact pX hP hb h
 rw[if_neg h4]at h ⊢;have stay:MI P.length ab m:=⟨hb.sv,by omega,h2,hn,hb.tr⟩;by_cases h5:a.ap=true
 ·rw [if_pos h5] at h ⊢;cases hu:fP m.B a.al with
  |some B'=>rw[hu]at h;exact pX hP hb h
  |none=>exact stay
 rw[if_neg h5]at h ⊢;cases hu:fP m.B a.al with
 |none=>rw[hu]at h;exact pX hP hb h
 |some B' =>
  have fh:=yw hb.sv hA.al hu;obtain⟨X,hX⟩:=qG hu;have lo:=hA.lo;have hi:=hA.hi;refine⟨fh,?_,h2,hn.mono (by show m.az≤a.nx.toNat;omega) cP,hb.tr.bl ?_⟩
  ·show a.nx.toNat+8 * zh m.now+(ab - m.done) * 1160≤110000
   omega
  ·show m.B.length≤B'.length
   rw[hX,List.length_append];omega

theorem Zt(hP:rk P){head:Tm}(hm:MI P.length ab m)(h:(eh P head ab m).2=true):MI P.length ab (eh P head ab m).1:=by
 unfold eh at h ⊢;cases zQ:m.now with
 |nil =>
  rw[zQ]at h;show MI P.length ab (jf P head m).1
  have h:(jf P head m).2=true:=h;unfold jf at h ⊢;by_cases he:(head.l.any fun x=>decide ((eH m.B x).2≠0))=true
  ·rw[if_pos he]at h;cases h
  ·rw [if_neg he] at h ⊢;exact pX hP (m:={ m with aD:=_ }) ⟨hm.sv,hm.tr⟩ h
 |cons x r =>
  rw[zQ]at h;simp only at h ⊢;have p1:=hm.p1;have p2:=hm.p2;have hn:=hm.now;rw[zQ]at p1 p2 hn;rw[w6,OJ]at p1;rw[tB,jP]at p2;obtain⟨⟨V,hV,hg⟩,Vk⟩:=hn.all x aC;have hpw:=xz.1 hn.pw;have hr:pV m.az m.ag.length r:=⟨fun y hy=>hn.all y kb,hpw.2⟩;have hgl:=Ap.1 hg;have hF:=hgl.1;generalize e1:(ab - m.done) * 1160=k1 at p1;generalize e2:(ab - m.done) * 90=k2 at p2;by_cases c1:x.g.k=0∨x.g.k=3
  ·rw [if_pos c1];refine⟨hm.sv,?_,?_,?_,hm.tr.take _⟩
   ·show m.az+8 * zh r+(ab - m.done) * 1160≤110000
    rw[e1];omega
   ·show (m.ag.take x.to).length+mj r+(ab - m.done) * 90≤1000000
    rw[e2,zz];omega
   ·refine ⟨fun y hy=>⟨(hr.all y hy).g,?_⟩,hr.pw⟩;show y.to≤(m.ag.take x.to).length
    rw[zz];have:=hpw.1 y hy;have:=(hr.all y hy).to;omega
  rw[if_neg c1]at h ⊢;have k0:x.g.k≠0:=fun e=>c1 (.inl e)
  by_cases c2:x.g.k=2
  ·rw [if_pos c2] at h ⊢;obtain⟨gt,hk⟩:=hF.t (.inr c2);obtain⟨g1,g2⟩:=CV gt (hF.o (.inr c2)) hV an;rw[if_pos (.inl c2)]at p1;refine Zs hP (m:={ m with now:=r }) ⟨hm.sv,hm.tr⟩ ?_ ?_ hr g1 ?_ g2 h
   ·show m.az+8+8 * zh r+(ab - m.done) * 1160≤110000
    rw[e1];omega
   ·show m.ag.length+mj r+(ab - m.done) * 90≤1000000
    rw[e2];omega
   ·unfold dz;rw[sf];exact hk
  rw[if_neg c2]at h ⊢;by_cases c4:x.g.k=4
  ·rw [if_pos c4];have hz:¬ (x.g.k=0∨x.g.k=2):=by omega
   rw[if_neg hz]at p2;have hlb:=Vk;have Q2:pV m.az (m.ag.length+1) (bJ x.g.b x.sh x.to r):=.put hgl.2.2.1 hV an (hr.mono cP an) hpw.1
   have amN:∀y∈bJ x.g.b x.sh x.to r,y.to≤m.ag.length:=fun y hy=>by
    unfold bJ at hy;rcases bW.1 hy with hy |hy
    ·obtain⟨g,_,rfl⟩:=fA.1 hy;exact Vk
    ·exact(hr.all y hy).to
   refine⟨hm.sv,?_,?_,?_,?_⟩
   ·show m.az+8 * zh (bJ x.g.a x.sh m.ag.length (⟨aM,0,m.ag.length⟩::bJ x.g.b x.sh x.to r))+(ab - m.done) * 1160≤110000
    rw[qI,w6,qI,FT,e1];omega
   ·show (m.ag++[_]).length+mj (bJ x.g.a x.sh m.ag.length (⟨aM,0,m.ag.length⟩::bJ x.g.b x.sh x.to r))+(ab - m.done) * 90≤1000000
    rw[nL,tB,nL,gp,e2,List.length_append];simp only[vL];omega
   ·show pV m.az (m.ag++[_]).length (bJ x.g.a x.sh m.ag.length (⟨aM,0,m.ag.length⟩::bJ x.g.b x.sh x.to r))
    rw[List.length_append];refine .put hgl.2.1 hV an (.cons ⟨⟨0,by simp,FU 0⟩,by simp⟩ Q2 amN) fun y hy=>?_
    rcases eL.1 hy with rfl |hy
    ·exact ef _
    ·exact amN y hy
   ·refine pW.push (t:=⟨m.B.length,m.az,aJ,0,bJ x.g.c x.sh x.to r,true⟩) hm.tr ⟨.put hgl.2.2.2 hV Vk hr hpw.1,?_,?_,cT _,fun h=>by cases h⟩ cP
    ·show m.az+8 * zh (bJ x.g.c x.sh x.to r)+0+(ab - m.done) * 1160≤110000
     rw[qI,e1];omega
    ·show m.ag.length+mj (bJ x.g.c x.sh x.to r)+0+(ab - m.done) * 90≤1000000
     rw[nL,e2];omega
  rw[if_neg c4]at h ⊢;by_cases c5:x.g.k=5
  ·rw [if_pos c5];have hz:¬ (x.g.k=0∨x.g.k=2):=by omega
   rw[if_neg hz]at p2;rw[if_pos (.inr c5)]at p1;have hf:pV m.az (m.ag.length+1) (bJ [dK] 0 0 []):=.put (by rw[eC];exact⟨acP 0,by rw[eC];trivial⟩) an an (.nil _ _) aC;have hnf:ua [dK]=1:=by rw[ua,acN];simp[ua]
   have hgf:gq [dK]=1:=by rw[gq,vF];simp[gq]
   have qP:zh []=0:=by simp[zh,ua]
   have hg0:mj []=0:=by simp[mj,gq]
   have amO:∀y∈bJ [dK] 0 0 [],y.to≤m.ag.length:=fun y hy=>by
    unfold bJ at hy;simp only[List.map_cons,fj,vJ,dh]at hy;rw[hy];exact cT _
   refine⟨hm.sv,?_,?_,?_,?_⟩
   ·show m.az+8 * zh (bJ x.g.a x.sh m.ag.length (⟨aM,0,m.ag.length⟩::bJ [dK] 0 0 []))+(ab - m.done) * 1160≤110000
    rw[qI,w6,qI,FT,hnf,qP,e1];omega
   ·show (m.ag++[_]).length+mj (bJ x.g.a x.sh m.ag.length (⟨aM,0,m.ag.length⟩::bJ [dK] 0 0 []))+(ab - m.done) * 90≤1000000
    rw[nL,tB,nL,gp,hgf,hg0,e2,List.length_append];simp only[vL];omega
   ·show pV m.az (m.ag++[_]).length (bJ x.g.a x.sh m.ag.length (⟨aM,0,m.ag.length⟩::bJ [dK] 0 0 []))
    rw[List.length_append];refine .put hgl.2.1 hV an (.cons ⟨⟨0,by simp,FU 0⟩,by simp⟩ hf amO) fun y hy=>?_
    rcases eL.1 hy with rfl |hy
    ·exact ef _
    ·exact amO y hy
   ·refine pW.push (t:=⟨m.B.length,m.az,aJ,0,r,true⟩) hm.tr ⟨hr,?_,?_,cT _,fun h=>by cases h⟩ cP
    ·show m.az+8 * zh r+0+(ab - m.done) * 1160≤110000
     rw[e1];omega
    ·show m.ag.length+mj r+0+(ab - m.done) * 90≤1000000
     rw[e2];omega
  rw[if_neg c5]at h ⊢;by_cases c6:x.g.k=1
  ·rw [if_pos c6] at h ⊢;by_cases c7:ab≤m.done
   ·rw[if_pos c7]at h;cases h
   rw[if_neg c7]at h ⊢;obtain⟨gt,hk⟩:=hF.t (.inl c6);obtain⟨g1,g2⟩:=CV gt (hF.o (.inl c6)) hV an
   have e3:(ab - m.done) * 1160=(ab - (m.done+1)) * 1160+1160:=by
    have:ab - m.done=(ab - (m.done+1))+1:=by omega
    rw[this,Nat.add_mul]
   have e4:(ab - m.done) * 90=(ab - (m.done+1)) * 90+90:=by
    have:ab - m.done=(ab - (m.done+1))+1:=by omega
    rw[this,Nat.add_mul]
   have ht:Ml P.length ab (m.done+1) m.ag.length ⟨m.B.length,m.az,dz x.sh x.g.t,0,r,false⟩:=by
    refine⟨hr,?_,?_,cT _,fun _=>⟨g1,g2⟩⟩
    ·show m.az+8 * zh r+1160+(ab - (m.done+1)) * 1160≤110000
     omega
    ·show m.ag.length+mj r+90+(ab - (m.done+1)) * 90≤1000000
     omega
   have hT:pW P.length ab (m.done+1) m.B.length m.ag:=hm.tr.done an;cases hc:je { m with now:=r,done:=m.done+1 } ⟨m.B.length,m.az,dz x.sh x.g.t,0,r,false⟩ 0 P with
   |some m'=>exact Ar hP (m:={ m with now:=r,done:=m.done+1 }) hm.sv rfl rfl ht rfl hT P 0 rfl m' hc
   |none=>rw[hc]at h;exact pX hP (m:={ m with now:=r,done:=m.done+1 }) ⟨hm.sv,hT⟩ h
  rw[if_neg c6];refine⟨hm.sv,?_,?_,hr,hm.tr⟩
  ·show m.az+8 * zh r+(ab - m.done) * 1160≤110000
   rw[e1];omega
  ·show m.ag.length+mj r+(ab - m.done) * 90≤1000000
   rw[e2];omega
end
end aw

namespace Go.Proofs.YtaagocopollacaaGreatDoor
open Go aw Go.Proofs
def mcS (d:Nat)(B:ak):List Ob:=[.box [.mp 2,.ow 3 (B.length+d)],.map (cn (ub B)),.arr 1 (B.length+d) (di (B.map (·.1)))]
def mcB (P:List Cs)(hd:Tm)(ab:Nat)(m:Mo)(v:Nat):Ob:=.box [.d (.sl (Cs.aa P)),.lo 1 0,.d (.v (.int .i64 hd.k)),.d (.v (.string hd.s)),.d (.v (.int .i64 hd.n)),.d (.sl (Tm.aa hd.l)),iV m.az,.ow 4 v,.d (gn m.now),iV ab,iV m.done,.ow 5 m.aD.length]
def sx (P:List Cs)(hd:Tm)(fr:Int)(v:Nat)(z:D)(ab:Nat)(dn:Int)(sl:Nat)(d:Nat)(B:ak)(T:List Tr)(S:List Ev):List Ob:=.box [.d (.sl (Cs.aa P)),.lo 1 0,.d (.v (.int .i64 hd.k)),.d (.v (.string hd.s)),.d (.v (.int .i64 hd.n)),.d (.sl (Tm.aa hd.l)),iV fr,.ow 4 v,.d z,iV ab,iV dn,.ow 5 sl]::(mcS d B++[.arr 9 v (T.map Tr.row),.arr 4 sl (S.map Ev.row)])
def IB (P:List Cs)(hd:Tm)(ab:Nat)(m:Mo)(d v:Nat):List Ob:=mcB P hd ab m v::(mcS d m.B++[.arr 9 v (m.ag.map Tr.row),.arr 4 m.aD.length (m.aD.map Ev.row)])
def aX (g:Gl)(sh to:Int)(z:D):List D:=[.v (.int .i64 g.k),.v (.int .i64 g.t.k),.v (.string g.t.s),.v (.int .i64 g.t.n),.sl (Tm.aa g.t.l),.sl (Gl.aa g.a),.sl (Gl.aa g.b),.sl (Gl.aa g.c),.v (.int .i64 sh),.v (.int .i64 to),z]

theorem gX (l:List Td):(∃g sh to z,gn l=.bG (aX g sh to z))∨gn l=.v (.pointer none):=by
 cases l with
 |nil=>exact .inr rfl
 |cons x r=>exact .inl ⟨x.g,x.sh,x.to,gn r,by rw[gn];cases x;rename_i g _ _;cases g;rfl⟩

theorem lu (l:List Gl)(sh to:Nat)(r:List Td)(hl:l.length≤1000000):bD Tryz.prog 13 [.d (.sl (Gl.aa l)),iV sh,iV to,.d (gn r)] (.d (gn (bJ l sh to r))):=by
 have kQ:=Gl.au l;refine zp Tryz.func13 fun w S hg=>?_
 refine bh (fun k:Nat=>([(0,.d (.sl (Gl.aa l))),(1,iV sh),(2,iV to),(3,.d (gn (bJ (l.drop (l.length - k)) sh to r))),(9,iV ((l.length:Int) - 1 - k))],[])) (fun k=>k≤l.length) (fun k=>l.length - k) 0 fy ⟨.refl _,.refl _,.refl _,?_,?_,trivial⟩ rfl ?_
 ·rw[So,List.drop_length];exact .refl _
 ·rw[kQ];exact bM.wrap an an an
 rintro k hk;show R _ _ _ _ [(0,.d (.sl (Gl.aa l))),(1,iV sh),(2,iV to),(3,.d (gn (bJ (l.drop (l.length - k)) sh to r))),(9,iV ((l.length:Int) - 1 - k))] []
 rcases gX (bJ (l.drop (l.length - k)) sh to r) with ⟨g1,s1,o1,z1,hz⟩ |hz
 ·rw [hz];refine af ?_;refine aj (fun h=>?_) fun h=>?_
  ·have h:(0:Int)≤(l.length:Int) - 1 - k:=by simpa using h
   have aR:k<l.length:=by omega
   have hi:((l.length:Int) - 1 - k).toNat=l.length - (k+1):=by omega
   have e1:l[l.length - (k+1)]? = some (l[l.length - (k+1)]' an):=dY an
   have hd:l.drop (l.length - (k+1))=l[l.length - (k+1)]' an::l.drop (l.length - k):=by
    rw[List.drop_eq_getElem_cons an];congr 2;omega
   generalize l[l.length - (k+1)]' an=x at e1 hd;refine dN hg.ok rfl rfl rfl rfl rfl rfl h (by rw[hi];exact Gl.aB e1) rfl ?_;refine vC ?_;refine sS hg.cm 0 (Gl.row x++[.v (.int .i64 sh),.v (.int .i64 to),.bG (aX g1 s1 o1 z1)]) fy rfl rfl (af ?_);refine Ek ?_;refine bp (k+1) aR an ⟨.refl _,.refl _,.refl _,?_,bM.wrap an an zu,trivial⟩ rfl;rw[hd];show bM _ (.d (.bG (Gl.row x++[.v (.int .i64 sh),.v (.int .i64 to),gn (bJ (l.drop (l.length - k)) sh to r)])))
   rw[hz];exact .refl _
  ·have h:¬ (0:Int)≤(l.length:Int) - 1 - k:=by simpa using h
   have h0:l.length - k=0:=by omega
   rw[h0,V6]at hz;rw[hz];refine cq ?_;rfl
 ·rw [hz];refine af ?_;refine aj (fun h=>?_) fun h=>?_
  ·have h:(0:Int)≤(l.length:Int) - 1 - k:=by simpa using h
   have aR:k<l.length:=by omega
   have hi:((l.length:Int) - 1 - k).toNat=l.length - (k+1):=by omega
   have e1:l[l.length - (k+1)]? = some (l[l.length - (k+1)]' an):=dY an
   have hd:l.drop (l.length - (k+1))=l[l.length - (k+1)]' an::l.drop (l.length - k):=by
    rw[List.drop_eq_getElem_cons an];congr 2;omega
   generalize l[l.length - (k+1)]' an=x at e1 hd;refine dN hg.ok rfl rfl rfl rfl rfl rfl h (by rw[hi];exact Gl.aB e1) rfl ?_;refine vC ?_;refine sS hg.cm 0 (Gl.row x++[.v (.int .i64 sh),.v (.int .i64 to),.v (.pointer none)]) fy rfl rfl (af ?_);refine Ek ?_;refine bp (k+1) aR an ⟨.refl _,.refl _,.refl _,?_,bM.wrap an an zu,trivial⟩ rfl;rw[hd];show bM _ (.d (.bG (Gl.row x++[.v (.int .i64 sh),.v (.int .i64 to),gn (bJ (l.drop (l.length - k)) sh to r)])))
   rw[hz];exact .refl _
  ·have h:¬ (0:Int)≤(l.length:Int) - 1 - k:=by simpa using h
   have h0:l.length - k=0:=by omega
   rw[h0,V6]at hz;rw[hz];refine cq ?_;rfl

theorem Lz (P:List Cs)(hd:Tm)(ab:Nat)(m:Mo)(d v:Nat)(o:List Ob):(IB P hd ab m d v).map (aQ (bQ false 6 o 5))=IB P hd ab m d v:=by
 simp only[IB,mcS,List.map_cons,List.map_append,fj];rw[dJ (fun t=>rfl)];unfold mcB;rcases gX m.now with ⟨g1,s1,o1,z1,hz⟩ |hz<;>rw[hz]<;>rfl

theorem LA (f:AV→AV)(P:List Cs)(hd:Tm)(fr:Int)(v:Nat)(z:D)(hz:(∃g sh to z',z=.bG (aX g sh to z'))∨z=.v (.pointer none))(ab:Nat)(dn:Int)(sl:Nat)(d:Nat)(B:ak)(T:List Tr)(S:List Ev)(h1:∀z:D,((∃g sh to z',z=.bG (aX g sh to z'))∨z=.v (.pointer none))→f (.d z)=.d z)(h2:∀k n:Int,∀r:List (List D),f (.d (.v (.int .i64 n)))=.d (.v (.int .i64 n))∧f (.d (.sl r))=.d (.sl r))(h3:∀s:ByteArray,f (.d (.v (.string s)))=.d (.v (.string s)))(h4:f (.lo 1 0)=.lo 1 0∧f (.mp 2)=.mp 2∧∀s,f (.ow 3 s)=.ow 3 s∧f (.ow 4 s)=.ow 4 s∧f (.ow 5 s)=.ow 5 s)(h5:∀t:Tm,f t.av=t.av):(sx P hd fr v z ab dn sl d B T S).map (aQ f)=sx P hd fr v z ab dn sl d B T S:=by
 simp only[sx,mcS,List.map_cons,List.map_append,fj];rw[dJ h5];have hi:=fun n:Int=>(h2 0 n []).1
 have hs:=fun r:List (List D)=>(h2 0 0 r).2
 simp only[aQ,List.map_cons,fj,h1 _ hz,hi,hs,h3,h4.1,h4.2.1,(h4.2.2 _).1,(h4.2.2 _).2.1,(h4.2.2 _).2.2,iV]

theorem tC (f:AV→AV)(P:List Cs)(hd:Tm)(fr:Int)(v:Nat)(l:List Td)(ab:Nat)(dn:Int)(sl:Nat)(d:Nat)(B:ak)(T:List Tr)(S:List Ev)(h1:∀z:D,((∃g sh to z',z=.bG (aX g sh to z'))∨z=.v (.pointer none))→f (.d z)=.d z)(h2:∀k n:Int,∀r:List (List D),f (.d (.v (.int .i64 n)))=.d (.v (.int .i64 n))∧f (.d (.sl r))=.d (.sl r))(h3:∀s:ByteArray,f (.d (.v (.string s)))=.d (.v (.string s)))(h4:f (.lo 1 0)=.lo 1 0∧f (.mp 2)=.mp 2∧∀s,f (.ow 3 s)=.ow 3 s∧f (.ow 4 s)=.ow 4 s∧f (.ow 5 s)=.ow 5 s)(h5:∀t:Tm,f t.av=t.av):(sx P hd fr v (gn l) ab dn sl d B T S).map (aQ f)=sx P hd fr v (gn l) ab dn sl d B T S :=
 LA f P hd fr v _ (gX l) ab dn sl d B T S h1 h2 h3 h4 h5

theorem im (P:List Cs)(hd:Tm)(fr:Int)(v:Nat)(z:D)(hz:(∃g sh to z',z=.bG (aX g sh to z'))∨z=.v (.pointer none))(ab:Nat)(dn:Int)(sl:Nat)(d:Nat)(B:ak)(T:List Tr)(S:List Ev)(o:List Ob):(sx P hd fr v z ab dn sl d B T S).map (aQ (bQ false 6 o 5))=sx P hd fr v z ab dn sl d B T S :=
 LA _ P hd fr v z hz ab dn sl d B T S (fun z h=>by rcases h with ⟨_,_,_,_,rfl⟩ |rfl<;>rfl) (fun _ _ _=>⟨rfl,rfl⟩) cF ⟨rfl,rfl,fun _=>⟨rfl,rfl,rfl⟩⟩ fun _=>rfl

theorem vE (P:List Cs)(hd:Tm)(fr:Int)(v:Nat)(l:List Td)(ab:Nat)(dn:Int)(sl:Nat)(d:Nat)(B:ak)(T:List Tr)(S:List Ev)(o:List Ob):(sx P hd fr v (gn l) ab dn sl d B T S).map (aQ (bQ false 6 o 5))=sx P hd fr v (gn l) ab dn sl d B T S :=
 tC _ P hd fr v l ab dn sl d B T S (fun z h=>by rcases h with ⟨_,_,_,_,rfl⟩ |rfl<;>rfl) (fun _ _ _=>⟨rfl,rfl⟩) cF ⟨rfl,rfl,fun _=>⟨rfl,rfl,rfl⟩⟩ fun _=>rfl

theorem Zu (P:List Cs)(hd:Tm)(fr:Int)(v:Nat)(l:List Td)(ab:Nat)(dn:Int)(sl:Nat)(d:Nat)(B:ak)(T:List Tr)(S:List Ev):(sx P hd fr v (gn l) ab dn sl d B T S).map (aQ (dA 6))=sx P hd fr v (gn l) ab dn sl d B T S :=
 tC _ P hd fr v l ab dn sl d B T S (fun z h=>by rcases h with ⟨_,_,_,_,rfl⟩ |rfl<;>rfl) (fun _ _ _=>⟨rfl,rfl⟩) cF ⟨rfl,rfl,fun _=>⟨rfl,rfl,rfl⟩⟩ fun _=>rfl

theorem Zv (a:Addr)(x:Int)(w:World)(h:w.cell? a=some (.int .i64 x)):(callFunc 58 #[.pointer (some a)]).run Tryz.prog w=.ok (.value (.int .i64 x)) w :=
 run_call_load Tryz.func58 cX cX cX .i64 cX h

theorem Mp (Y:YP)(P:List Cs)(hd:Tm)(ab:Nat)(m:Mo)(d v:Nat):aU Tryz.prog Y 32 [.lo 0 10] (IB P hd ab m d v) (iV m.done) (IB P hd ab m d v):=by
 refine uw Tryz.func32 fun w S φ hg=>?_
 refine kp hg.ok Tryz.underlying57 rfl cX rfl rfl rfl (af ?_);refine Xx hg.ok Zv rfl rfl rfl rfl rfl rfl (af ?_);exact aK hg 6 5 cP rfl rfl (Lz P hd ab m d v _)

theorem acQ (a:Addr)(n:Nat)(hn:n<1000000000)(w:World)(h:w.cell? a=some (.int .i64 n))(hz:w.frozen? a=false):(callFunc 59 #[.pointer (some a),.int .i64 1]).run Tryz.prog w=.ok (.value (.int .i64 (n+1:Nat))) (w.setCell a (.int .i64 (n+1:Nat))) :=
 run_call_add Tryz.func59 cX cX cX .i64 cX h hz (by have e:IntKind.i64.wrap ((n:Int)+1)=((n+1:Nat):Int):=(jL an an).trans (by push_cast;rfl);simp[go_sem,e])

theorem Ef (Y:YP)(P:List Cs)(hd:Tm)(ab:Nat)(m:Mo)(hm:m.done<1000000000)(d v:Nat):aU Tryz.prog Y 34 [.lo 0 10,iV 1] (IB P hd ab m d v) (iV (m.done+1:Nat)) (IB P hd ab { m with done:=m.done+1 } d v):=by
 refine uw Tryz.func34 fun w S φ hg=>?_
 refine kp hg.ok Tryz.underlying57 rfl cX rfl rfl rfl (af ?_);refine GR hg.ok (ys:=#[.tmp 8]) [.int .i64 1] (fun a w h hz=>acQ a m.done hm w h hz) rfl rfl rfl rfl rfl rfl rfl (af ?_);exact aK hg 6 5 cP rfl rfl (Lz P hd ab { m with done:=m.done+1 } d v _)
def evA (e:Ev):AV:=.agg [.d (.v (.int .i64 e.k)),.d (.v (.string e.tx)),.d (.sl (Tm.aa e.ts)),.d (.v (.int .i64 e.c))]
theorem acR (l:List Ev)(e:Ev):l.map Ev.row++[[.v (.int .i64 e.k),.v (.string e.tx),.sl (Tm.aa e.ts),.v (.int .i64 e.c)]]=(l++[e]).map Ev.row:=by simp[Ev.row]

theorem Rt (P:List Cs)(hd:Tm)(ab:Nat)(m:Mo)(d v:Nat)(e:Ev):IB P hd ab { m with aD:=m.aD++[e] } d v=sx P hd m.az v (gn m.now) ab m.done (Nat.succ m.aD.length) d m.B m.ag (m.aD++[e]):=by
 simp only[IB,mcB,sx,List.length_append,vL]

theorem Zw (Y:YP)(P:List Cs)(hd:Tm)(ab:Nat)(m:Mo)(hm:m.aD.length<1000000000000)(d v:Nat)(e:Ev):aU Tryz.prog Y 33 [.lo 0 0,evA e] (IB P hd ab m d v) (bV (e.k==1 || e.k==2)) (IB P hd ab { m with aD:=m.aD++[e] } d v):=by
 refine Ph Tryz.func33 fun w S φ hg=>?_
 have hφ:φ.length=6:=hg.j5.len;refine af ?_;refine dp hg.ok ((m.aD++[e]).map Ev.row) rfl rfl rfl rfl rfl rfl rfl rfl rfl aC I4 (acR _ _) (by rw[eS];simp;omega) (by rw[eS];simp;omega) (af ?_);refine aj (fun h1=>?_) fun h1=>?_
 ·have h1:e.k=1:=by simpa using h1
  refine aK hg 6 5 cP rfl ?_ ((vE P hd m.az v m.now ab m.done (Nat.succ m.aD.length) d m.B m.ag (m.aD++[e]) _).trans (Rt P hd ab m d v e).symm);rw[h1];rfl
 ·refine aK hg 6 5 cP rfl ?_ ((vE P hd m.az v m.now ab m.done (Nat.succ m.aD.length) d m.B m.ag (m.aD++[e]) _).trans (Rt P hd ab m d v e).symm);rw[h1];rfl
end Go.Proofs.YtaagocopollacaaGreatDoor
