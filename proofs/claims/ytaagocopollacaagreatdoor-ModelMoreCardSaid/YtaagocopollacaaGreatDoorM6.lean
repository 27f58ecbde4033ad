import Derived.Test.YtaagocopollacaaGreatDoorM5
import Derived.LoopNIn
set_option maxRecDepth 100000
set_option maxHeartbeats 4000000
namespace aw
open Go Go.RowKit
noncomputable def sC {α:Type} (l:List α) (i:Nat):Option α:=List.rec (motive:=fun _=>Nat→Option α) (fun _=>none) (fun x _ ih i=>Nat.rec (some x) (fun m _=>ih m) i) l i

theorem fR{α:Type}:∀ (l:List α) (i:Nat),sC l i=dk l i
 |[],_=>rfl
 |_::_,0=>rfl
 |_::l,i+1=>fR l i
noncomputable def lkX (E:bk) (t:Nat):AV:=List.rec (motive:=fun _=>AV) .any (fun p _ ih=>Bool.rec (motive:=fun _=>AV) ih p.2 (Nat.beq p.1 t)) E

theorem O1(t:Nat):∀ (E:bk),lkX E t=lk E t
 |[]=>rfl
 |(k,v)::E=>by
  simp only[lk,← O1 t E];show Bool.rec (motive:=fun _=>AV) (lkX E t) v (Nat.beq k t)=_
  cases Nat.beq k t<;>rfl

noncomputable def vq (E:bk):Operand→AV
 | .tmp t=>lkX E t
 |x=>ev E x

theorem iR(E:bk):vq E=ev E:=by
 funext x;cases x<;>simp only[vq,ev,O1]

noncomputable def O2 (ad:List Oper) (E:bk):Option (Nat × Bool)→Option Bool
 |none=>some true
 |some (j,want)=>match sC ad j with
  |some o=>match o.dst with
   |some d=>match lkX E d with
    | .tt=>some want
    | .ff=>some (!want)
    | .cH []=>some false
    |_=>none
   |none=>none
  |none=>none

theorem UU(ad:List Oper)(E:bk)(x:Option (Nat × Bool)):O2 ad E x=aG ad E x:=by
 unfold O2 aG;simp only[fR,O1];rfl

noncomputable def rmX {β:Type} (E:bk) (t:Nat) (k:bk→β):β:=List.rec (motive:=fun _=>(bk→β)→β) (fun k=>k []) (fun p _ ih k=>Bool.rec (motive:=fun _=>β) (ih fun r=>k (p::r)) (ih k) (Nat.beq p.1 t)) E k
noncomputable def RE {β:Type} (V:Nat) (E:bk) (k:bk→β):β:=List.rec (motive:=fun _=>(bk→β)→β) (fun k=>k []) (fun p _ ih k=>Bool.rec (motive:=fun _=>β) (ih k) (ih fun r=>k (p::r)) (Nat.blt p.1 V)) E k

noncomputable def O3 {β:Type} (V:Nat) (E:bk) (d:Option Nat) (v:AV) (k:bk→β):β:=match d with
 |none=>k E
 |some t=>bif Nat.blt t V then rmX E t fun r=>k ((t,v)::r) else k ((t,v)::E)

theorem O4{β:Type}(t:Nat):∀ (E:bk) (k:bk→β),rmX E t k=k (rm E t)
 |[],_=>rfl
 |(a,v)::E,k=>by
  show Bool.rec (motive:=fun _=>β) (rmX E t fun r=>k ((a,v)::r)) (rmX E t k) (Nat.beq a t)=_
  rw[O4 t E,O4 t E];simp only[rm];cases Nat.beq a t<;>rfl

def F0 (V:Nat)(E:bk)(d:Option Nat)(v:AV):bk:=match d with
 |none=>E
 |some t=>bif Nat.blt t V then put E t v else (t,v)::E

theorem xm{β:Type}(V:Nat)(E:bk)(d:Option Nat)(v:AV)(k:bk→β):O3 V E d v k=k (F0 V E d v):=by
 unfold O3 F0;cases d with
 |none=>rfl
 |some t =>
  simp only;cases Nat.blt t V
  ·rfl
  ·rw[cond_true,O4];rfl

theorem ZN(V:Nat)(E:bk)(d:Option Nat)(v:AV)(u:Nat):lk (F0 V E d v) u=lk (bf E d v) u:=by
 unfold F0;cases d with
 |none=>rfl
 |some t =>
  simp only;cases Nat.blt t V
  ·rw [cond_false,gg];simp only[lk];by_cases h:t=u
   ·subst h;simp
   ·rw[sX h,cond_false,if_neg fun e=>h (Option.some.inj e)]
  ·rfl

def nM (V:Nat):bk→bk
 |[]=>[]
 |p::E=>bif Nat.blt p.1 V then p::nM V E else nM V E

theorem C8{β:Type}(V:Nat):∀ (E:bk) (k:bk→β),RE V E k=k (nM V E)
 |[],_=>rfl
 |p::E,k=>by
  show Bool.rec (motive:=fun _=>β) (RE V E k) (RE V E fun r=>k (p::r)) (Nat.blt p.1 V)=_
  rw[C8 V E,C8 V E];simp only[nM];cases Nat.blt p.1 V<;>rfl

theorem O5(V:Nat)(E:bk):zG E (nM V E):=by
 have key:∀u,lk (nM V E) u=lk E u∨lk (nM V E) u=.any:=fun u=>by
  have:lk (nM V E) u=bif Nat.blt u V then lk E u else .any:=by
   induction E with
   |nil=>simp only[nM,lk];cases Nat.blt u V<;>rfl
   |cons p E ih =>
    obtain⟨a,v⟩:=p;simp only[nM,lk];cases hb:Nat.beq a u
    ·cases ha:Nat.blt a V
     ·simp only[cond_false,ih]
     ·simp only[cond_true,cond_false,lk,hb,ih]
    ·have:=Nat.eq_of_beq_eq_true hb;subst this;cases ha:Nat.blt a V
     ·simp only[cond_false,ih,ha]
     ·simp only[cond_true,lk,hb]
  rw[this];cases Nat.blt u V
  ·exact .inr rfl
  ·exact .inl rfl
 intro u;rcases key u with h |h<;>rw[h]
 ·exact .refl _
 ·exact .any _
section
variable {β:Type}
def IA (n:Nat)(k:Nat→β):β:=match n with |0=>k 0 |m+1=>k (m+1)
theorem nN(n:Nat)(k:Nat→β):IA n k=k n:=by cases n<;>rfl
def nfI (n:Int)(k:Int→β):β:=match n with | .ofNat m=>IA m fun m=>k (.ofNat m) | .negSucc m=>IA m fun m=>k (.negSucc m)
theorem aiE(n:Int)(k:Int→β):nfI n k=k n:=by cases n<;>simp only[nfI,nN]
def ac3 (l:List UInt8)(k:List UInt8→β):β:=match l with |[]=>k [] |b::r=>IA b.toNat fun n=>ac3 r fun r'=>k (UInt8.ofNat n::r')

theorem RF:∀ (l:List UInt8) (k:List UInt8→β),ac3 l k=k l
 |[],_=>rfl
 |b::r,k=>by rw[ac3,nN,RF r,UInt8.ofNat_toNat]

def ZO (x:Value)(k:Value→β):β:=match x with
 | .int q n=>nfI n fun n=>k (.int q n)
 | .string s=>ac3 s.data.toList fun l=>k (.string ⟨⟨l⟩⟩)
 | .bool b=>bif b then k (.bool true) else k (.bool false)
 |x=>k x

theorem ZP(x:Value)(k:Value→β):ZO x k=k x:=by
 unfold ZO;split
 ·rw[aiE]
 ·rw[RF]
 ·rename_i b;cases b<;>rfl
 ·rfl
def nfD (x:D)(k:D→β):β:=match x with | .v x=>ZO x fun x=>k (.v x) |x=>k x
theorem ZQ(x:D)(k:D→β):nfD x k=k x:=by unfold nfD;split<;>first |rw[ZP] |rfl
def UX (aa:List (List D))(k:List (List D)→β):β:=Il aa (fun r f=>Il r nfD f) k
theorem xn(aa:List (List D))(k:List (List D)→β):UX aa k=k aa:=ld _ (fun _ _=>ld _ (fun _ _=>ZQ _ _) _ _) _ _

mutual
def O6:AV→(AV→β)→β
 | .d x,k=>nfD x fun x=>k (.d x)
 | .agg l,k=>HU l fun l=>k (.agg l)
 | .cH l,k=>HU l fun l=>k (.cH l)
 | .bU f a c,k=>IA f fun f=>HU a fun a=>HU c fun c=>k (.bU f a c)
 | .fs aa,k=>UX aa fun aa=>k (.fs aa)
 | .lo i o,k=>IA i fun i=>IA o fun o=>k (.lo i o)
 | .el i s r j,k=>IA i fun i=>IA s fun s=>IA r fun r=>IA j fun j=>k (.el i s r j)
 | .ow i s,k=>IA i fun i=>IA s fun s=>k (.ow i s)
 | .mp i,k=>IA i fun i=>k (.mp i)
 | .any,k=>k .any
 | .tt,k=>k .tt
 | .ff,k=>k .ff
 | .vw i s r,k=>k (.vw i s r)
 | .yl i,k=>k (.yl i)
def HU:List AV→(List AV→β)→β
 |[],k=>k []
 |x::l,k=>O6 x fun x=>HU l fun l=>k (x::l)
end

mutual
theorem C9:∀ (x:AV) (k:AV→β),O6 x k=k x
 | .d x,k=>by simp only[O6,ZQ]
 | .agg l,k=>by simp only[O6,qJ l]
 | .cH l,k=>by simp only[O6,qJ l]
 | .bU f a c,k=>by simp only[O6,nN,qJ a,qJ c]
 | .fs aa,k=>by simp only[O6,xn]
 | .lo i o,k=>by simp only[O6,nN]
 | .el i s r j,k=>by simp only[O6,nN]
 | .ow i s,k=>by simp only[O6,nN]
 | .mp i,k=>by simp only[O6,nN]
 | .any,_=>rfl
 | .tt,_=>rfl
 | .ff,_=>rfl
 | .vw _ _ _,_=>rfl
 | .yl _,_=>rfl
theorem qJ:∀ (l:List AV) (k:List AV→β),HU l k=k l
 |[],_=>rfl
 |x::l,k=>by simp only[HU,C9 x,qJ l]
end

def ZR (o:Ob)(k:Ob→β):β:=match o with
 | .box l=>HU l fun l=>k (.box l)
 | .arr sz s aa=>IA sz fun sz=>IA s fun s=>k (.arr sz s aa)
 | .Ik s p=>IA p fun p=>k (.Ik s p)
 |o=>k o
theorem RG(o:Ob)(k:Ob→β):ZR o k=k o:=by unfold ZR;split<;>first |rw[qJ] |rw[nN,nN] |rw[nN] |rfl
def RH (l:List Ob)(k:List Ob→β):β:=Il l ZR k
theorem Da(l:List Ob)(k:List Ob→β):RH l k=k l:=ld _ (fun _ _=>RG _ _) _ _
end

inductive OU where
 |same
 |set (i:Nat) (o:Ob)
 |app (o:Ob)
 |put (is:List Nat) (new:List Ob)

variable{objs o2:List Ob}{is:List Nat}{k:List It}{dM:List AV}{E:bk}{f n:Nat}{r v:AV}{u:OU}
def sD:OU→List Ob→List Ob
 | .same,l=>l
 | .set i o,l=>da l i o
 | .app o,l=>l++[o]
 | .put is new,l=>cZ is new l
section
variable {β:Type}
noncomputable def aiF (l:List Ob) (i:Nat) (y:Ob) (k:List Ob→β):β:=List.rec (motive:=fun _=>Nat→(List Ob→β)→β) (fun _ k=>k []) (fun x r ih i k=>Nat.rec (motive:=fun _=>β) (k (y::r)) (fun m _=>ih m fun r=>k (x::r)) i) l i k

theorem HV(y:Ob):∀ (l:List Ob) (i:Nat) (k:List Ob→β),aiF l i y k=k (da l i y)
 |[],_,_=>rfl
 |x::l,0,_=>rfl
 |x::l,i+1,k=>HV y l i fun r=>k (x::r)
noncomputable def aiG (l new:List Ob) (k:List Ob→β):β:=List.rec (motive:=fun _=>(List Ob→β)→β) (fun k=>k new) (fun x _ ih k=>ih fun r=>k (x::r)) l k

theorem HW(new:List Ob):∀ (l:List Ob) (k:List Ob→β),aiG l new k=k (l++new)
 |[],_=>rfl
 |x::l,k=>HW new l fun r=>k (x::r)

noncomputable def Aw:List Nat→List Ob→List Ob→(List Ob→β)→β
 |[],new,l,k=>aiG l new k
 |j::is,o::new,l,k=>aiF l j o fun l=>Aw is new l k
 |_::_,[],l,k=>k l

theorem Db:∀ (is:List Nat) (new l:List Ob) (k:List Ob→β),Aw is new l k=k (cZ is new l)
 |[],_,_,_=>HW _ _ _
 |_::is,_::new,l,k=>by simp only[Aw,HV,Db is,cZ]
 |_::_,[],_,_=>rfl

noncomputable def doU (u:OU) (l:List Ob) (k:List Ob→β):β:=match u with
 | .same=>k l
 | .set i o=>ZR o fun o=>aiF l i o k
 | .app o=>ZR o fun o=>aiG l [o] k
 | .put is new=>RH new fun new=>Aw is new l k

theorem ZS(u:OU)(l:List Ob)(k:List Ob→β):doU u l k=k (sD u l):=by
 cases u<;>simp only[doU,sD,RG,Da,HV,HW,Db]
end

def zR:List UInt8→List UInt8→Bool
 |[],[]=>true
 |a::r,b::s=>bif Nat.beq a.toNat b.toNat then zR r s else false
 |_,_=>false

theorem Dc:∀ {l m:List UInt8},zR l m=true↔l=m
 |[],[]=>by simp[zR]
 |[],_::_=>by simp[zR]
 |_::_,[]=>by simp[zR]
 |a::r,b::s=>by
  simp only[zR,List.cons.injEq];cases h:Nat.beq a.toNat b.toNat
  ·have:a≠b:=fun e=>by subst e; simp at h
   simp[this]
  ·have:a=b:=UInt8.toNat_inj.1 (Nat.eq_of_beq_eq_true h);simp[this,Dc]

theorem Dd(a b:ByteArray):bE a b=zR a.data.toList b.data.toList:=by
 rw[vK,Tm.bo,Dc];exact⟨fun h=>by rw[h],fun h=>ByteArray.ext (Array.toList_inj.1 h)⟩

def ZT (ty:Nat→Option Ty)(ρ:Operand→AV)(op:Op):Option AV:=match op with
 | .binOp .eql T x y T'=>match ρ x,ρ y with
  | .d (.v (.string a)),.d (.v (.string b))=>some (bV (zR a.data.toList b.data.toList))
  |_,_=>cJ ty ρ (.binOp .eql T x y T')
 | .binOp .neq T x y T'=>match ρ x,ρ y with
  | .d (.v (.string a)),.d (.v (.string b))=>some (bV (!zR a.data.toList b.data.toList))
  |_,_=>cJ ty ρ (.binOp .neq T x y T')
 |op=>cJ ty ρ op

theorem De(ty:Nat→Option Ty)(ρ:Operand→AV)(op:Op):ZT ty ρ op=cJ ty ρ op:=by
 unfold ZT;split
 ·split
  ·rename_i h1 h2;simp only[cJ,h1,h2,Wt,abi,Dd]
  ·rfl
 ·split
  ·rename_i h1 h2;simp only[cJ,h1,h2,Wt,abi,Dd]
  ·rfl
 ·rfl
abbrev XR (α:Type):=Except (List Nat) α

abbrev zo:=Bool→Nat→List AV→List Ob→XR (AV × List Ob)

mutual
def idA:AV→List Nat
 | .lo i _=>[i]
 | .el i _ _ _=>[i]
 | .vw i _ _=>[i]
 | .ow i _=>[i]
 | .mp i=>[i]
 | .yl i=>[i]
 | .agg l=>RI l
 | .cH l=>RI l
 | .bU _ a c=>RI a++RI c
 | .any=>[]
 | .tt=>[]
 | .ff=>[]
 | .d _=>[]
 | .fs _=>[]
def RI:List AV→List Nat
 |[]=>[]
 |x::l=>idA x++RI l
end

def RJ:Ob→List Nat
 | .box l=>RI l
 | .gM _ l=>RI l
 | .map es=>RI (es.map (·.2))
 | .tI es=>RI (es.map (·.2))
 |_=>[]

def HX (objs:List Ob):Nat→List Nat→List Nat→List Nat
 |0,_,acc=>acc
 |_+1,[],acc=>acc
 | n+1,i::t,acc=>bif GH i acc then HX objs n t acc else
  HX objs n ((match dk objs i with |some o=>RJ o |none=>[])++t) (acc++[i])

def qW:List Nat→Nat→Nat
 |[],_=>0
 |j::r,i=>bif Nat.beq j i then 0 else Nat.succ (qW r i)
def pZ (is l:List Nat):Bool:=l.all fun i=>GH i is

theorem p0{n i:Nat}(h:i∈is):rn is n (qW is i)=i:=by
 have key:∀ {is:List Nat},i∈is→dk is (qW is i)=some i:=fun {is}=>by
  induction is with
  |nil=>intro h;cases h
  |cons j r ih =>
   intro h;simp only[qW];cases hb:Nat.beq j i
   ·have eo:¬ i=j:=fun e=>by subst e; simp at hb
    exact ih ((eL.1 h).resolve_left eo)
   ·have:=Nat.eq_of_beq_eq_true hb;subst this;rfl
 unfold rn;rw[key h]
theorem p4{is a b:List Nat}(h:pZ is (a++b)=true):pZ is a=true∧pZ is b=true:=by simpa[pZ,List.all_append]using h
theorem mQ{i:Nat}(h:pZ is [i]=true):i∈is:=Bf.1 (by simpa[pZ]using h)

mutual
theorem LX{is:List Nat}{n:Nat}:∀ (x:AV),pZ is (idA x)=true→c8 (rn is n) (c8 (qW is) x)=x
 | .lo i o,h=>by simp only[c8,p0 (mQ h)]
 | .el i s r j,h=>by simp only[c8,p0 (mQ h)]
 | .vw i s r,h=>by simp only[c8,p0 (mQ h)]
 | .ow i s,h=>by simp only[c8,p0 (mQ h)]
 | .mp i,h=>by simp only[c8,p0 (mQ h)]
 | .yl i,h=>by simp only[c8,p0 (mQ h)]
 | .agg l,h=>by simp only[c8,lv l h]
 | .cH l,h=>by simp only[c8,lv l h]
 | .bU f a c,h=>by simp only[c8,lv a (p4 h).1,lv c (p4 h).2]
 | .any,_=>rfl
 | .tt,_=>rfl
 | .ff,_=>rfl
 | .d _,_=>rfl
 | .fs _,_=>rfl
theorem lv{is:List Nat}{n:Nat}:∀ (l:List AV),pZ is (RI l)=true→iu (rn is n) (iu (qW is) l)=l
 |[],_=>rfl
 |x::l,h=>by simp only[iu,LX x (p4 h).1,lv l (p4 h).2]
end

theorem UY(es:List (Value × AV))(h:pZ is (RI (es.map (·.2)))=true):(es.map fun x=>(x.1,c8 (qW is) x.2)).map (fun x=>(x.1,c8 (rn is n) x.2))=es:=by
 induction es with
 |nil=>rfl
 |cons e es ih =>
  have:=p4 (a:=idA e.2) h;simp only[List.map_cons,LX _ this.1,ih this.2]

theorem UZ(o:Ob)(h:pZ is (RJ o)=true):bz (rn is n) (bz (qW is) o)=o:=by
 cases o<;>simp only[bz]<;>first
  |rw[lv _ h]
  |rw[UY _ h]

theorem Df{is:List Nat}{n:Nat}:∀ (l:List Ob),(l.all fun o=>pZ is (RJ o))=true→(l.map (bz (qW is))).map (bz (rn is n))=l
 |[],_=>rfl
 |o::l,h=>by
  simp only[rE,aV]at h;simp only[List.map_cons,UZ o h.1,Df l h.2]

def O7 (is:List Nat)(n:Nat)(as0:List AV)(ps:List Ob)(hn:Option Nat):Bool :=
 isOk n is&&(pZ is (RI as0)&&(ps.all (fun o=>pZ is (RJ o))&&(match hn with |some h=>is.all fun i=>Nat.blt i h |none=>true)))

noncomputable def Dg (call:Nat→List AV→List Ob→XR (AV × List Ob)) (hn:Option Nat) (f:Nat) (as0:List AV) (objs:List Ob):XR (AV × OU) :=
 let is:=HX objs 100 (RI as0) []
 Il is (fun i k=>IA i k) fun is =>
 match fE objs is with
 | some ps=>bif O7 is (len objs) as0 ps hn then
   HU (iu (qW is) as0) fun dM=>RH (ps.map (bz (qW is))) fun o0 =>
   match call f dM o0 with
   | .ok (r,o1)=>.ok (c8 (rn is (len objs)) r,OU.put is (o1.map (bz (rn is (len objs)))))
   | .error e=>.error e
  else .error [1001]
 |none=>.error [1002]

theorem yB{call:Nat→List AV→List Ob→XR (AV × List Ob)}{hn:Option Nat}{as0:List AV}{x:AV × OU}(h:Dg call hn f as0 objs=.ok x) :
  ∃is dM o0 r o1,call f dM o0=.ok (r,o1)∧isOk (len objs) is=true∧fE objs is=some (o0.map (bz (rn is (len objs))))∧as0=iu (rn is (len objs)) dM∧x=(c8 (rn is (len objs)) r,OU.put is (o1.map (bz (rn is (len objs)))))∧∀h,hn=some h→∀i∈is,i<h:=by
 unfold Dg at h;simp only[ld _ nN,qJ,Da]at h;generalize HX objs 100 (RI as0) []=is at h;split at h
 ·rename_i ps hp;cases hc:O7 is (len objs) as0 ps hn
  ·rw[hc]at h;cases h
  ·rw [hc] at h;simp only[O7,aV]at hc;simp only[cond_true]at h;split at h
   ·rename_i r o1 hr;refine⟨is,_,_,r,o1,hr,hc.1,by rw[hp,Df _ hc.2.2.1],(lv _ hc.2.1).symm,by simpa using h.symm,fun n e i hi=>?_⟩;subst e;have:=fk.1 hc.2.2.2 i hi;rw[Nat.blt_eq]at this;exact this
   ·cases h
 ·cases h

inductive Gh where
 |own (t j sz:Nat)
 |frz (t j:Nat)

structure XX where
 c:Ctx
 V:Nat
 df:Bool
 pf:Nat→cC
 gh:Nat→List Gh
 ow:Nat→Nat→Bool
 sg:Nat
 h:Nat

theorem am4(s:ByteArray)(n:Nat):s[n]? = dk s.data.toList n:=by
 rw[bu];by_cases h:n<s.size
 ·rw[getElem?_pos s n h,dY l6];rfl
 ·rw[getElem?_neg s n h,Jc l6]

noncomputable def ac4 (E:bk) (o:Option Operand) (d:Int):Option Int :=
 match o with
 |none=>some d
 |some x=>match vq E x with
  | .d (.v (.int .i64 n))=>some n
  |_=>none
theorem kL(E:bk)(o:Option Operand)(d:Int):ac4 E o d=q8 E o d:=by unfold ac4 q8;simp only[iR];rfl

noncomputable def RL (c:Ctx) (E:bk) (T:Nat) (x i:Operand):Option AV :=
 match c.ty T with
 |some ⟨_,_,_,.str⟩=>match vq E x with
  | .d (.v (.string s))=>match vq E i with
   | .d (.v (.int .i64 (.ofNat n)))=>match sC s.data.toList n with
    |some b=>some (.d (.v (.int .u8 b.toNat)))
    |none=>none
   |_=>none
  |_=>none
 |_=>none

noncomputable def ZU (c:Ctx) (pf:Nat→cC) (E:bk) (objs:List Ob) (T:Nat) (x i:Operand):Option AV :=
 match c.ty T with
 |some ⟨_,_,_,.slice e⟩=>match c.ty e with
  |some τ=>match vq E i with
   | .d (.v (.int .i64 (.ofNat n)))=>match vq E x with
    | .ow id s=>match sC objs id with
     |some (.arr sz s' aa)=>bif Nat.beq s s'&&(Nat.beq τ.size sz&&(Nat.blt n (len aa)&&decide (Ew pf=.load))) then some (.el id s n 0) else none
     |_=>none
    |y=>match lB y with
     | .d (.sl aa)=>match sC aa n with
      |some row=>bif Nat.beq (len row) τ.size then some (.d (.bG row)) else none
      |none=>none
     |_=>none
   |_=>none
  |none=>none
 |_=>none

noncomputable def ZV (c:Ctx) (pf:Nat→cC) (h:Nat) (E:bk) (objs:List Ob) (T:Nat) (x:Operand):Option AV :=
 match c.ty T with
 |some τ=>match vq E x with
  | .el id s r j=>match sC objs id with
   |some (.arr _ s' aa)=>bif Nat.beq s s'&&decide (kA pf x=.load) then (match sC aa r with
    |some row=>ky τ (row.map .d) j
    |none=>none) else none
   |_=>none
  | .lo i off=>match sC objs i with
   |some (.box l)=>match kA pf x with
    | .look (m+1)=>bif (Nat.blt m 100&&Nat.ble (bif Nat.blt i h then 3 else 10) m) || (Nat.beq m (Nat.add 100 i) || Nat.beq m 10000) then none else ky τ l off
    |_=>none
   |_=>none
  |_=>none
 |none=>none

noncomputable def RM (c:Ctx) (pf:Nat→cC) (E:bk) (objs:List Ob) (T:Nat) (d x:Operand):Option OU :=
 match c.ty T with
 |some τ=>match vq E d with
  | .lo i off=>match sC objs i with
   |some (.box l)=>match fU (vq E x) with
    |some new=>bif decide (iZ pf d=.bO (Nat.add 100 i))&&(Nat.beq (len new) τ.size&&Nat.ble (Nat.add off τ.size) (len l)) then some (.set i (.box (gy l off new))) else none
    |none=>none
   |_=>none
  |_=>none
 |none=>none

noncomputable def RN (c:Ctx) (E:bk) (T:Nat) (x:Operand) (lo hi:Option Operand):Option AV :=
 match c.ty T with
 |some ⟨_,_,_,.str⟩=>match vq E x with
  | .d (.v (.string s))=>match ac4 E lo 0 with
   |some (.ofNat l)=>match ac4 E hi (len s.data.toList) with
    |some (.ofNat h)=>bif Nat.ble l h&&Nat.ble h (len s.data.toList) then some (.d (.v (.string (s.extract l h)))) else none
    |_=>none
   |_=>none
  |_=>none
 |_=>none

noncomputable def ZW (c:Ctx) (E:bk) (S D:Nat) (x:Operand):Option AV :=
 match c.ty S with
 |some ⟨_,_,_,.int _⟩=>match c.ty D with
  |some ⟨_,_,_,.str⟩=>match vq E x with
   | .d (.v (.int _ n))=>some (.d (.v (.string (Utf8.encode n))))
   |_=>none
  |_=>none
 |_=>none
def qK (aa:List (List D))(sz:Nat):Bool:=aa.all fun r=>Nat.beq (len r) sz&&r.all fun x=>p7 (.d x)

noncomputable def afA (c:Ctx) (E:bk) (objs:List Ob) (T T':Nat) (x y:Operand):Option (AV × OU) :=
 match c.ty T with
 |some ⟨_,_,_,.slice e⟩=>match c.ty T' with
  |some ⟨_,_,_,.slice _⟩=>match c.ty e with
   |some τ=>match lB (vq E y) with
    | .d (.sl cu)=>match vq E x with
     | .ow i s=>match sC objs i with
      | some (.arr sz s' aa)=>bif Nat.beq s s'&&(Nat.beq τ.size sz&&(qK cu sz&&Nat.ble (Nat.mul (Nat.add (len aa) (len cu)) (Nat.succ τ.bytes)) 140737488355328)) then
        UX (aa++cu) fun r=>some (.ow i (Nat.succ s),.set i (.arr sz (Nat.succ s) r)) else none
      |_=>none
     | .fs aa=>bif qK aa τ.size&&(qK cu τ.size&&(Nat.ble (Nat.mul (Nat.add (len aa) (len cu)) (Nat.succ τ.bytes)) 140737488355328&&(Nat.beq (len aa) 0 || Nat.blt 0 (len cu)))) then
        UX (aa++cu) fun r=>some (.ow (len objs) 0,.app (.arr τ.size 0 r)) else none
     | .d (.v (.slice none 0 0))=>bif qK cu τ.size&&Nat.ble (Nat.mul (Nat.add 0 (len cu)) (Nat.succ τ.bytes)) 140737488355328 then
        UX cu fun r=>some (.ow (len objs) 0,.app (.arr τ.size 0 r)) else none
     |_=>none
    |_=>none
   |none=>none
  |_=>none
 |_=>none

noncomputable def afB (c:Ctx) (pf:Nat→cC) (E:bk) (objs:List Ob) (T:Nat) (x:Operand):Option AV :=
 match c.ty T with
 |some ⟨_,_,_,.slice _⟩=>match vq E x with
  | .ow i s=>match sC objs i with
   |some (.arr _ s' aa)=>bif Nat.beq s s'&&decide (mW pf #[x]=.load) then some (iV (len aa)) else none
   |_=>none
  |_=>none
 |some ⟨_,_,_,.str⟩=>match vq E x with
  | .d (.v (.string s))=>some (iV (len s.data.toList))
  |_=>none
 |_=>none

noncomputable def RO (c:Ctx) (E:bk) (objs:List Ob) (T:Nat) (x:Operand):Option (AV × OU) :=
 match c.ty T with
 |some ⟨_,_,_,.str⟩=>match vq E x with
  | .d (.v (.string s))=>some (.lo (len objs) 0,.app (.Ik s 0))
  |_=>none
 |_=>none

noncomputable def ZX (E:bk) (objs:List Ob) (x:Operand):Option (AV × OU) :=
 match vq E x with
 | .lo i 0=>match sC objs i with
  | some (.Ik s p)=>bif Nat.blt p (len s.data.toList) then
    (match Utf8.decode s p with |(c,wd)=>some (.cH [.tt,iV p,.d (.v (.int .i32 c))],OU.set i (.Ik s (p+wd))))
   else some (.cH [.ff],.same)
  |_=>none
 |_=>none

noncomputable def ZY (x:XX) (own:Nat→Bool) (call:zo) (E:bk) (objs:List Ob) (y:Operand) (args:Array Operand) (ts:Array Nat):XR (AV × OU) :=
 match vq E y with
 | .bU f fs cs=>match bI x.pf (.call { callee:=.value y,args:=args,argTypes:=ts }) with
  | .bO 9=>Dg (call (own f)) none f ((fs++args.toList.map (vq E)++cs).map lB) objs
  | .bO 3=>Dg (call (own f)) (some x.h) f ((fs++args.toList.map (vq E)++cs).map lB) objs
  |_=>.error [1003]
 |_=>.error [1003]

noncomputable def afC (x:XX) (E:bk) (T:Nat) (a b:Operand):Option AV :=
 bif Nat.beq T x.sg then (match vq E a,vq E b with
  | .agg [.d (.v (.string s)),.d (.v (.int .i64 m))],.agg [.d (.v (.string t)),.d (.v (.int .i64 n))]=>some (bV (zR s.data.toList t.data.toList&&decide (m=n)))
  |_,_=>none) else none

noncomputable def RP (x:XX) (E:bk) (objs:List Ob) (T n:Nat) (parts:Array (Nat × Operand)):Option (AV × OU) :=
 match x.c.ty T with
 |some ⟨_,_,_,.slice e⟩=>match x.c.ty e with
  |some τ=>match kN (parts.toList.map fun p=>(p.1,vq E p.2)) 0 τ.size with
   |some aa=>bif decide (Qf x.pf=.bO 0)&&(Nat.beq (len aa) n&&(Nat.ble (Nat.mul n τ.size) 100000&&Nat.ble n 100000)) then UX aa fun aa=>some (.ow (len objs) 0,.app (.arr τ.size 0 aa)) else none
   |none=>none
  |none=>none
 |_=>none
def exV (o:Option AV):XR (AV × OU):=match o with |some v=>.ok (v,.same) |none=>.error [1003]
def exU (o:Option (AV × OU)):XR (AV × OU):=match o with |some v=>.ok v |none=>.error [1003]

theorem vn{o:Option AV}(h:exV o=.ok (v,u)):o=some v∧u=.same:=by
 unfold exV at h;split at h<;>cases h;exact⟨rfl,rfl⟩

theorem Dh{o:Option (AV × OU)}{x:AV × OU}(h:exU o=.ok x):o=some x:=by
 unfold exU at h;split at h<;>cases h;rfl

noncomputable def aiI (x:XX) (own:Nat→Bool) (call:zo) (E:bk) (objs:List Ob) (op:Op):XR (AV × OU) :=
 match op with
 | .index T a i=>exV (RL x.c E T a i)
 | .indexAddr T a i=>exV (ZU x.c x.pf E objs T a i)
 | .load T a=>exV (ZV x.c x.pf x.h E objs T a)
 | .store T d a=>exU (match RM x.c x.pf E objs T d a with |some o=>some (.any,o) |none=>none)
 | .slice T a lo hi none=>exV (RN x.c E T a lo hi)
 | .convert S D a=>exV (ZW x.c E S D a)
 | .binOp .eql T a b _=>exV (afC x E T a b)
 | .buildSlice T n parts=>exU (RP x E objs T n parts)
 | .call { callee:=.builtin .append,args:=⟨[a,b]⟩,argTypes:=⟨[T,T']⟩ }=>exU (afA x.c E objs T T' a b)
 | .call { callee:=.builtin .len,args:=⟨[a]⟩,argTypes:=⟨[T]⟩ }=>exV (afB x.c x.pf E objs T a)
 | .call { callee:=.value y,args,argTypes }=>ZY x own call E objs y args argTypes
 | .range T a=>exU (RO x.c E objs T a)
 | .next a true=>exU (ZX E objs a)
 |_=>.error [1003]
section
variable {g:G} {pf:Nat→cC} {ad:Array Oper} {Fin:Exit→Act→World→Prop} {bT:List Ob} {call:zo}

theorem tG{aa:List (List D)}{sz:Nat}(h:qK aa sz=true):(∀r∈aa,r.length=sz)∧∀r∈aa,∀x∈r,p7 (.d x)=true:=by
 refine⟨fun r hr=>?_,fun r hr x hx=>?_⟩<;>have:=fk.1 h r hr<;>simp only[aV]at this
 ·rw[← bj];exact cp this.1
 ·exact fk.1 this.2 x hx

theorem HY{m n b:Nat}(h:Nat.ble (Nat.mul (Nat.add m n) (Nat.succ b)) 140737488355328=true):(m+n) * b≤140737488355328∧m+n≤140737488355328:=by
 have h:=ke h;have h':(m+n) * (b+1)≤140737488355328:=h;rw[Nat.mul_add,Nat.mul_one]at h';exact⟨by omega,by omega⟩

theorem ac6(hg:GS g bT)(hc:∀w f dM o0 r o1,call w f dM o0=.ok (r,o1)→aU g.P g.Y f dM o0 r o1){x:XX}(tK:x.c=⟨g.ty,g.N⟩)(RQ:x.pf=pf)(Vl:x.h=g.φ0.length)(LY:Nu g.P x.sg){own:Nat→Bool}{o:Oper}{ax:List Oper}(bm:aG ad.toList E o.guard=some true)(hd:aO ⟨g.ty,g.N⟩ o.dst=true)
  (h:aiI x own call E objs o.op=.ok (v,u)) (hr:R g pf Fin (.dr ad ax::k) (bf E o.dst v) (sD u objs)):R g pf Fin (.dr ad (o::ax)::k) E objs:=by
 obtain⟨dst,op,ty,qW,after,gd⟩:=o;obtain⟨xc,xV,xd,xp,xg,xo,xs,xh⟩:=x;simp only at tK RQ Vl LY;subst tK;subst RQ;subst Vl;simp only at bm hd h hr;unfold aiI at h;simp only at h;split at h
 ·rename_i T x i;obtain⟨hv,rfl⟩:=vn h;clear h;unfold RL at hv
  try simp only[iR,fR,kL]at hv
  (repeat' split at hv)<;>cases hv
  exact nh hg.ok bm hd Ep Ep Ep Mz (by rw[am4];assumption) hr
 ·rename_i T x i;obtain⟨hv,rfl⟩:=vn h;clear h;unfold ZU at hv
  try simp only[iR,fR,kL]at hv
  split at hv
  case h_2=>cases hv
  rename_i hT;split at hv
  case h_2=>cases hv
  rename_i τ he;split at hv
  case h_2=>cases hv
  rename_i n hi;split at hv
  ·rename_i id s hx;split at hv
   case h_2=>cases hv
   rename_i sz s' aa ho;cases hb:(Nat.beq s s'&&(Nat.beq τ.size sz&&(Nat.blt n (len aa)&&decide (Ew xp=.load))))
   ·rw[hb]at hv;cases hv
   ·rw [hb] at hv; cases hv;simp only[aV,decide_eq_true_eq,Nat.blt_eq,bj]at hb;obtain rfl:=cp hb.1;exact ry hg.ok bm hd hb.2.2.2 hx ho hi hT he (cp hb.2.1) Mz hb.2.2.1 hr
  ·split at hv
   case h_2=>cases hv
   rename_i aa hn;split at hv
   case h_2=>cases hv
   rename_i row gL;cases hb:Nat.beq (len row) τ.size
   ·rw[hb]at hv;cases hv
   ·rw [hb] at hv; cases hv;exact dN hg.ok bm hd hn hi hT he Mz (by rw[bu]at gL;exact gL) (by rw[← bj];exact cp hb) hr
 ·rename_i T x;obtain⟨hv,rfl⟩:=vn h;clear h;unfold ZV at hv
  try simp only[iR,fR,kL]at hv
  split at hv
  case h_2=>cases hv
  rename_i τ hT;split at hv
  ·rename_i id s r j hx;split at hv
   case h_2=>cases hv
   rename_i sz s' aa ho;cases hb:(Nat.beq s s'&&decide (kA xp x=.load))
   ·rw[hb]at hv;cases hv
   ·rw [hb] at hv;simp only[aV,decide_eq_true_eq]at hb;obtain rfl:=cp hb.1;simp only[cond_true]at hv;split at hv
    case h_2=>cases hv
    rename_i row gL;exact zT hg.ok bm hd hb.2 hx ho hT (by rw[bu]at gL;exact gL) hv hr
  ·rename_i i off hx;split at hv
   case h_2=>cases hv
   rename_i l ho;split at hv
   case h_2=>cases hv
   rename_i m hm;cases hb:((Nat.blt m 100&&Nat.ble (bif Nat.blt i g.φ0.length then 3 else 10) m) || (Nat.beq m (Nat.add 100 i) || Nat.beq m 10000))
   ·rw [hb] at hv;simp only[DI]at hb;refine Gb hg.ok m ?_ bm hd hm hx ho hT hv hr;rintro(⟨h1,h2⟩ |h1 |⟨h1,_⟩)
    ·have:(bif Nat.blt i g.φ0.length then 3 else 10)≤m:=by
      simp only[Ob.lvl]at h2;cases hi:Nat.blt i g.φ0.length
      ·have:¬ i<g.φ0.length:=fun h=>by rw [← Nat.blt_eq,hi] at h; cases h
       rw[if_neg this]at h2;exact h2
      ·have:i<g.φ0.length:=by rw [Nat.blt_eq] at hi; exact hi
       rw[if_pos this]at h2;exact h2
     have h3:Nat.blt m 100=true:=by rw[Nat.blt_eq];exact h1
     rw[h3,Wa this]at hb;simp at hb
    ·subst h1;have:=hb.2.1;rw[show Nat.beq (100+i) (Nat.add 100 i)=true from Nat.beq_refl _]at this;cases this
    ·subst h1;simp at hb
   ·rw[hb]at hv;cases hv
  ·cases hv
 ·rename_i T d x;have hv:=Dh h;split at hv<;>cases hv
  rename_i hv;unfold RM at hv
  try simp only[iR,fR,kL]at hv
  split at hv
  case h_2=>cases hv
  rename_i τ hT;split at hv
  case h_2=>cases hv
  rename_i i off hx;split at hv
  case h_2=>cases hv
  rename_i l ho;split at hv
  case h_2=>cases hv
  rename_i new hn;cases hb:(decide (iZ xp d=.bO (Nat.add 100 i))&&(Nat.beq (len new) τ.size&&Nat.ble (Nat.add off τ.size) (len l)))
  ·rw[hb]at hv;cases hv
  ·rw [hb] at hv; cases hv;simp only[aV,decide_eq_true_eq]at hb;exact AA hg.ok bm hd hb.1 hx ho hT hn hb.2.1 hb.2.2 hr
 ·rename_i T x lo hi;obtain⟨hv,rfl⟩:=vn h;clear h;unfold RN at hv
  try simp only[iR,fR,kL]at hv
  split at hv
  case h_2=>cases hv
  rename_i hT;split at hv
  case h_2=>cases hv
  rename_i s hx;split at hv
  case h_2=>cases hv
  rename_i l hl;split at hv
  case h_2=>cases hv
  rename_i m hm;cases hb:(Nat.ble l m&&Nat.ble m (len s.data.toList))
  ·rw[hb]at hv;cases hv
  ·rw [hb] at hv; cases hv;simp only[aV]at hb;have e:len s.data.toList=s.size:=by rw[bj];rfl
   rw[e]at hm hb;have h1:=ke hb.1;have h2:=ke hb.2;exact W6 hg.ok bm hd hx hl hm hT Mz (Int.ofNat_le.2 h1) (Int.ofNat_le.2 h2) hr
 ·rename_i S D x;obtain⟨hv,rfl⟩:=vn h;clear h;unfold ZW at hv
  try simp only[iR,fR,kL]at hv
  (repeat' split at hv)<;>cases hv
  exact QL hg.ok _ bm hd Ep Ep Ep rfl hr
 ·rename_i T a b _;obtain⟨hv,rfl⟩:=vn h;clear h;unfold afC at hv;simp only[iR]at hv;cases hb:Nat.beq T xs
  ·rw[hb]at hv;cases hv
  rw[hb]at hv;simp only[cond_true]at hv;split at hv<;>cases hv
  rename_i s m t n ha uc;obtain rfl:=cp hb
  have e:(zR s.data.toList t.data.toList&&decide (m=n))=decide (((s,m):Sg)=(t,n)):=by
   rw[← Dd,vK,aV,Tm.bo,decide_eq_true_eq,decide_eq_true_eq,Prod.mk.injEq]
  rw[e]at hr;exact QW hg.ok (s,m) (t,n) LY bm hd ha uc hr
 ·rename_i T n parts;have h:=Dh h;unfold RP at h;simp only[iR]at h;split at h
  case h_2=>cases h
  rename_i hT;split at h
  case h_2=>cases h
  rename_i τ he;split at h
  case h_2=>cases h
  rename_i aa eA;cases hb:(decide (Qf xp=.bO 0)&&(Nat.beq (len aa) n&&(Nat.ble (Nat.mul n τ.size) 100000&&Nat.ble n 100000)))
  ·rw[hb]at h;cases h
  ·rw [hb] at h;simp only[cond_true,xn,Option.some.injEq,Prod.mk.injEq]at h;obtain⟨rfl,rfl⟩:=h;simp only[aV,decide_eq_true_eq,bj]at hb;exact Kb hg.ok aa bm hd hb.1 hT he eA (cp hb.2.1) rfl (ke hb.2.2.1) (ke hb.2.2.2) hr
 ·rename_i x y T T';have h:=Dh h;unfold afA at h
  try simp only[iR,fR,kL]at h
  split at h
  case h_2=>cases h
  rename_i hT;split at h
  case h_2=>cases h
  rename_i kX;split at h
  case h_2=>cases h
  rename_i τ he;split at h
  case h_2=>cases h
  rename_i cu hy;split at h
  ·rename_i i s hx;split at h
   case h_2=>cases h
   rename_i sz s' aa ho;cases hb:(Nat.beq s s'&&(Nat.beq τ.size sz&&(qK cu sz&&Nat.ble (Nat.mul (Nat.add (len aa) (len cu)) (Nat.succ τ.bytes)) 140737488355328)))
   ·rw[hb]at h;cases h
   ·rw [hb] at h;simp only[cond_true,xn,Option.some.injEq,Prod.mk.injEq]at h;obtain⟨rfl,rfl⟩:=h;simp only[aV,bj]at hb;obtain rfl:=cp hb.1;have h1:=tG hb.2.2.1;have h2:=HY hb.2.2.2;exact dp hg.ok _ bm hd hx ho hy hT kX he (cp hb.2.1) h1.1 h1.2 rfl h2.1 h2.2 hr
  ·rename_i aa hx;cases hb:(qK aa τ.size&&(qK cu τ.size&&(Nat.ble (Nat.mul (Nat.add (len aa) (len cu)) (Nat.succ τ.bytes)) 140737488355328&&(Nat.beq (len aa) 0 || Nat.blt 0 (len cu)))))
   ·rw[hb]at h;cases h
   ·rw [hb] at h;simp only[cond_true,xn,Option.some.injEq,Prod.mk.injEq]at h;obtain⟨rfl,rfl⟩:=h;simp only[aV,bj,mS]at hb;have h2:=HY hb.2.2.1;refine sI hg.ok bm hd (.inl hx) hy (hb.2.2.2.imp (fun h=>Wg (cp h)) fun h e=>by subst e;cases h) hT kX he (tG hb.1).1 (tG hb.2.1).1 h2.1 h2.2 hr
  ·rename_i hx;cases hb:(qK cu τ.size&&Nat.ble (Nat.mul (Nat.add 0 (len cu)) (Nat.succ τ.bytes)) 140737488355328)
   ·rw[hb]at h;cases h
   ·rw [hb] at h;simp only[cond_true,xn,Option.some.injEq,Prod.mk.injEq]at h;obtain⟨rfl,rfl⟩:=h;simp only[aV,bj]at hb;have h2:=HY hb.2;exact sI hg.ok (aa:=[]) bm hd (.inr ⟨hx,rfl⟩) hy (.inl rfl) hT kX he aC (tG hb.1).1 h2.1 h2.2 hr
  ·cases h
 ·rename_i x T;obtain⟨hv,rfl⟩:=vn h;clear h;unfold afB at hv
  try simp only[iR,fR,kL]at hv
  split at hv
  case h_3=>cases hv
  case h_2 =>
   rename_i hT;split at hv
   case h_2=>cases hv
   rename_i s hx;cases hv;exact Xz hg.ok bm hd hx hT (by rw[bj];rfl) hr
  rename_i hT;split at hv
  case h_2=>cases hv
  rename_i i s hx;split at hv
  case h_2=>cases hv
  rename_i sz s' aa ho;cases hb:(Nat.beq s s'&&decide (mW xp #[x]=.load))
  ·rw[hb]at hv;cases hv
  ·rw [hb] at hv; cases hv;simp only[aV,decide_eq_true_eq]at hb;obtain rfl:=cp hb.1;exact uy hg.ok bm hd hx ho hT (by rw[bj]) hr hb.2
 ·rename_i x args ts;unfold ZY at h
  try simp only[iR,fR,kL]at h
  split at h
  case h_2=>cases h
  rename_i f fs cs hx;split at h
  ·rename_i dV;obtain⟨is,dM,o0,r,o1,h1,h2,h3,h4,h5,_⟩:=yB h;cases h5;exact ai hg.ok hg.cm hg.wide hg.Y is _ (hc _ _ _ _ _ _ h1) cF bm hd dV hx h2 h3 h4 rfl hr
  ·rename_i dV;obtain⟨is,dM,o0,r,o1,h1,h2,h3,h4,h5,h6⟩:=yB h;cases h5;exact jv hg.ok hg.cm hg.wide hg.Y is _ (hc _ _ _ _ _ _ h1) cF (h6 _ rfl) bm hd dV hx h2 h3 h4 rfl hr
  ·cases h
 ·rename_i T x;have h:=Dh h;unfold RO at h
  try simp only[iR,fR,kL]at h
  split at h
  case h_2=>cases h
  rename_i hT;split at h
  case h_2=>cases h
  rename_i s hx;cases h;exact Bt hg.ok bm hd hx hT hr
 ·rename_i x;have h:=Dh h;unfold ZX at h
  try simp only[iR,fR,kL]at h
  split at h
  case h_2=>cases h
  rename_i i hx;split at h
  case h_2=>cases h
  rename_i s p ho;have e:len s.data.toList=s.size:=by rw[bj];rfl
  rw[e]at h;cases hb:Nat.blt p s.size
  ·rw [hb] at h; cases h;exact GX hg.ok bm hd hx ho (Nat.le_of_not_lt fun h=>by rw[← Nat.blt_eq,hb]at h;cases h) hr
  ·rw [hb] at h;cases h;rw[Nat.blt_eq]at hb;exact GW hg.ok bm hd hx ho hb rfl hr
 ·cases h
def Vm (v:AV):AV:=match v with | .d (.v (.bool b))=>bif b then .tt else .ff |v=>v

theorem RR(v:AV):bM v (Vm v):=by
 unfold Vm;split
 ·rename_i b;cases b
  ·exact WU rfl
  ·exact WT rfl
 ·exact .refl _

theorem aiJ{dst:Option Nat}(V:Nat)(h:R g pf Fin k (F0 V E dst (Vm v)) objs):R g pf Fin k (bf E dst v) objs :=
 h.zH fun u=>by
  rw[ZN,gg,gg];split
  ·exact RR v
  ·exact .refl _

noncomputable def ZZ (t:Ty) (l:List AV) (off:Nat):Option AV:=match t.agg with
 |true=>ky t l off
 |false=>sC l off

noncomputable def exL (ty:Nat→Option Ty) (ρ:Operand→AV) (objs:List Ob) (op:Op):Option AV:=match op with
 | .load T a=>match ty T with
  |some τ=>match ρ a with
   | .lo i off=>match sC objs i with
    |some (.box l)=>ZZ τ l off
    |_=>none
   | .d (.bG l)=>ky τ (l.map .d) 0
   |_=>none
  |none=>none
 |op=>eX ty ρ objs op

theorem aiK(ty:Nat→Option Ty)(ρ:Operand→AV)(objs:List Ob)(op:Op):exL ty ρ objs op=eX ty ρ objs op:=by
 unfold exL;split
 ·simp only [eX,fR]
  have e:∀ (t:Ty) (l:List AV) (off:Nat),ZZ t l off=ky t l off:=fun t l off=>by
   unfold ZZ ky;cases t.agg<;>simp only[fR]
  simp only[e];rfl
 ·rfl

noncomputable def exE (ty:Nat→Option Ty) (ρ:Operand→AV) (objs:List Ob) (op:Op):Option (AV × OU):=match op with
 | .alloc T=>match ty T with
  |some τ=>some (.lo (len objs) 0,.app (.box (τ.zero.map fun x=>.d (.v x))))
  |none=>none
 | .box T x=>match ty T with
  |some τ=>match fU (ρ x) with
   |some l=>bif Nat.beq (len l) τ.size then some (.lo (len objs) 0,.app (.box l)) else none
   |none=>none
  |none=>none
 | .store T a x=>match ty T with
  |some τ=>match fU (ρ x) with
   |some new=>bif Nat.beq (len new) τ.size then (match ρ a with
    | .lo i off=>match sC objs i with
     |some (.box l)=>bif Nat.ble (Nat.add off τ.size) (len l) then some (.any,.set i (.box (gy l off new))) else none
     |_=>none
    |_=>none) else none
   |none=>none
  |none=>none
 |_=>none

theorem aiL{ty:Nat→Option Ty}{ρ:Operand→AV}{op:Op}(h:exE ty ρ objs op=some (v,u)):iz ty ρ objs op=some (v,sD u objs):=by
 unfold exE at h;simp only[fR]at h;split at h
 ·split at h <;> cases h
  rename_i hT;simp only[iz,hT,sD]
 ·split at h <;> try (cases h; done)
  rename_i τ hT;split at h<;>try (cases h;done)
  rename_i l hl;cases hb:Nat.beq (len l) τ.size
  ·rw[hb]at h;cases h
  ·rw [hb] at h; cases h;simp only[iz,hT,hl,hb,sD,cond_true]
 ·split at h <;> try (cases h; done)
  rename_i τ hT;split at h<;>try (cases h;done)
  rename_i new hl;cases hb:Nat.beq (len new) τ.size
  ·rw[hb]at h;cases h
  ·rw [hb] at h;simp only[cond_true]at h;split at h<;>try (cases h;done)
   rename_i i off ha;split at h<;>try (cases h;done)
   rename_i l ho;cases hc:Nat.ble (Nat.add off τ.size) (len l)
   ·rw[hc]at h;cases h
   ·rw [hc] at h; cases h;simp only[iz,hT,hl,hb,ha,ho,hc,sD,cond_true]
 ·cases h

noncomputable def qX (x:XX) (own:Nat→Bool) (call:zo) (all:List Oper):List Oper→bk→List Ob→XR (bk × List Ob)
 |[],E,objs=>.ok (E,objs)
 | o::r,E,objs=>bif aO x.c o.dst then
   match O2 all E o.guard with
   |some true =>
    match (bif held (jC x.pf) o.op then none else ZT x.c.ty (vq E) o.op) with
    |some v=>O6 v fun v=>O3 x.V E o.dst (Vm v) fun E=>qX x own call all r E objs
    |none=>match (bif held (jC x.pf) o.op then none else exL x.c.ty (vq E) objs o.op) with
     |some v=>O6 v fun v=>O3 x.V E o.dst (Vm v) fun E=>qX x own call all r E objs
     |none=>match (bif held (jC x.pf) o.op then none else exE x.c.ty (vq E) objs o.op) with
      |some (v,u)=>O6 v fun v=>doU u objs fun objs=>O3 x.V E o.dst (Vm v) fun E=>qX x own call all r E objs
      |none=>match aiI x own call E objs o.op with
       | .ok (v,u)=>O6 v fun v=>doU u objs fun objs=>O3 x.V E o.dst (Vm v) fun E=>qX x own call all r E objs
       | .error e=>.error (e++[1004,o.dst.getD 0])
   |some false=>O3 x.V E o.dst (.cH []) fun E=>qX x own call all r E objs
   |none=>.error [1005,o.dst.getD 0]
  else .error [1006]

theorem sE(hg:GS g bT)(hc:∀w f dM o0 r o1,call w f dM o0=.ok (r,o1)→aU g.P g.Y f dM o0 r o1){x:XX}(tK:x.c=⟨g.ty,g.N⟩)(RQ:x.pf=pf)(Vl:x.h=g.φ0.length)(LY:Nu g.P x.sg){own:Nat→Bool}{k:List It}{E':bk}{objs':List Ob}(hk:mA k=true)(hr:R g pf Fin k E' objs'):∀ (l:List Oper) (E:bk) (objs:List Ob),qX x own call ad.toList l E objs=.ok (E',objs')→R g pf Fin (.dr ad l::k) E objs
 |[],E,objs,h=>by
  simp only[qX,Except.ok.injEq,Prod.mk.injEq]at h;obtain⟨rfl,rfl⟩:=h;exact WS (ir hk) hr
 |o::r,E,objs,h=>by
  simp only[qX,iR,UU,aiK,tK,RQ]at h;cases hd:aO ⟨g.ty,g.N⟩ o.dst
  ·rw[hd]at h;cases h
  rw[hd]at h;simp only[cond_true]at h;split at h
  ·rename_i bm;have ih:=sE hg hc tK RQ Vl LY (own:=own) hk hr r
   have key:∀ (v:AV) (o1:List Ob),db g.ty (ev E) objs o.op=some (v,o1)→held (jC pf) o.op=false→qX x own call ad.toList r (F0 x.V E o.dst (Vm v)) o1=.ok (E',objs')→R g pf Fin (.dr ad (o::r)::k) E objs :=
    fun v o1 hs hh he=>Vt hg.ok hh bm hd hs (aiJ x.V (ih _ _ he))
   split at h
   ·rename_i v hv;cases hh:held (jC pf) o.op
    ·rw [hh] at hv;simp only[C9,xm]at h;exact key v objs (by rw[cond_false,De]at hv;simp only[db,hv]) hh h
    ·rw[hh]at hv;cases hv
   ·rename_i hv;split at h
    ·rename_i v xO;cases hh:held (jC pf) o.op
     ·rw [hh] at hv xO;simp only[C9,xm]at h;exact key v objs (by rw[cond_false,De]at hv;rw[cond_false]at xO;simp only[db,hv,xO]) hh h
     ·rw[hh]at xO;cases xO
    ·rename_i xO;split at h
     ·rename_i v u hv3;cases hh:held (jC pf) o.op
      ·rw [hh] at hv xO hv3;simp only[C9,xm,ZS]at h;exact key v _ (by rw[cond_false,De]at hv;rw[cond_false]at xO hv3;simp only[db,hv,xO,aiL hv3]) hh h
      ·rw[hh]at hv3;cases hv3
     ·split at h
      ·rename_i v u hv4;simp only[C9,xm,ZS]at h;exact ac6 hg hc tK RQ Vl LY bm hd hv4 (aiJ x.V (ih _ _ h))
      ·cases h
  ·rename_i bm;simp only[xm]at h;have e:Vm (.cH [])=.cH []:=rfl;exact cL (aI.skip hg.ok (cK bm) (dD hd)) (aiJ x.V (sE hg hc tK RQ Vl LY hk hr r _ _ h))
  ·cases h

inductive XI where
 |code (c:Code)
 |js (id:Nat)
 |lp (m:Nat) (b:Code)

def F1 (id:Nat):List XI→Option (List XI)
 | .js j::k=>bif Nat.beq j id then some k else F1 id k
 | .code _::k=>F1 id k
 | .lp _ _::k=>F1 id k
 |[]=>none

def ac7:List XI→Bool
 |[]=>true
 | .lp _ _::_=>false
 |_::k=>ac7 k

def Rnd (g:G) (pf:Nat→cC) (Fin:Exit→Act→World→Prop) (b:Code) (k:List It):Nat→bk→List Ob→Prop
 |0,_,_=>False
 |m+1,E,objs=>R g pf Fin (.code b :: .mark (Rnd g pf Fin b k m)::k) E objs

theorem am6{b:Code}(m:Nat)(h:Rnd g pf Fin b k m E objs):R g pf Fin (.code (.loop b)::k) E objs:=by
 rintro⟨nQ,ho⟩ a w hs;simp only[fB]at nQ;simp only[KP];refine wpIn_loop_rounds m ?_;induction m generalizing E objs a w with
 |zero=>exact h.elim
 |succ m ih =>
  have h1:=RK.ej (pf:=pf) (k:=.code b :: .mark (Rnd g pf Fin b k m)::k) ⟨nQ,ho⟩ h aC a w hs;refine wpIn_mono h1 fun e a' w' hk=>?_
  cases e<;>first
   |exact hk
   | (obtain ⟨E',objs',h2,h3⟩:=hk
      exact ih h2 _ _ h3)
theorem aiM{b:Code}{m:Nat}(h:R g pf Fin (.code b :: .mark (Rnd g pf Fin b k m)::k) E objs):R g pf Fin (.code (.loop b)::k) E objs:=am6 (m+1) h

def qa (g:G) (pf:Nat→cC) (Fin:Exit→Act→World→Prop):List XI→List It
 |[]=>[]
 | .code c::k=>.code c::qa g pf Fin k
 | .js i::k=>.js i::qa g pf Fin k
 | .lp m b::k=>.mark (Rnd g pf Fin b (qa g pf Fin k) m)::qa g pf Fin k

theorem Ax:∀ (k:List XI),mA (qa g pf Fin k)=true
 |[]=>rfl
 | .code _::k=>Ax k
 | .js _::k=>Ax k
 | .lp _ _::k=>Ax k

theorem HZ{g':G}:∀ (k:List XI),ac7 k=true→qa g pf Fin k=qa g' pf Fin k∧Nb (qa g pf Fin k)=true
 |[],_=>⟨rfl,rfl⟩
 | .code c::k,h=>by
  have:=HZ (g':=g') k h;exact⟨by simp only[qa,this.1],this.2⟩
 | .js _::k,h=>by
  have:=HZ (g':=g') k h;exact⟨by simp only[qa,this.1],this.2⟩
 | .lp _ _::k,h=>by cases h

theorem xq{id:Nat}:∀ {k k':List XI},F1 id k=some k'→iA id (qa g pf Fin k)=some (qa g pf Fin k')
 |[],_,h=>by cases h
 | .code _::k,_,h=>xq (k:=k) h
 | .lp _ _::k,_,h=>xq (k:=k) h
 | .js j::k,k',h=>by
  simp only[F1]at h;simp only[qa,iA];cases hb:Nat.beq j id
  ·rw[hb]at h;exact xq (k:=k) h
  ·rw[hb]at h;cases h;rfl
abbrev DF:=List (Nat × List AV × List AV)

def exG:List Gh→bk→List Ob→Option (bk × List Ob)
 |[],E,objs=>some (E,objs)
 | .own t j sz::l,E,objs=>match lk E t with
  | .lo i _=>match dk objs i with
   |some (.box b)=>match dk b j with
    |some (.d (.v (.slice none 0 0)))=>exG l E (da objs i (.box (da b j (.ow (len objs) 0)))++[.arr sz 0 []])
    |_=>none
   |_=>none
  |_=>none
 | .frz t j::l,E,objs=>match lk E t with
  | .lo i _=>match dk objs i with
   |some (.box b)=>match dk b j with
    |some (.ow m _)=>match dk objs m with
     |some (.arr _ s aa)=>exG l (qn (kg m s aa) E) (da (objs.map (aQ (kg m s aa))) m .dead)
     |_=>none
    |_=>none
   |_=>none
  |_=>none

theorem O8(hu:Iu g)(jB:g.rr=[]){k:List It}(ht:gz k=true){E':bk}{objs':List Ob}(hr:R g pf Fin k E' objs'):∀ (l:List Gh) (E:bk) (objs:List Ob),exG l E objs=some (E',objs')→R g pf Fin k E objs
 |[],E,objs,h=>by
  simp only[exG,Option.some.injEq,Prod.mk.injEq]at h;obtain⟨rfl,rfl⟩:=h;exact hr
 | .own t j sz::l,E,objs,h=>by
  simp only[exG]at h
  (repeat' split at h)<;>try (cases h;done)
  rename_i i _ _ _ b ho _ hb;exact l9 i j sz ho hb ht (O8 hu jB ht hr l _ _ h)
 | .frz t j::l,E,objs,h=>by
  simp only[exG]at h
  (repeat' split at h)<;>try (cases h;done)
  rename_i ho;exact Be hu _ ho ht (O8 hu jB ht hr l _ _ h) jB

def am7 (ad:List Oper):Option (Operand × Array Operand):=match ad.drop (Nat.pred (len ad)) with
 |[⟨none,.defer { callee:=.value x,args,argTypes:=_ },_,_,_,none⟩]=>some (x,args)
 |_=>none

noncomputable def vr (x:XX) (call:zo):Nat→List XI→bk→List Ob→DF→XR (bk × List Ob × DF)
 |0,_,_,_,_=>.error [1010]
 |_+1,[],E,objs,d=>.ok (E,objs,d)
 |n+1,.js _::k,E,objs,d=>vr x call n k E objs d
 |n+1,.lp m b::k,E,objs,d=>match m with
  |0=>.error [1011]
  |m+1=>vr x call n (.code b :: .lp m b::k) E objs d
 |n+1,.code cd::k,E,objs,d=>match cd with
  | .seq a b=>vr x call n (.code a :: .code b::k) E objs d
  | .skip=>vr x call n k E objs d
  | .block id b=>vr x call n (.code b :: .js id::k) E objs d
  | .exit id=>match F1 id k with
   |some k=>vr x call n k E objs d
   |none=>.error [1012]
  | .cond y a b=>match vq E y with
   | .tt=>vr x call n (.code a::k) E objs d
   | .ff=>vr x call n (.code b::k) E objs d
   |_=>.error [1013]
  | .loop b=>vr x call n (.code b :: .lp 10000 b::k) E objs d
  | .ret=>.ok (E,objs,d)
  | .region id ad dr=>RE x.V E fun E=>match (bif x.df then am7 ad.toList else none) with
   | some (y,args)=>bif ac7 k && !dr then
     match qX x (x.ow id) call ad.toList (ad.toList.take (Nat.pred (len ad.toList))) E objs with
     | .ok (E,objs)=>match vq E y with
      | .bU f fs cs=>vr x call n k E objs ((f,fs++args.toList.map (vq E),cs)::d)
      |_=>.error [1014]
     | .error e=>.error (e++[id])
    else .error [1015]
   | none=>bif jC x.pf (Nat.add 900000000 id) then .error [1016] else
    match x.gh id,d with
    |[],d=>match qX x (x.ow id) call ad.toList ad.toList E objs with
     | .ok (E,objs)=>vr x call n k E objs d
     | .error e=>.error (e++[id])
    |l,[]=>match exG l E objs with
     |some (E,objs)=>RH objs fun objs=>match qX x (x.ow id) call ad.toList ad.toList E objs with
      | .ok (E,objs)=>vr x call n k E objs []
      | .error e=>.error (e++[id])
     |none=>.error [1017,id]
    |_,_=>.error [1018]
  |_=>.error [1019]

theorem Z0{E':bk}{objs':List Ob}{d':DF}:∀ (n:Nat) (g:G) (x:XX) (k:List XI) (E:bk) (objs:List Ob) (d:DF),GS g bT→g.WH=false→g.rr=d→(∀w f dM o0 r o1,call w f dM o0=.ok (r,o1)→aU g.P g.Y f dM o0 r o1)→x.c=⟨g.ty,g.N⟩→x.pf=pf→x.h=g.φ0.length→Nu g.P x.sg →
  vr x call n k E objs d=.ok (E',objs',d')→(∀k,R (EK g d') pf Fin (.code .ret::k) E' objs')→R (EK g d') pf Fin [] E' objs'→R g pf Fin (qa g pf Fin k) E objs:=by
 intro n;induction n with
 |zero=>intro g x k E objs d _ _ _ _ _ _ _ _ h _ _;simp only[vr]at h;cases h
 |succ n ihn =>
  intro g x k E objs d hg hm hd hc tK RQ Vl LY h h1 h2;have ih:=fun (k:List XI) (E:bk) (objs:List Ob) (h:vr x call n k E objs d=.ok (E',objs',d'))=>ihn g x k E objs d hg hm hd hc tK RQ Vl LY h h1 h2
  have DL:=Ax (g:=g) (pf:=pf) (Fin:=Fin);cases k with
  |nil =>
   simp only[vr,Except.ok.injEq,Prod.mk.injEq]at h;obtain⟨rfl,rfl,rfl⟩:=h;subst hd;exact h2
  |cons i k =>
   cases i with
   |js id =>
    simp only[vr]at h;exact gv hg.ok 1 (DL k) aaW (ih _ _ _ h)
   |lp m b =>
    cases m with
    |zero=>simp only[vr]at h;cases h
    |succ m =>
     simp only[vr]at h;exact xZ (ih (.code b :: .lp m b::k) _ _ h)
   |code cd =>
    cases cd with
    |seq a b =>
     simp only[vr]at h;exact gv hg.ok 1 (DL k) aaW (ih (.code a :: .code b::k) _ _ h)
    |skip =>
     simp only[vr]at h;exact gv hg.ok 1 (DL k) aaW (ih _ _ _ h)
    |block id b =>
     simp only[vr]at h;exact gv hg.ok 1 (DL k) aaW (ih (.code b :: .js id::k) _ _ h)
    |exit id =>
     simp only[vr]at h;split at h
     ·rename_i k1 aR;exact gv hg.ok 1 (DL k) (by simp only[qa,kc,xq aR]) (ih _ _ _ h)
     ·cases h
    |cond y a b =>
     simp only[vr,iR]at h;split at h
     ·rename_i hx;exact gv hg.ok 1 (DL k) (by simp only[qa,kc,hx]) (ih (.code a::k) _ _ h)
     ·rename_i hx;exact gv hg.ok 1 (DL k) (by simp only[qa,kc,hx]) (ih (.code b::k) _ _ h)
     ·cases h
    |loop b =>
     simp only[vr]at h;exact aiM (ih (.code b :: .lp 10000 b::k) _ _ h)
    |ret =>
     simp only[vr,Except.ok.injEq,Prod.mk.injEq]at h;obtain⟨rfl,rfl,rfl⟩:=h;subst hd;exact h1 _
    |region id ad dr =>
     simp only[vr,C8,iR,RQ]at h;refine R.zH (O5 x.V E) ?_;generalize nM x.V E=E at h;split at h
     ·rename_i y args jB;cases Vh:x.df
      ·rw[Vh]at jB;cases jB
      rw[Vh]at jB;simp only[cond_true]at jB;cases hb:(ac7 k && !dr)
      ·rw[hb]at h;cases h
      rw[hb]at h;simp only[cond_true]at h;simp only[aV,xM]at hb;obtain⟨Q2,rfl⟩:=hb;split at h
      ·rename_i E1 a8 ho;split at h
       ·rename_i f fs cs hx;unfold am7 at jB;split at jB
        ·rename_i hl;cases jB;have hk:=HZ (g:=g) (pf:=pf) (Fin:=Fin) (g':=EK g ((f,fs++args.toList.map (ev E1),cs)::d)) k Q2;refine oe hg.ok hm hg.wide (Nat.pred (len ad.toList)) hl ?_ (DL k) hk.2;refine sE (k:=.mark _::qa g pf Fin k) hg hc tK RQ Vl LY (DL k) ?_ _ _ _ ho;refine xZ ⟨f,fs,cs,hx,?_⟩;rw[hk.1,hd];exact ihn (EK g ((f,fs++args.toList.map (ev E1),cs)::d)) x k E1 a8 _ (hg.sw _) hm rfl hc tK RQ Vl LY h h1 h2
        ·cases jB
       ·cases h
      ·cases h
     ·cases hh:jC pf (Nat.add 900000000 id)
      ·rw [hh] at h;simp only[cond_false]at h;split at h
       ·split at h
        ·rename_i E1 a8 ho;exact A8 hg.ok hh (sE hg hc tK RQ Vl LY (DL k) (ih _ _ _ h) _ _ _ ho)
        ·cases h
       ·split at h
        ·rename_i E1 a8 hgh;simp only[Da]at h;split at h
         ·rename_i E2 dW ho;exact O8 hg.cm hd rfl (A8 hg.ok hh (sE hg hc tK RQ Vl LY (DL k) (ih _ _ _ h) _ _ _ ho)) _ _ _ hgh
         ·cases h
        ·cases h
       ·cases h
      ·rw[hh]at h;cases h
    |_=>simp only[vr]at h;cases h

structure XF where
 fn:Func
 cd:Code
 pf:Nat→cC
 gh:Nat→List Gh
 v:Nat
 df:Bool
 ow:Nat→Nat→Bool
def XF.xx (x:XF)(ty:Nat→Option Ty)(sg h:Nat):XX:=⟨⟨ty,x.fn.ntmps⟩,x.v,x.df,x.pf,x.gh,x.ow,sg,h⟩

def LZ (ty:Nat→Option Ty)(results:List ResultVar)(n0:Nat)(E:bk)(objs:List Ob):XR (AV × List Ob):=match n9 ty E objs results with
 |some av=>.ok (bQ true n0 objs 30 av,(objs.take n0).map (aQ (bQ false n0 objs 30)))
 |none=>.error [1020]

noncomputable def O9 (ty:Nat→Option Ty) (results:List ResultVar) (n0:Nat) (E:bk) (objs:List Ob):XR (AV × List Ob):=match n9 ty E objs results with
 |some (.ow i _)=>match sC objs i with
  |some (.arr sz s aa)=>bif Nat.ble n0 i then LZ ty results (Nat.succ n0) (qn (mvA n0 i) E) ((objs.take n0).map (aQ (dA n0))++[.arr sz s aa]) else .error [1026]
  |_=>.error [1026]
 |_=>.error [1026]

noncomputable def RS (ty:Nat→Option Ty) (sg:Nat) (L0:Nat→Option XF) (call:zo) (fin:XF→bk→List Ob→DF→XR (AV × List Ob)) (f:Nat) (dM:List AV) (objs:List Ob):XR (AV × List Ob):=match L0 f with
 | some x=>bif Nat.ble (len dM) x.fn.ntmps then
   match vr (x.xx ty sg (len objs)) call 100000 [.code x.cd] (qn Vm (lP dM 0)) objs []with
   | .ok (E,o1,d)=>match fin x E o1 d with
    | .ok (r,o2)=>bif Nat.ble (len objs) (len o2) then .ok (r,o2) else .error [f,1021]
    | .error e=>.error (f::e)
   | .error e=>.error (f::e)
  else .error [f,1023]
 |none=>.error [f,1024]

noncomputable def exD (ty:Nat→Option Ty) (sg:Nat) (L0:Nat→Option XF) (call:zo) (f:Nat) (dM:List AV) (objs:List Ob):XR (AV × List Ob) :=
 RS ty sg L0 call (fun x E o1 d=>match d with |[]=>LZ ty x.fn.results.toList (len objs) E o1 |_=>.error [1022]) f dM objs

noncomputable def L3 (ty:Nat→Option Ty) (dc:Nat→List AV→List Ob→XR (AV × List Ob)) (results:List ResultVar) (n0:Nat):DF→bk→List Ob→XR (AV × List Ob)
 |[],E,objs=>LZ ty results n0 E objs
 |(f,fs,cs)::d,E,objs=>match Dg dc none f ((fs++cs).map lB) objs with
  | .ok (_,u)=>L3 ty dc results n0 d E (sD u objs)
  | .error e=>.error e

noncomputable def exF (ty:Nat→Option Ty) (sg:Nat) (L0:Nat→Option XF) (U0:Nat→List AV→List Ob→Option (AV × List Ob)):Nat→zo
 |0=>fun _ f _ _=>.error [f,1025]
 |n+1=>fun w f dM objs=>match U0 f dM objs with
  |some x=>.ok x
  |none=>RS ty sg L0 (exF ty sg L0 U0 n) (fun x E o1 d=>match w,d with
   |true,[]=>O9 ty x.fn.results.toList (len objs) E o1
   |true,_=>.error [1027]
   |false,d=>L3 ty (exD ty sg L0 (exF ty sg L0 U0 n)) x.fn.results.toList (len objs) d E o1) f dM objs

theorem afD(dM:List AV):∀ (k:Nat),zG (lP dM k) (qn Vm (lP dM k)):=by
 induction dM with
 |nil=>intro k t;exact .refl _
 |cons a dM ih =>
  intro k t;simp only[lP,qn,lk];cases Nat.beq k t
  ·exact ih _ t
  ·exact RR a
def RT (P:Program)(L0:Nat→Option XF):Prop:=∀f x,L0 f=some x→P.funcs[f]? = some x.fn∧x.fn.body=some x.cd∧(x.fn.name == "runtime.NumGoroutine")=false∧fB x.pf x.cd=true
variable {P:Program} {ty:Nat→Option Ty} {L0:Nat→Option XF} {Y:YP} {sg:Nat}

theorem L4{fin:XF→bk→List Ob→DF→XR (AV × List Ob)}(h:RS ty sg L0 call fin f dM objs=.ok (r,o2)) :
  ∃x E o1 d,L0 f=some x∧dM.length≤x.fn.ntmps∧objs.length≤o2.length∧vr (x.xx ty sg objs.length) call 100000 [.code x.cd] (qn Vm (lP dM 0)) objs []=.ok (E,o1,d)∧fin x E o1 d=.ok (r,o2):=by
 unfold RS at h;split at h
 case h_2=>cases h
 rename_i x hx;cases hb:Nat.ble (len dM) x.fn.ntmps
 ·rw[hb]at h;cases h
 rw[hb]at h;simp only[cond_true]at h;split at h
 case h_2=>cases h
 rename_i E o1 d he;split at h
 case h_2=>cases h
 rename_i r' o2' hr;cases hl:Nat.ble (len objs) (len o2')
 ·rw[hl]at h;cases h
 rw[hl]at h;cases h;have hl:=ke hl;rw[bj,bj]at hl;have hb:=ke hb;rw[bj]at hb;rw[bj]at he;exact⟨x,E,o1,d,hx,hb,hl,he,hr⟩

theorem Di{results:List ResultVar}{n0:Nat}(h:LZ ty results n0 E objs=.ok (r,o2)):∃av,n9 ty E objs results=some av∧bQ true n0 objs 30 av=r∧(objs.take n0).map (aQ (bQ false n0 objs 30))=o2:=by
 unfold LZ at h;split at h<;>cases h
 exact⟨_,‹_›,rfl,rfl⟩

theorem aiO(fY:jk P ty)(hm:P.follows .mixedOrders=true)(LY:Nu P sg)(ht:RT P L0)(hc:∀w f dM o0 r o1,call w f dM o0=.ok (r,o1)→aU P Y f dM o0 r o1)(h:exD ty sg L0 call f dM objs=.ok (r,o2)):DQ P Y f dM objs r o2:=by
 obtain⟨x,E,o1,d,hx,hb,hl,he,hr⟩:=L4 h;obtain⟨h1,h2,h3,h4⟩:=ht f x hx;cases d with
 |cons _ _=>cases hr
 |nil =>
  obtain⟨av,XY,hr1,QC⟩:=Di hr;refine DQ.ej (pf:=x.pf) fY hm h1 h2 h3 h4 hb hl fun w S φ hg=>?_
  refine R.zH (afD dM 0) ?_;rw[← hg.j5.len]at he;refine Z0 100000 _ (x.xx ty sg φ.length) [.code x.cd] _ _ [] hg rfl rfl hc rfl rfl rfl LY he (fun k=>?_) ?_
  ·exact ag6 (g:=EK _ []) (hg.sw []) (len objs) 30 (by rw[bj];exact ef _) XY hr1 QC
  ·exact M3 (g:=EK _ []) (hg.sw []) (len objs) 30 (by rw[bj];exact ef _) XY hr1 QC

theorem L5{dc:Nat→List AV→List Ob→XR (AV × List Ob)}{fn:Func}(hg:GS g bT)(hc:∀f dM o0 r o1,dc f dM o0=.ok (r,o1)→DQ g.P g.Y f dM o0 r o1){n0:Nat}(hn:bT.length≤n0){E:bk}{r:AV}{o2:List Ob}:∀ (d:DF) (objs:List Ob),L3 g.ty dc fn.results.toList n0 d E objs=.ok (r,o2)→Lv g fn r o2 d E objs
 |[],objs,h=>by
  unfold L3 at h;obtain⟨av,XY,h1,h2⟩:=Di h;exact Lv.nil hg n0 30 hn XY h1 h2
 |(f,fs,cs)::d,objs,h=>by
  unfold L3 at h;split at h
  ·rename_i v o1 hd;obtain⟨is,dM,o0,r',o1',h1,h2,h3,h4,h5,_⟩:=yB hd;cases h5;exact Lv.cons hg is (hc _ _ _ _ _ h1) cF h2 h3 h4 rfl (L5 hg hc hn d _ h)
  ·cases h

theorem U1(hg:GS g bT)(jB:g.rr=[]){fn:Func}(h:O9 g.ty fn.results.toList bT.length E objs=.ok (r,o2))(hk:k=[]∨∃k',k=.code .ret::k'):R g pf (zE g fn r o2) k E objs:=by
 unfold O9 at h;split at h<;>try (cases h;done)
 rename_i i s mZ;rw[fR]at h;split at h<;>try (cases h;done)
 rename_i sz s' aa ho;cases hb:Nat.ble bT.length i
 ·rw[hb]at h;cases h
 rw[hb]at h;obtain⟨av,XY,h1,h2⟩:=Di h;have ht:gz k=true:=by rcases hk with rfl |⟨_,rfl⟩<;>rfl
 refine acp bT.length i _ (by rw[hg.j5.len];exact ef _) (ke hb) ho ht rfl ?_ jB;rcases hk with rfl |⟨_,rfl⟩
 ·exact l3 hg (Nat.succ bT.length) 30 (o9 _) XY h1 h2 jB
 ·exact aK hg (Nat.succ bT.length) 30 (o9 _) XY h1 h2 jB

theorem aiP(fY:jk P ty)(hm:P.follows .mixedOrders=true)(LY:Nu P sg)(ht:RT P L0){U0:Nat→List AV→List Ob→Option (AV × List Ob)}(hp:∀f dM o0 r o1,U0 f dM o0=some (r,o1)→aU P Y f dM o0 r o1):∀ (n:Nat) (w:Bool) (f:Nat) (dM:List AV) (objs:List Ob) (r:AV) (o2:List Ob),exF ty sg L0 U0 n w f dM objs=.ok (r,o2)→aU P Y f dM objs r o2:=by
 intro n;induction n with
 |zero=>intro w f dM objs r o2 h;cases h
 |succ n ih =>
  intro w f dM objs r o2 h;simp only[exF]at h;split at h
  ·rename_i x hx;cases h;exact hp _ _ _ _ _ hx
  obtain⟨x,E,o1,d,hx,hb,hl,he,hr⟩:=L4 h;obtain⟨h1,h2,h3,h4⟩:=ht f x hx;rw[bj]at hr;refine aU.aeU (pf:=x.pf) fY hm h1 h2 h3 h4 hb hl fun w S φ hg=>?_
  refine R.zH (afD dM 0) ?_;rw[← hg.j5.len]at he;refine Z0 100000 _ (x.xx ty sg φ.length) [.code x.cd] _ _ [] hg rfl rfl ih rfl rfl rfl LY he (fun k=>?_) ?_
  all_goals
   split at hr
   ·exact U1 (g:=EK _ []) (hg.sw []) rfl hr (by first |exact .inl rfl |exact .inr ⟨_,rfl⟩)
   ·cases hr
   ·have hlv:=L5 (fn:=x.fn) hg (fun f dM o0 r o1 h=>aiO fY hm LY ht ih h) cP d o1 hr
    first
    |exact ag7 (g:=EK _ d) hlv
    |exact Xh (g:=EK _ d) hlv
end

theorem aiQ{S:Nat→Prop}{w:World}(hS:∀b,w.heap.size≤b→S b):HS S [] [] w:=by
 have Ir:∀b,¬ eD [] b:=by rintro b ⟨i,p,h,_⟩;simp at h
 refine⟨rfl,by simp,?_,fun b hb=>absurd hb (Ir b),hS⟩;intro i j p q b h;simp at h

theorem aU.toP{P:Program}{Y:YP}{r y:AV}(h:aU P Y f dM [] r o2)(hp:kZ dM=true)(hy:iB o2 30 r=some y):bD P f dM y:=by
 refine⟨h.call,fun S w bL ha hS hv=>?_⟩;have Ir:∀b,¬ eD [] b:=by rintro b ⟨i,p,h,_⟩;simp at h
 have hk:dE S w (SS S []) w:=fun b hb _=>⟨⟨hb,Ir b⟩,rfl⟩
 refine(h.run S [] w bL (ha.iS hk) (aiQ hS) (fun b hb=>absurd hb (Ir b)) (fun i l I B hi=>by simp at hi) (aW.pure hk hp hv)).mono ?_;rintro e w' ⟨v,φ',rfl,hr,cS⟩;have gQ:∀b,eD φ' b→S b:=fun b hb=>(cS.own b hb).elim (fun h=>absurd h (Ir b)) (hS b)
 exact⟨v,rfl,Ba gQ cS.hs 30 hr hy,⟨cS.os,cS.tape,cS.out,cS.size,fun b hb=>cS.fr b hb (Ir b)⟩⟩

theorem bD.toS{P:Program}{Y:YP}(h:bD P f dM r)(hp:kZ dM=true)(hr:mq r=true):aU P Y f dM [] r []:=by
 refine⟨h.call,fun S φ w bL ha hs gQ hY hv=>?_,ef _⟩;have SL:∀b,w.heap.size≤b→SS S φ b:=fun b hb=>⟨hs.up b hb,fun hc=>by have:=hs.lt b hc;omega⟩
 refine(h.run (SS S φ) w bL ha SL (aW.pure (dE.refl _ _) hp hv)).mono ?_;rintro e w' ⟨v,rfl,hv,hb⟩;have cS:jJ S φ w φ [] w':=⟨hs.later hb.size (fun b uc=>hb.block b uc),.of fun b uc hl=>⟨uc,hb.block b hl⟩,.refl _,hb.size,hb.os,hb.tape,hb.output,fun b uc _=>hb.block b uc,fun _ h=>.inl h,fun _ _ _ B h=>⟨B,h⟩⟩;exact⟨v,φ,rfl,hv.pure (dE.refl _ _) hr,cS⟩
end aw

namespace Go.Proofs.YtaagocopollacaaGreatDoor
open Go aw Go.Proofs
def sF (l:List Bs):List (List D):=l.map fun s=>[.v (.string (Tx s))]
theorem qL {l:List Bs}{i:Nat}{s:Bs}(h:l[i]? = some s):(sF l)[i]? = some [.v (.string (Tx s))]:=by simp[sF,h]

def Dj (x:Int × Int × Int):Value:=.agg #[.int .i64 x.1,.int .i64 x.2.1,.int .i64 x.2.2]
def afE:List (Value × D):=nK.map fun p=>(.string (Tx p.1),.v (Dj p.2))
def xr (mk:Bool):AV:=if mk then .d (.map afE) else .d (.v (.map none))

structure RC where
 a:D
 b:D
 c:D
 d:D
 e:D
 f:D
 n:Nat
 aa:List (List D)

def fp (q:RC)(dn lk:Int)(mk:Bool):List Ob :=
 [.box [.d q.a,.d q.b,.d q.c,.ow 1 q.n,.d q.d,.d q.e,.d q.f,.d (.v (.int .u32 dn)),.d (.v (.int .i32 lk)),.d (.v (.int .u32 0)),xr mk],.arr 1 q.n q.aa]

theorem U2 {f:AV→AV}(q:RC)(dn lk:Int)(mk:Bool)(h1:∀x,f (.d x)=.d x)(h2:f (.ow 1 q.n)=.ow 1 q.n):(fp q dn lk mk).map (aQ f)=fp q dn lk mk:=by
 have h3:f (xr mk)=xr mk:=by unfold xr;split<;>exact h1 _
 simp only[fp,List.map_cons,fj,aQ,h2,h3,iV,h1]

theorem Z1 (n0 n:Nat)(o:List Ob)(x:D):bQ false n0 o (n+1) (.d x)=.d x:=by
 unfold bQ;split<;>first |rfl |(rename_i h;cases h;rfl) |(rename_i h;cases h)

theorem gY (q:RC)(dn lk:Int)(mk:Bool)(n0:Nat)(o:List Ob)(hn:2≤n0):(fp q dn lk mk).map (aQ (bQ false n0 o 5))=fp q dn lk mk :=
 U2 q dn lk mk (fun x=>Z1 n0 4 o x) (by
  show (bif Nat.ble (Nat.succ 1) n0 then _ else _)=_
  rw[show Nat.ble (Nat.succ 1) n0=true from Wa hn];rfl)

theorem xI (q:RC)(dn lk:Int)(mk:Bool)(i j n:Nat)(l:List Nat):(fp q dn lk mk).map (bz (rn (i::j::l) n))=[.box [.d q.a,.d q.b,.d q.c,.ow j q.n,.d q.d,.d q.e,.d q.f,.d (.v (.int .u32 dn)),.d (.v (.int .i32 lk)),.d (.v (.int .u32 0)),xr mk],.arr 1 q.n q.aa]:=by
 have h3:c8 (rn (i::j::l) n) (xr mk)=xr mk:=by unfold xr;split<;>rfl
 simp only[fp,List.map_cons,fj,bz,iu,h3];rfl

theorem ac8 (a:Addr)(x:Int)(w:World)(h:w.cell? a=some (.int .u32 x)):(callFunc 155 #[.pointer (some a)]).run Tryz.prog w=.ok (.value (.int .u32 x)) w :=
 run_call_load Tryz.func155 cX cX cX .u32 cX h
theorem L6 (w:World):(callFunc 182 #[]).run Tryz.prog w=.ok (.value (.tuple #[])) w:=run_call_mark0 Tryz.func182 cX cX cX .disable cX w
theorem RU (w:World):(callFunc 184 #[]).run Tryz.prog w=.ok (.value (.tuple #[])) w:=run_call_mark0 Tryz.func184 cX cX cX .enable cX w
theorem Z2 (a:Addr)(w:World):(callFunc 185 #[.pointer (some a)]).run Tryz.prog w=.ok (.value (.tuple #[])) w:=run_call_marked Tryz.func185 cX cX cX .acquire cX a w
theorem Z3 (a:Addr)(w:World):(callFunc 187 #[.pointer (some a)]).run Tryz.prog w=.ok (.value (.tuple #[])) w:=run_call_marked Tryz.func187 cX cX cX .releaseMerge cX a w

theorem aiR (a:Addr)(x y:Int)(w:World)(h:w.cell? a=some (.int .i32 x))(hz:w.frozen? a=false):(callFunc 183 #[.pointer (some a),.int .i32 x,.int .i32 y]).run Tryz.prog w=.ok (.value (.bool true)) (w.setCell a (.int .i32 y)) :=
 run_call_cas_hit Tryz.func183 cX cX cX .i32 cX h hz

theorem Z4 (a:Addr)(u:Value)(y:Int)(w:World)(h:w.cell? a=some u)(hz:w.frozen? a=false):(callFunc 167 #[.pointer (some a),.int .u32 y]).run Tryz.prog w=.ok (.value (.tuple #[])) (w.setCell a (.int .u32 y)) :=
 run_call_store Tryz.func167 cX cX cX cX h hz

theorem aiS (a:Addr)(w:World)(h:w.cell? a=some (.int .i32 1))(hz:w.frozen? a=false):(callFunc 188 #[.pointer (some a),.int .i32 (-1)]).run Tryz.prog w=.ok (.value (.int .i32 0)) (w.setCell a (.int .i32 0)) :=
 run_call_add Tryz.func188 cX cX cX .i32 cX h hz (by simp[go_sem];rfl)
def ajD:Nat→cC:=fun f=>bif Nat.beq f 4000000010 then .bO 90 else .ji

theorem qM (Y:YP)(q:RC)(dn lk:Int)(mk:Bool):aU Tryz.prog Y 143 [.lo 0 7] (fp q dn lk mk) (bV (dn != 0)) (fp q dn lk mk):=by
 refine uw Tryz.func143 fun w S φ hg=>?_
 refine kp hg.ok Tryz.underlying107 rfl cX rfl rfl rfl (af ?_);refine Xx hg.ok ac8 rfl rfl rfl rfl rfl rfl (af ?_);exact aK hg 2 5 cP rfl rfl (gY q dn lk mk 2 _ cP)

theorem Ea (Y:YP)(q:RC)(dn lk:Int)(mk:Bool):DQ Tryz.prog Y 158 [.lo 0 7,bV true] (fp q dn lk mk) (.cH []) (fp q 1 lk mk):=by
 have hb:bD Tryz.prog 168 [bV true] (.d (.v (.int .u32 1))):=by
  refine oY Tryz.func168 fun w S hg=>?_
  refine oS ?_;refine cq ?_;rfl
 refine DQ.ej (pf:=fun _=>.ji) gK mixed Tryz.func158 rfl cX cX (by simp[Tryz.ntmps158]) (by simp[fp]) fun w S φ hg=>?_
 refine af ?_;refine kp hg.ok Tryz.underlying107 rfl cX rfl rfl rfl (af ?_);refine aF (hb) ?_;refine GR hg.ok (ys:=#[.tmp 8]) [.int .u32 1] (fun a w h hz=>Z4 a _ 1 w h hz) rfl rfl rfl rfl rfl rfl rfl (af ?_);exact M3 hg 2 5 cP rfl rfl (gY q 1 lk mk 2 _ cP)

theorem L7 (Y:YP)(q:RC)(dn:Int)(mk:Bool):aU Tryz.prog Y 165 [.lo 0 8] (fp q dn 0 mk) (.cH []) (fp q dn 1 mk):=by
 refine ajC Tryz.func165 fun w S φ hg=>?_
 refine GQ hg.ok L6 rfl rfl rfl (af ?_);refine GR hg.ok (ys:=#[.const (.int .i32 0),.const (.int .i32 1)]) [.int .i32 0,.int .i32 1] (fun a w h hz=>aiR a 0 1 w h hz) rfl rfl rfl rfl rfl rfl rfl (af ?_);refine oS ?_;refine GQ hg.ok RU rfl rfl rfl (af ?_);refine adT ?_;refine Xw hg.ok Z2 rfl rfl rfl rfl (af ?_);exact aK hg 2 5 cP rfl rfl (gY q dn 1 mk 2 _ cP)

theorem Pa (Y:YP)(q:RC)(dn:Int)(mk:Bool):aU Tryz.prog Y 156 [.lo 0 8] (fp q dn 0 mk) (.cH []) (fp q dn 1 mk):=by
 refine uw Tryz.func156 fun w S φ hg=>?_
 refine kp hg.ok Tryz.underlying111 rfl cX rfl rfl rfl (af ?_);refine ai hg.ok hg.cm hg.wide hg.Y [0,1] (fp q dn 1 mk) (L7 Y q dn mk) cF rfl rfl rfl rfl rfl tL rfl tL (af ?_);exact l3 hg 2 5 cP rfl rfl (gY q dn 1 mk 2 _ cP)

theorem Eb (Y:YP)(q:RC)(dn:Int)(mk:Bool):aU Tryz.prog Y 166 [.lo 0 8] (fp q dn 1 mk) (.cH []) (fp q dn 0 mk):=by
 refine ajC Tryz.func166 fun w S φ hg=>?_
 refine adT ?_;refine Xw hg.ok Z3 rfl rfl rfl rfl (af ?_);refine GQ hg.ok L6 rfl rfl rfl (af ?_);refine GR hg.ok (ys:=#[.const (.int .i32 (-1))]) [.int .i32 (-1)] (fun a w h hz=>aiS a w h hz) rfl rfl rfl rfl rfl rfl rfl (af ?_);refine gu ?_;refine GQ hg.ok RU rfl rfl rfl (af ?_);exact l3 hg 2 5 cP rfl rfl (gY q dn 0 mk 2 _ cP)

theorem H0 (Y:YP)(q:RC)(dn:Int)(mk:Bool):DQ Tryz.prog Y 157 [.lo 0 8] (fp q dn 1 mk) (.cH []) (fp q dn 0 mk):=by
 refine DQ.ej (pf:=fun _=>.ji) gK mixed Tryz.func157 rfl cX cX (by simp[Tryz.ntmps157]) (by simp[fp]) fun w S φ hg=>?_
 refine af ?_;refine kp hg.ok Tryz.underlying111 rfl cX rfl rfl rfl (af ?_);refine ai hg.ok hg.cm hg.wide hg.Y [0,1] (fp q dn 0 mk) (Eb Y q dn mk) cF rfl rfl rfl rfl rfl tL rfl tL (af ?_);exact M3 hg 2 5 cP rfl rfl (gY q dn 0 mk 2 _ cP)
end Go.Proofs.YtaagocopollacaaGreatDoor

namespace Go.Proofs.YtaagocopollacaaGreatDoor
open Go aw Go.Proofs

variable{k:Nat}
theorem nO(a b c:Int):bM (.agg [iV a,iV b,iV c]) (.d (.v (Dj (a,b,c)))):=fun S w φ v h=>by
 simp only[RV,aW]at h ⊢;obtain⟨cs,rfl,h⟩:=h
 match cs,h with
 |[x,y,z],h =>
  simp only[aW,iV]at h;rw[pA h.1,pA h.2.1,pA h.2.2.1];exact .v _
 |[],h=>simp[aW]at h
 |[_],h=>simp[aW]at h
 |[_,_],h=>simp[aW]at h
 |_::_::_::_::_,h=>simp[aW]at h
def ur (l:List (Bs × Int × Int × Int)):List (ByteArray × AV):=l.map fun p=>(Tx p.1,.d (.v (Dj p.2)))
def afF:List (Bs × Int × Int × Int):=nK.take 4
def uu (k:Nat):List (Bs × Int × Int × Int):=afF++(zb.take k).map fun s=>(s,700,699,699)
def uv (k:Nat):List (Bs × Int × Int × Int):=uu 15++(zc.take k).map fun s=>(s,500,500,499)
def xt (k:Nat):List (Bs × Int × Int × Int):=uv 2++(zd.take k).map fun s=>(s,400,400,399)

theorem p5(l:List (Bs × Int × Int × Int))(s:Bs)(h:(l.map (·.1)).contains s=false):dI (ur l) (Tx s)=none:=by
 induction l with
 |nil=>rfl
 |cons p l ih =>
  simp only[List.map_cons,PZ,DI]at h;simp only[ur,List.map_cons,dI];rw[if_neg (fun e=>by rw[Yf e]at h;simp at h)];exact ih h.2
theorem Dk:((List.range 15).all fun k=>!((uu k).map (·.1)).contains (zb.getD k []))=true∧((List.range 2).all fun k=>!((uv k).map (·.1)).contains (zc.getD k []))=true∧((List.range 3).all fun k=>!((xt k).map (·.1)).contains (zd.getD k []))=true:=by decide +kernel
theorem am9(h:k<15):dI (ur (uu k)) (Tx (zb.getD k []))=none:=p5 _ _ (by have:=fk.1 Dk.1 k l6;simpa using this)
theorem ana(h:k<2):dI (ur (uv k)) (Tx (zc.getD k []))=none:=p5 _ _ (by have:=fk.1 Dk.2.1 k l6;simpa using this)
theorem anb(h:k<3):dI (ur (xt k)) (Tx (zd.getD k []))=none:=p5 _ _ (by have:=fk.1 Dk.2.2 k l6;simpa using this)
theorem ly{l:List Bs}(h:k<l.length):l[k]? = some (l.getD k []):=by simp[List.getD,dY h]

theorem Pb(h:k<15):ur (uu k)++[(Tx (zb.getD k []),.d (.v (Dj (700,699,699))))]=ur (uu (k+1)):=by
 unfold uu;rw[I5,ly (l:=zb) h];simp[ur]

theorem Pc(h:k<2):ur (uv k)++[(Tx (zc.getD k []),.d (.v (Dj (500,500,499))))]=ur (uv (k+1)):=by
 unfold uv;rw[I5,ly (l:=zc) h];simp[ur]

theorem Pd(h:k<3):ur (xt k)++[(Tx (zd.getD k []),.d (.v (Dj (400,400,399))))]=ur (xt (k+1)):=by
 unfold xt;rw[I5,ly (l:=zd) h];simp[ur]

def F2 (q:RC)(dn lk:Int)(l:List (Bs × Int × Int × Int)):List Ob :=
 [.box [.d q.a,.d q.b,.d q.c,.ow 1 q.n,.d q.d,.d q.e,.d q.f,.d (.v (.int .u32 dn)),.d (.v (.int .i32 lk)),.d (.v (.int .u32 0)),.mp 3],.arr 1 q.n q.aa,.box [.lo 0 7],.map (eI (ur l))]

theorem U3(Y:YP)(q:RC)(dn lk:Int):aU Tryz.prog Y 116 [.lo 2 0] (fp q dn lk false++[.box [.lo 0 7]]) (.cH []) (fp q dn lk true++[.box [.lo 0 7]]):=by
 refine uw Tryz.func116 fun w S φ hg=>?_
 refine DB ?_;refine gN 9 rfl (nO 1200 1199 1199) ?_;refine jb hg.ok [] (ur (nK.take 1)) rfl rfl rfl rfl rfl rfl rfl rfl rfl rfl (af ?_);refine gN 10 rfl (nO 1100 1099 1100) ?_;refine jb hg.ok (ur (nK.take 1)) (ur (nK.take 2)) rfl rfl rfl rfl rfl rfl rfl (p5 _ _ fi) rfl rfl (af ?_);refine gN 11 rfl (nO 1050 1049 1050) ?_;refine jb hg.ok (ur (nK.take 2)) (ur (nK.take 3)) rfl rfl rfl rfl rfl rfl rfl (p5 _ _ fi) rfl rfl (af ?_);refine gN 12 rfl (nO 1000 999 1000) ?_;refine jb hg.ok (ur (nK.take 3)) (ur afF) rfl rfl rfl rfl rfl rfl rfl (p5 _ _ fi) rfl rfl (af ?_);refine uR (fun _:Unit=>([(0,.lo 2 0)],F2 q dn lk (uu 15))) (fun _=>True) rfl ?_ ?_
 ·refine bh (fun k:Nat=>([(0,.lo 2 0),(16,.d (.sl (sF zb))),(17,iV (15:Nat)),(18,iV k)],F2 q dn lk (uu k))) (fun k=>k≤15) (fun k=>15 - k) 0 fy agd rfl ?_;intro k hk;refine af ?_;refine aj (fun h=>?_) fun h=>?_
  ·have aR:k<15:=bK h rfl;refine cW (qL (ly (l:=zb) aR)) ?_;refine gN 27 rfl (nO 700 699 699) ?_;refine yb hg.ok (ur (uu k)) (ur (uu (k+1))) rfl rfl rfl rfl rfl rfl rfl (am9 aR) rfl (Pb aR) (af ?_);exact Mr
  ·have aR:15≤k:=cf h rfl;obtain rfl:k=15:=by omega
   exact VS
 rintro _ _;refine af ?_;refine uR (fun _:Unit=>([(0,.lo 2 0)],F2 q dn lk (uv 2))) (fun _=>True) rfl ?_ ?_
 ·refine bh (fun k:Nat=>([(0,.lo 2 0),(29,.d (.sl (sF zc))),(30,iV (2:Nat)),(31,iV k)],F2 q dn lk (uv k))) (fun k=>k≤2) (fun k=>2 - k) 0 fy agd rfl ?_;intro k hk;refine af ?_;refine aj (fun h=>?_) fun h=>?_
  ·have aR:k<2:=bK h rfl;refine cW (qL (ly (l:=zc) aR)) ?_;refine gN 40 rfl (nO 500 500 499) ?_;refine yb hg.ok (ur (uv k)) (ur (uv (k+1))) rfl rfl rfl rfl rfl rfl rfl (ana aR) rfl (Pc aR) (af ?_);exact Mr
  ·have aR:2≤k:=cf h rfl;obtain rfl:k=2:=by omega
   exact VS
 rintro _ _;refine af ?_;refine uR (fun _:Unit=>([(0,.lo 2 0)],F2 q dn lk (xt 3))) (fun _=>True) rfl ?_ ?_
 ·refine bh (fun k:Nat=>([(0,.lo 2 0),(42,.d (.sl (sF zd))),(43,iV (3:Nat)),(44,iV k)],F2 q dn lk (xt k))) (fun k=>k≤3) (fun k=>3 - k) 0 fy agd rfl ?_;intro k hk;refine af ?_;refine aj (fun h=>?_) fun h=>?_
  ·have aR:k<3:=bK h rfl;refine cW (qL (ly (l:=zd) aR)) ?_;refine gN 53 rfl (nO 400 400 399) ?_;refine yb hg.ok (ur (xt k)) (ur (xt (k+1))) rfl rfl rfl rfl rfl rfl rfl (anb aR) rfl (Pd aR) (af ?_);exact Mr
  ·have aR:3≤k:=cf h rfl;obtain rfl:k=3:=by omega
   exact VS
 rintro _ _;have hφ:φ.length=3:=hg.j5.len;refine x9 hg.cm 3 afE V2 rfl rfl ?_;refine bb 3 (fp q dn lk true++[.box [.lo 0 7]]) V2 rfl rfl ?_
 exact l3 hg 3 5 cP rfl rfl (by
  rw[show (List.take 3 (fp q dn lk true++[Ob.box [.lo 0 7]]))=fp q dn lk true++[Ob.box [.lo 0 7]] from rfl,List.map_append,gY q dn lk true 3 _ fi];rfl)
end Go.Proofs.YtaagocopollacaaGreatDoor

namespace Go.Proofs.YtaagocopollacaaGreatDoor
open Go aw Go.Proofs

def kM (q:RC)(dn lk:Int)(mk:Bool):List Ob:=fp q dn lk mk++[.box [.lo 0 7]]

theorem AE (q:RC)(dn lk:Int)(mk:Bool)(o:List Ob):(kM q dn lk mk).map (aQ (bQ false 3 o 5))=kM q dn lk mk:=by
 unfold kM;rw[List.map_append,gY q dn lk mk 3 _ fi];rfl

theorem yC (q:RC)(dn lk:Int)(mk:Bool)(n:Nat):(kM q dn lk mk).map (bz (rn [0,1,2] n))=kM q dn lk mk:=by
 unfold kM;rw[List.map_append,xI];rfl
theorem Dl (q:RC)(dn lk:Int)(mk:Bool)(n:Nat):(fp q dn lk mk++[Ob.box [.lo 0 7]]).map (bz (rn [0,1,2] n))=kM q dn lk mk:=yC q dn lk mk n

theorem H2 (Y:YP)(q:RC):aU Tryz.prog Y 144 [.lo 0 7,.bU 116 [] [.lo 2 0]] (kM q 0 0 false) (.cH []) (kM q 1 0 true):=by
 refine aU.aeU (pf:=fun _=>.ji) gK mixed Tryz.func144 rfl cX cX (by simp[Tryz.ntmps144]) (by simp[kM,fp]) fun w S φ hg=>?_
 refine af ?_;refine VJ ?_;refine ai hg.ok hg.cm hg.wide hg.Y [0,1] (kM q 0 1 false) (Pa Y q 0 false) cF rfl rfl rfl rfl rfl tL rfl tL ?_
 first
 |(refine gv hg.ok 1 rfl rfl ?_;refine oe hg.ok rfl hg.wide 3 rfl ?_)
 |(refine gv hg.ok 2 rfl rfl ?_;refine oe hg.ok rfl hg.wide 3 rfl ?_)
 |(refine gv hg.ok 3 rfl rfl ?_;refine oe hg.ok rfl hg.wide 3 rfl ?_)
 |(refine gv hg.ok 4 rfl rfl ?_;refine oe hg.ok rfl hg.wide 3 rfl ?_)
 refine af ?_;refine VJ ?_;refine xZ ⟨_,_,_,rfl,?_⟩;have sM:=hg.sw [(157,[.lo 0 8],[])];refine IU ?_;refine kp sM.ok Tryz.underlying113 rfl cX rfl rfl rfl ?_;refine IU ?_;refine ai sM.ok sM.cm sM.wide sM.Y [0,1] (kM q 0 1 false) (qM Y q 0 1 false) cF rfl rfl rfl rfl rfl tL rfl tL ?_;refine IU ?_;refine qY rfl rfl (fun _=>?_) (fun h=>absurd h aC)
 first
 |refine oe sM.ok rfl sM.wide 3 rfl ?_
 |(refine gv sM.ok 1 rfl rfl ?_;refine oe sM.ok rfl sM.wide 3 rfl ?_)
 |(refine gv sM.ok 2 rfl rfl ?_;refine oe sM.ok rfl sM.wide 3 rfl ?_)
 refine IU ?_;refine kp sM.ok Tryz.underlying113 rfl cX rfl rfl rfl ?_;refine IU ?_;refine xZ ⟨_,_,_,rfl,?_⟩;have hg2:=sM.sw [(158,[.lo 0 7,.tt],[]),(157,[.lo 0 8],[])];refine gv hg2.ok 1000 rfl rfl ?_;refine ai hg2.ok hg2.cm hg2.wide hg2.Y [0,1,2] (kM q 0 1 true) (U3 Y q 0 1) cF rfl rfl rfl rfl rfl (by rw[Dl q 0 1 false];rfl) rfl (by rw[Dl q 0 1 true];rfl) ?_;refine gv hg2.ok 1000 rfl rfl ?_;refine Xh ?_;refine Lv.cons hg [0,1] (objs':=kM q 1 1 true) (Ea Y q 0 1 true) cF rfl tL rfl tL ?_;refine Lv.cons hg [0,1] (objs':=kM q 1 0 true) (H0 Y q 1 true) cF rfl tL rfl tL ?_;exact Lv.nil hg 3 5 (by simp[kM,fp]) rfl rfl (AE q 1 0 true _)

def ml (q:RC)(mk:Bool):List Ob:=fp q (if mk then 1 else 0) 0 mk
theorem yD (q:RC)(mk:Bool)(n0:Nat)(o:List Ob)(hn:2≤n0):(ml q mk).map (aQ (bQ false n0 o 5))=ml q mk:=gY _ _ _ _ _ _ hn
theorem IZ (q:RC)(mk:Bool)(n:Nat)(l:List Nat):(ml q mk).map (bz (rn (0::1::l) n))=ml q mk:=xI _ _ _ _ _ _ _ _

theorem Pe (Y:YP)(q:RC)(mk:Bool):aU Tryz.prog Y 115 [.lo 0 7,.bU 116 [] [.lo 2 0]] (ml q mk++[.box [.lo 0 7]]) (.cH []) (ml q true++[.box [.lo 0 7]]):=by
 refine uw Tryz.func115 fun w S φ hg=>?_
 refine VJ ?_;cases mk with
 |false =>
  refine ai hg.ok hg.cm hg.wide hg.Y [0,1] (kM q 0 0 false) (qM Y q 0 0 false) cF rfl rfl rfl rfl rfl tL rfl tL (af ?_);refine oS ?_;refine ai hg.ok hg.cm hg.wide hg.Y [0,1,2] (kM q 1 0 true) (H2 Y q) cF rfl rfl rfl rfl rfl (by rw[yC];rfl) rfl (by rw[yC];rfl) (af ?_);exact aek
 |true =>
  refine ai hg.ok hg.cm hg.wide hg.Y [0,1] (kM q 1 0 true) (qM Y q 1 0 true) cF rfl rfl rfl rfl rfl tL rfl tL (af ?_);refine gu ?_;exact aek

theorem F3 (q:RC)(mk:Bool)(n:Nat):(ml q mk++[Ob.box [.lo 0 7]]).map (bz (rn [0,1,2] n))=ml q mk++[Ob.box [.lo 0 7]]:=by
 rw[List.map_append,IZ];rfl

def afG (x:Option (Int × Int × Int)):AV:=match x with
 |some x=>.cH [.agg [iV x.1,iV x.2.1,iV x.2.2],bV true]
 |none=>.cH [.agg [iV 0,iV 0,iV 0],bV false]

theorem U4 (x:Int × Int × Int):bM (.d (.v (Dj x))) (.agg [iV x.1,iV x.2.1,iV x.2.2]):=fun S w φ v h=>by
 rw[pA h];simp only[RV,aW,iV,Dj];exact⟨[.int .i64 x.1,.int .i64 x.2.1,.int .i64 x.2.2],rfl,.v _,.v _,.v _,trivial⟩

theorem F4 (s:Bs):dI (ur nK) (Tx s)=(Hv s).map fun x=>AV.d (.v (Dj x)):=by
 unfold Hv;generalize nK=l;induction l with
 |nil=>rfl
 |cons p l ih =>
  obtain⟨a,x⟩:=p;simp only[ur,List.map_cons,dI,List.lookup];by_cases h:s=a
  ·subst h;simp
  ·rw [if_neg (fun e=>h (Yf e).symm),show (s==a)=false by simpa using h];exact ih

theorem F5 (Y:YP)(q:RC)(mk:Bool)(s:Bs):aU Tryz.prog Y 103 [.lo 0 7,.d (.v (.string (Tx s)))] (ml q mk) (afG (Hv s)) (ml q true):=by
 refine uw Tryz.func103 fun w S φ hg=>?_
 refine ai hg.ok hg.cm hg.wide hg.Y [0,1,2] (ml q true++[.box [.lo 0 7],.box [iV 0,iV 0,iV 0]]) (Pe Y q mk) cF rfl rfl rfl rfl rfl (by rw[F3];rfl) rfl (by rw[F3];rfl) (af ?_);have hk:∀o:List Ob,(ml q true).map (aQ (bQ false 2 o 5))=ml q true:=fun o=>yD _ _ _ _ cP
 cases hx:Hv s with
 |none =>
  refine C1 hg.ok (ur nK) rfl rfl rfl rfl rfl rfl rfl (zv:=.agg #[.int .i64 0,.int .i64 0,.int .i64 0]) cX (v:=.cH [.agg [iV 0,iV 0,iV 0],bV false]) (by rw[F4,hx];rfl) (af ?_);exact aK hg 2 5 cP rfl rfl (hk _)
 |some x =>
  refine C1 hg.ok (ur nK) rfl rfl rfl rfl rfl rfl rfl (zv:=.agg #[.int .i64 0,.int .i64 0,.int .i64 0]) cX (v:=.cH [.d (.v (Dj x)),bV true]) (by rw[F4,hx];rfl) ?_
  refine gN 19 rfl (v':=.cH [.agg [iV x.1,iV x.2.1,iV x.2.2],bV true]) (fun S w φ v h=>by
   simp only[RV]at h ⊢;obtain⟨vs,rfl,h⟩:=h;refine⟨vs,rfl,?_⟩
   match vs,h with
   |[a,b],h =>
    simp only[aW]at h ⊢;exact⟨U4 x _ _ _ _ (by simp only[RV];exact h.1),h.2⟩
   |[],h=>simp[aW]at h
   |[_],h=>simp[aW]at h
   |_::_::_::_,h=>simp[aW]at h) ?_
  refine af ?_;exact aK hg 2 5 cP rfl rfl (hk _)
end Go.Proofs.YtaagocopollacaaGreatDoor

namespace Go.Proofs.YtaagocopollacaaGreatDoor
open Go aw Go.Proofs
variable{f:Nat}{r:AV}
abbrev aiT:=Nat × Func × (Nat→cC) × (Nat→List Gh) × Nat × Bool × (Nat→Nat→Bool)

noncomputable def exT:List aiT→Nat→Option XF
 |[],_=>none
 |(i,fn,pf,gh,v,df,ow)::r,f=>bif Nat.beq i f then some ⟨fn,fn.body.getD .skip,pf,gh,v,df,ow⟩ else exT r f
def eR:Nat→List Gh:=fun _=>[]
def fQ:Nat→cC:=fun _=>.ji
def Z5:Nat→cC:=fun f=>bif Nat.beq f 4000200008 then .bO 101 else bif Nat.beq f 4000300035 then .look 102 else bif Nat.beq f 4000300039 then .look 102 else .ji
def ac9:Nat→cC:=fun f=>bif Nat.beq f 4000200002 then .bO 101 else bif Nat.beq f 4000100192 then .look 102 else .ji
def ada:Nat→cC:=fun f=>bif Nat.beq f 4000100060 then .look 104 else bif Nat.beq f 4000200005 then .bO 103 else .ji
def aiU:Nat→cC:=fun f=>bif Nat.beq f 113 then .bO 3 else bif Nat.beq f 41 then .bO 3 else bif Nat.beq f 4000100067 then .look 4 else bif Nat.beq f 4000100092 then .look 4 else .ji
def ane:Nat→List Gh:=fun i=>bif Nat.beq i 9 then [.own 8 3 1] else bif Nat.beq i 17 then [.frz 8 3] else []
def eJ:Nat→Nat→Bool:=fun _ _=>false
def aiV:Nat→cC:=fun f=>bif Nat.beq f 4000100004 then .look 4 else bif Nat.beq f 44 then .bO 3 else .ji
def aiW:Nat→Nat→Bool:=fun id f=>Nat.beq f 68 || (Nat.beq id 8&&Nat.beq f 44)
def aiX:Nat→cC:=fun f=>bif Nat.beq f 4800100000 then .bO 100 else bif Nat.beq f 4000000005 then .bO 0 else .ji
def aiY:Nat→cC:=fun f=>bif Nat.beq f 4000200004 then .bO 101 else bif Nat.beq f 4000100081 then .look 102 else .ji
def adb:Nat→List Gh:=fun i=>bif Nat.beq i 19 then [.frz 8 0] else []

noncomputable def Z6:List aiT :=
  [(39,Tryz.f39,fQ,eR,10,false,eJ),
 (63,Tryz.f63,fQ,eR,1,false,eJ),
 (64,Tryz.f64,ac9,eR,17,false,eJ),
 (85,Tryz.f85,fQ,eR,3,false,eJ),
 (86,Tryz.f86,fQ,eR,7,false,eJ),
 (88,Tryz.f88,fQ,eR,3,false,eJ),
 (89,Tryz.f89,fQ,eR,3,false,eJ),
 (90,Tryz.f90,fQ,eR,3,false,eJ),
 (91,Tryz.f91,Z5,eR,11,false,eJ),
 (92,Tryz.f92,fQ,eR,3,false,eJ),
 (95,Tryz.f95,fQ,eR,10,false,eJ),
 (96,Tryz.f96,fQ,eR,3,false,eJ),
 (18,Tryz.f18,fQ,ane,12,false,eJ),
 (40,Tryz.f40,fQ,eR,3,false,eJ),
 (41,Tryz.f41,ada,eR,11,false,eJ),
 (42,Tryz.f42,fQ,eR,3,false,eJ),
 (43,Tryz.f43,fQ,eR,2,false,eJ),
 (65,Tryz.f65,fQ,eR,8,true,eJ),
 (97,Tryz.f97,fQ,eR,1,false,eJ),
 (66,Tryz.f66,fQ,eR,5,false,eJ),
 (100,Tryz.f100,fQ,eR,6,false,eJ),
 (101,Tryz.f101,fQ,eR,2,false,eJ),
 (98,Tryz.f98,fQ,eR,13,false,eJ),
 (99,Tryz.f99,aiU,eR,11,false,eJ),
 (113,Tryz.f113,fQ,eR,6,false,eJ),
 (112,Tryz.f112,fQ,eR,4,false,eJ),
 (9,Tryz.f9,fQ,adb,29,false,eJ),
 (10,Tryz.f10,aiY,eR,68,false,eJ),
 (23,Tryz.f23,fQ,eR,8,false,eJ),
 (20,Tryz.f20,fQ,eR,6,false,eJ),
 (44,Tryz.f44,aiV,eR,24,false,aiW),
 (68,Tryz.f68,aiX,eR,5,false,eJ),
 (67,Tryz.f67,fQ,eR,2,false,eJ),
 (19,Tryz.f19,fQ,eR,3,false,eJ),
 (21,Tryz.f21,fQ,eR,3,false,eJ),
 (45,Tryz.f45,fQ,eR,34,false,eJ),
 (46,Tryz.f46,fQ,eR,19,false,eJ),
 (72,Tryz.f72,fQ,eR,1,false,eJ)]

theorem Z7{P:Program}:∀ (l:List aiT),(∀x∈l,P.funcs[x.1]? = some x.2.1)→(l.all fun x=>x.2.1.body.isSome&&(!(x.2.1.name == "runtime.NumGoroutine")&&fB x.2.2.1 (x.2.1.body.getD .skip)))=true→RT P (exT l)
 |[],_,_,f,x,h=>by cases h
 |(i,fn,pf,gh,v,df,ow)::r,h1,h2,f,x,h=>by
  simp only[rE,aV,xM]at h2;simp only[exT]at h;cases hb:Nat.beq i f
  ·rw [hb] at h;exact Z7 r (fun x hx=>h1 x (Sw _ hx)) h2.2 f x h
  ·rw [hb] at h;obtain rfl:=cp hb;cases h;refine⟨h1 _ (Wb ..),?_,h2.1.2.1,h2.1.2.2⟩;obtain⟨c,hc⟩:=aa9.1 h2.1.1;rw[show fn.body=some c from hc];rfl

theorem Z8:RT Tryz.prog (exT Z6):=Z7 _ (by
 unfold Z6;intro x hx
 repeat (rcases eL.1 hx with rfl |hx;first |exact Tryz.func39 |exact Tryz.func63 |exact Tryz.func64 |exact Tryz.func85 |exact Tryz.func86 |exact Tryz.func88 |exact Tryz.func89 |exact Tryz.func90 |exact Tryz.func91 |exact Tryz.func92 |exact Tryz.func95 |exact Tryz.func96 |exact Tryz.func18 |exact Tryz.func40 |exact Tryz.func41 |exact Tryz.func42 |exact Tryz.func43 |exact Tryz.func65 |exact Tryz.func97 |exact Tryz.func66 |exact Tryz.func100 |exact Tryz.func101 |exact Tryz.func98 |exact Tryz.func99 |exact Tryz.func113 |exact Tryz.func112 |exact Tryz.func9 |exact Tryz.func10 |exact Tryz.func23 |exact Tryz.func20 |exact Tryz.func44 |exact Tryz.func68 |exact Tryz.func67 |exact Tryz.func19 |exact Tryz.func21 |exact Tryz.func45 |exact Tryz.func46 |exact Tryz.func72)
 cases hx) cX
theorem apS(s:ByteArray):Tx s.data.toList=s:=rfl

def L8:List (Value × D)→List (Bs × Int × Int × Int)→Bool
 |[],[]=>true
 |(.string s,.v (.agg a))::r,(t,x)::q=>zR s.data.toList t&&((match a.toList with |[.int .i64 i,.int .i64 j,.int .i64 k]=>i==x.1&&(j==x.2.1&&k==x.2.2) |_=>false)&&L8 r q)
 |_,_=>false

theorem L9:∀ {es:List (Value × D)} {l:List (Bs × Int × Int × Int)},L8 es l=true→es=l.map fun p=>(.string (Tx p.1),.v (Dj p.2))
 |[],[],_=>rfl
 |(.string s,.v (.agg a))::r,(t,x)::q,h=>by
  simp only[L8,aV]at h;obtain⟨h1,h2,h3⟩:=h;rw[List.map_cons,← L9 h3];split at h2
  ·rename_i i j k ha;simp only[aV,beq_iff_eq]at h2;have h1:=Dc.1 h1;have:a=#[.int .i64 i,.int .i64 j,.int .i64 k]:=by rw[← Array.toList_inj];exact ha
   rw[← h1,this,h2.1,h2.2.1,h2.2.2];rfl
  ·cases h2

def RW:Int→D→Option Bool
 | .ofNat 0,.v (.map none)=>some false
 | .ofNat 1,.map es=>bif L8 es nK then some true else none
 |_,_=>none

theorem Ma{n:Int}{x:D}{mk:Bool}(h:RW n x=some mk):n=(if mk then 1 else 0)∧AV.d x=xr mk:=by
 unfold RW at h;split at h
 ·cases h;exact⟨rfl,rfl⟩
 ·rename_i es;cases hb:L8 es nK
  ·rw[hb]at h;cases h
  ·rw [hb] at h; cases h;exact⟨rfl,by rw[L9 hb];rfl⟩
 ·cases h
def Mm:D→List (List D) | .sl r=>r |_=>[]
def dIn:D→Int | .v (.int _ n)=>n |_=>0
def dSt:D→ByteArray | .v (.string s)=>s |_=>ByteArray.empty

def dTs:Nat→List (List D)→List Tm
 |0,_=>[]
 |n+1,l=>l.map fun r=>match r with |[a,b,c,d]=>.mk (dIn a) (dSt b) (dIn c) (dTs n (Mm d)) |_=>.mk 0 ByteArray.empty 0 []
def dT (a b c d:D):Tm:=.mk (dIn a) (dSt b) (dIn c) (dTs 30 (Mm d))

def dGs:Nat→List (List D)→List Gl
 |0,_=>[]
 |n+1,l=>l.map fun r=>match r with |[k,a,b,c,d,x,y,z]=>.mk (dIn k) (dT a b c d) (dGs n (Mm x)) (dGs n (Mm y)) (dGs n (Mm z)) |_=>.mk 0 (.mk 0 ByteArray.empty 0 []) [] [] []
def dCs (l:List (List D)):List Cs:=l.map fun r=>match r with |[a,b,c,d,g,v]=>⟨dT a b c d,dGs 12 (Mm g),dIn v⟩ |_=>⟨.mk 0 ByteArray.empty 0 [],[],0⟩

def Dp (c:Bool)(args ar:List AV)(r:AV):Option (AV × List Ob):=bif kZ args&&(DS args ar&&c) then some (r,[]) else none

theorem yE{P:Program}{Y:YP}{c:Bool}{args ar:List AV}{r s:AV}{o:List Ob}(h:Dp c args ar r=some (s,o))(hc:c=true→bD P f ar r)(hr:mq r=true):aU P Y f args [] s o:=by
 unfold Dp at h;cases hb:kZ args&&(DS args ar&&c)
 ·rw[hb]at h;cases h
 ·rw [hb] at h; cases h;simp only[aV]at hb;exact((hc hb.2.2).le hb.2.1).toS hb.1 hr

theorem Z9(Y:YP)(a d e:D)(ts:List (List D))(c n:Nat)(aa:List (List D))(mk:Bool){s:ByteArray}{k i j:Int}{b:Bool}(hr:ts[c]? = some [.v (.int .i64 k),.v (.string s),.v (.int .i64 i),.v (.int .i64 j),.v (.bool b)]) :
  aU Tryz.prog Y 42 [.lo 0 0] (ml ⟨a,.sl ts,.v (.int .i64 c),d,e,.v (.int .i64 0),n,aa⟩ mk) (.agg [.d (.v (.int .i64 k)),.d (.v (.string s)),.d (.v (.int .i64 i)),.d (.v (.int .i64 j)),.d (.v (.bool b))]) (ml ⟨a,.sl ts,.v (.int .i64 c),d,e,.v (.int .i64 0),n,aa⟩ mk):=by
 refine Ph Tryz.func42 fun w S φ hg=>?_
 have hl:=(bC.1 hr).1;refine af ?_;refine gu ?_;refine Ei ?_;refine cW (hr) ?_;exact aK hg 2 5 cP rfl rfl (yD _ _ _ _ cP)

theorem Pf(Y:YP)(a d e:D)(ts:List (List D))(c n:Nat)(aa:List (List D))(mk:Bool){s:ByteArray}{i j:Int}{b:Bool}(hr:ts[c]? = some [.v (.int .i64 1),.v (.string s),.v (.int .i64 i),.v (.int .i64 j),.v (.bool b)]) :
  aU Tryz.prog Y 114 [.lo 0 0] (ml ⟨a,.sl ts,.v (.int .i64 c),d,e,.v (.int .i64 0),n,aa⟩ mk) (bV (Hv s.data.toList).isNone) (ml ⟨a,.sl ts,.v (.int .i64 c),d,e,.v (.int .i64 0),n,aa⟩ true):=by
 have hP:=Z9 Y a d e ts c n aa mk hr;have hI:=F5 Y ⟨a,.sl ts,.v (.int .i64 c),d,e,.v (.int .i64 0),n,aa⟩ mk s.data.toList;rw[apS]at hI;generalize RC.mk a (.sl ts) (.v (.int .i64 c)) d e (.v (.int .i64 0)) n aa=q at hP hI;refine aU.ej (pf:=fun f=>bif Nat.beq f 4900100009 then .bO 100 else .ji) gK mixed Tryz.func114 rfl cX cX (by simp[Tryz.ntmps114]) (by simp[ml,fp]) fun w S φ hg=>?_
 have hk:∀ (o:List Ob),(ml q true).map (aQ (bQ false 2 o 5))=ml q true:=fun o=>yD _ _ _ _ cP
 refine af ?_;refine ai hg.ok hg.cm hg.wide hg.Y [0,1] (ml q mk) hP cF rfl rfl rfl rfl rfl Sj rfl Sj (af ?_);refine gu ?_;refine gu ?_;refine gu ?_;refine oS ?_;refine abJ hg.ok 5 9 cX cX ?_ ?_
 ·refine af ?_;refine ai hg.ok hg.cm hg.wide hg.Y [0,1] (ml q true++[.box [.d (.v (.int .i64 1)),.d (.v (.string s)),.d (.v (.int .i64 i)),.d (.v (.int .i64 j)),.d (.v (.bool b))]]) hI cF rfl rfl rfl rfl rfl Sj rfl Sj ?_;cases Hv s.data.toList with
  |none=>refine er hg.ok rfl rfl ?_;exact aK hg 2 5 cP rfl rfl (hk _)
  |some x=>refine er hg.ok rfl rfl ?_;exact aK hg 2 5 cP rfl rfl (hk _)
 ·refine af ?_;refine ai hg.ok hg.cm hg.wide hg.Y [0,1] (ml q true++[.box [.d (.v (.int .i64 1)),.d (.v (.string s)),.d (.v (.int .i64 i)),.d (.v (.int .i64 j)),.d (.v (.bool b))],.box [iV 0,iV 0,iV 0]]) hI cF rfl rfl rfl rfl rfl Sj rfl Sj ?_;cases Hv s.data.toList with
  |none=>refine er hg.ok rfl rfl ?_;exact aK hg 2 5 cP rfl rfl (hk _)
  |some x=>refine er hg.ok rfl rfl ?_;exact aK hg 2 5 cP rfl rfl (hk _)

noncomputable def Pg (f:Nat) (args:List AV) (objs:List Ob):Option (AV × List Ob) :=
 bif Nat.beq f 103 then
  match args,objs with
  |[.lo 0 7,.d (.v (.string s))],[.box [.d a,.d b,.d c,.ow 1 n,.d d,.d e,.d g,.d (.v (.int .u32 dn)),.d (.v (.int .i32 (.ofNat 0))),.d (.v (.int .u32 (.ofNat 0))),.d tb],.arr 1 m aa] =>
   bif Nat.beq n m then (match RW dn tb with |some _=>some (afG (Hv s.data.toList),ml ⟨a,b,c,d,e,g,n,aa⟩ true) |none=>none) else none
  |_,_=>none
 else bif Nat.beq f 114 then
  match args,objs with
  |[.lo 0 0],[.box [.d a,.d (.sl ts),.d (.v (.int .i64 (.ofNat c))),.ow 1 n,.d d,.d e,.d (.v (.int .i64 (.ofNat 0))),.d (.v (.int .u32 dn)),.d (.v (.int .i32 (.ofNat 0))),.d (.v (.int .u32 (.ofNat 0))),.d tb],.arr 1 m aa] =>
   bif Nat.beq n m then (match sC ts c with
    |some [.v (.int .i64 (.ofNat 1)),.v (.string s),.v (.int .i64 _),.v (.int .i64 _),.v (.bool _)]=>(match RW dn tb with |some _=>some (bV (Hv s.data.toList).isNone,ml ⟨a,.sl ts,.v (.int .i64 (.ofNat c)),d,e,.v (.int .i64 (.ofNat 0)),n,aa⟩ true) |none=>none)
    |_=>none) else none
  |_,_=>none
 else match objs with
 |[]=>(match args with
  |[.agg [.d a,.d b,.d c,.d d]]=>bif Nat.beq f 25 then Dp (decide ((dT a b c d).size<1000000000)&&((dT a b c d).gV 1).all fun e=>decide (e.2.s.size<1000000000)) args [(dT a b c d).av] (bV (dT a b c d).bS) else none
  |[.agg [.d r]]=>bif Nat.beq f 22 then Dp (TU (dCs (Mm r))) args [Dx (dCs (Mm r))] (.cH [iV (jV (dCs (Mm r))).1,iV (jV (dCs (Mm r))).2]) else none
  |[.d g,.agg [.d r]]=>bif Nat.beq f 24 then Dp (decide (Gl.ay (dGs 12 (Mm g))≤1000000)&&decide ((dCs (Mm r)).length≤1000000)) args [.d (.sl (Gl.aa (dGs 12 (Mm g)))),Dx (dCs (Mm r))] (bV (cR (pP (dCs (Mm r))) (dGs 12 (Mm g)))) else none
  |_=>none)
 |_=>none

theorem U5{Y:YP}{args:List AV}{objs o1:List Ob}(h:Pg f args objs=some (r,o1)):aU Tryz.prog Y f args objs r o1:=by
 unfold Pg at h;cases hb:Nat.beq f 103
 ·rw [hb] at h;simp only[cond_false]at h;cases hb:Nat.beq f 114
  ·rw [hb] at h;simp only[cond_false]at h;split at h
   case h_2=>cases h
   split at h
   ·rename_i a b c d;cases hb:Nat.beq f 25
    ·rw[hb]at h;cases h
    rw[hb]at h;obtain rfl:=cp hb;refine yE h (fun hc=>?_) rfl;simp only[aV,decide_eq_true_eq,fk]at hc;rw[← cN];exact eY _ hc.1 fun e he=>hc.2 e he
   ·rename_i r;cases hb:Nat.beq f 22
    ·rw[hb]at h;cases h
    rw[hb]at h;obtain rfl:=cp hb;exact yE h (fun hc=>LQ _ (Q8 hc).1) rfl
   ·rename_i g r;cases hb:Nat.beq f 24
    ·rw[hb]at h;cases h
    rw[hb]at h;obtain rfl:=cp hb;refine yE h (fun hc=>?_) rfl;simp only[aV,decide_eq_true_eq]at hc;exact FX _ _ hc.1 hc.2
   ·cases h
  ·rw [hb] at h;simp only[cond_true]at h;obtain rfl:=cp hb;split at h<;>try (cases h;done)
   rename_i a ts c n d e dn tb m aa;cases hn:Nat.beq n m
   ·rw[hn]at h;cases h
   ·rw [hn] at h;obtain rfl:=cp hn;simp only[cond_true,fR,bu]at h;split at h<;>try (cases h;done)
    rename_i hr;split at h<;>try (cases h;done)
    rename_i mk hm;obtain⟨rfl,h2⟩:=Ma hm;rw[h2];cases h;exact Pf Y _ _ _ _ _ _ _ mk hr
 ·rw [hb] at h;simp only[cond_true]at h;obtain rfl:=cp hb;split at h<;>try (cases h;done)
  rename_i s a b c n d e g dn tb m aa;cases hn:Nat.beq n m
  ·rw[hn]at h;cases h
  ·rw [hn] at h;obtain rfl:=cp hn;simp only[cond_true]at h;split at h<;>try (cases h;done)
   rename_i mk hm;obtain⟨rfl,h2⟩:=Ma hm;rw[h2];cases h;exact F5 Y ⟨a,b,c,d,e,g,n,aa⟩ mk s.data.toList

noncomputable def afH (f:Nat) (ar:List AV) (r:AV):Bool:=kZ ar&&match exF tyT.get 69 (exT Z6) Pg 100 false f ar []with
 | .ok (s,[])=>(match iB [] 30 s with |some y=>Iv y r |none=>false)
 |_=>false

theorem aaa{ar:List AV}(h:afH f ar r=true):bD Tryz.prog f ar r:=by
 simp only[afH,aV]at h;obtain⟨hp,h⟩:=h;split at h
 ·rename_i s hs;split at h
  ·rename_i y hy;exact(aU.toP (aiP (Y:=⟨[],fun _=>true⟩) gK mixed Aj Z8 (fun _ _ _ _ _ h=>U5 h) 100 _ _ _ _ _ _ hs) hp hy).res h
  ·cases h
 ·cases h
end Go.Proofs.YtaagocopollacaaGreatDoor

namespace Go.Proofs.YtaagocopollacaaGreatDoor
open Go aw Go.Proofs

theorem U6 (l:List Cs)(q:Cs):bD Tryz.prog 6 [Dx l,q.av,iV (-1)] (.cH [.d (.sl []),iV 1]):=by
 refine afI Tryz.func6 fun w S hg=>?_
 refine oX ?_;refine cq ?_;rfl

theorem xu {l:List Cs}{q:Cs}(hq:TR q)(hl:∀c∈l,TR c)(aZ:l.length≤1000000)(ZE:pQ q l=false){ab:Nat}(zP:ab≤300):bD Tryz.prog 6 [Dx l,q.av,iV ab] (.cH [.d (.sl []),iV 1]):=by
 refine afI Tryz.func6 fun w S hg=>?_
 refine II ?_;refine II ?_;have hmf:=w9 q l hq hl aZ;rw[ZE]at hmf;refine aF (hmf) ?_;refine oX ?_;refine cq ?_;rfl
def apT:Bs:=[112,40,97,41,46,32,112,40,98,41,46,32,99,40,88,41,32,58,45,32,112,40,88,41,44,32,33,46,32,110,32,58,45,32,92,43,32,112,40,99,41,44,32,119,114,105,116,101,40,120,41,46]
def apU:Bs:=[112,40,88,41,46]
def apV:Bs:=[99,40,88,41,44,32,110,46]
def xv:List Cs:=[⟨On [112] [On [97] []],[],0⟩,⟨On [112] [On [98] []],[],0⟩,⟨On [99] [Tm.vT 0],[.mk 1 (On [112] [Tm.vT 0]) [] [] [],.mk 3 aJ [] [] []],1⟩,⟨On [110] [],[.mk 5 aJ [.mk 1 (On [112] [On [99] []]) [] [] []] [] [],.mk 2 (On [119,114,105,116,101] [On [120] []]) [] [] []],0⟩]
def Dq:aix:=(On [112] [Tm.vT 0],[[88]])
def F6:aix:=(On [44] [On [99] [Tm.vT 0],On [110] []],[[88]])
theorem aab:bD Tryz.prog 9 [TI apT] (.cH [Dx xv,iV 0,iV 0]):=aaa cX
theorem aac:Med (xv++[C0 Dq]):=(yA (l:=xv) (q:=C0 Dq) cX).1
theorem aad:Med (xv++[C0 F6]):=(yA (l:=xv) (q:=C0 F6) cX).1
theorem RX:∀c∈xv,sA c:=fun c hc=>C7 (fk.1 (show (xv.all ZM)=true by kernel_rfl) c hc)
theorem aae:bD Tryz.prog 10 [TI apU,Dx xv] (.cH [(C0 Dq).av,.d (.sl (tq Dq.2)),iV 0,iV 0]):=aaa cX
theorem aaf:bD Tryz.prog 10 [TI apV,Dx xv] (.cH [(C0 F6).av,.d (.sl (tq F6.2)),iV 0,iV 0]):=aaa cX
def anf:List Ev:=[nI [gG (Tx [97])],nI [gG (Tx [98])],r8]
def ang:List Ev:=[r9 [120],nI [gG (Tx [97])],r8]
theorem aag:HT xv (C0 Dq) 10=some anf:=by kernel_rfl
theorem aah:HT xv (C0 F6) 10=some ang:=by kernel_rfl

theorem qN {l:List Cs}{q:Cs}(hm:Med (l++[q]))(hl:∀c∈l,sA c)(hf:sA q)(h:pQ q l=true){ab:Nat}(zP:ab≤90){s:List Ev}(hs:UQ l q ab s):bD Tryz.prog 6 [Dx l,q.av,iV ab] (.cH [.d (.sl (s.map Ev.row)),iV 0]):=by
 have hq:=wM h;have hd:=Rw hf h;have hsz:=hm.size;have mn:=Cs.ct (l:=l++[q]) (c:=q) aC;have hP:=afz hl hq.prog;exact UO (hm.sm q aC) (fun c hc=>hm.sm c (by simp[hc])) hP ⟨hd.1,hd.2⟩ h hq.aml (by have:=(hm.sm q aC).size;have:=Gl.pJ q.body;omega) an (ac0 hf h zP) hs.ends hs.len

theorem aai:bD Tryz.prog 6 [Dx xv,(C0 Dq).av,iV 10] (.cH [.d (.sl (anf.map Ev.row)),iV 0]) :=
 qN aac RX (C7 cX) cX (ab:=10) an ⟨FZ aag,by decide⟩

theorem aaj:bD Tryz.prog 6 [Dx xv,(C0 F6).av,iV 10] (.cH [.d (.sl (ang.map Ev.row)),iV 0]) :=
 qN aad RX (C7 cX) cX (ab:=10) an ⟨FZ aah,by decide⟩

theorem nP:bD Tryz.prog 5 [] (bV true):=by
 refine zp Tryz.func5 fun w S hg=>?_
 refine aF (aab) ?_;refine aF (aae) ?_;refine aF (aaf) ?_;refine aF (aai) ?_;refine aF (aaj) ?_;refine aF (U6 xv (C0 Dq)) ?_
 repeat
  first
  |(refine qY rfl rfl (fun h=>absurd h (by decide +kernel)) (fun _=>?_);refine er hg.ok rfl rfl ?_)
  |(refine qY rfl rfl (fun _=>?_) (fun h=>absurd h (by decide +kernel));refine er hg.ok rfl rfl ?_)
  |(refine dN hg.ok rfl rfl rfl rfl rfl rfl fi rfl rfl ?_;refine er hg.ok rfl rfl ?_)
 refine cq ?_;rfl
end Go.Proofs.YtaagocopollacaaGreatDoor

namespace aw
open Go Tm

theorem ai1 (g:Gl):g.Ok→su D9 g:=by
 induction g using Gl.ind with
 |_ g ha hb hc =>
 intro h;have key:∀l:List Gl,(∀x∈l,x.Ok→su D9 x)→(∀x∈l,x.Ok)→eC D9 l:=fun l h1 h2=>yy.2 fun x hx=>h1 x hx (h2 x hx)
 rw[Ap];cases h with
 |mk hk ht a1 b1 c1 a2 b2 c2=>exact⟨ht.2,key _ ha a2,key _ hb b2,key _ hc c2⟩
theorem aak {c:Cs}(h:c.Ok):sA c:=⟨h.head.2,yy.2 fun x hx=>ai1 x (h.body x hx)⟩
end aw

namespace Go.Proofs.YtaagocopollacaaGreatDoor
open Go aw Go.Proofs

theorem H3 (l:List Cs)(q:Cs)(dw:∀c∈l,c.Ok)(hq:q.Ok)(hb:l.length * 88≤140737488351232)(Bp:∀c∈l,sA c)(hfq:sA q)(a b:Nat)(ha:a<256)(zF:b<256):bD Tryz.prog 3 [Dx l,q.av,.d (.v (.int .u8 a)),.d (.v (.int .u8 b))] (bV true):=by
 refine zp Tryz.func3 fun w S hg=>?_
 refine aF (HP l q dw hq hb) ?_;refine aj (fun h1=>?_) fun h1=>?_
 ·refine aF (nP) ?_;refine cq ?_;rfl
 have h1:C4 l q=true:=by simpa using h1
 obtain⟨hm,atk⟩:=yA h1;refine aj (fun h2=>?_) fun h2=>?_
 ·refine aF (nP) ?_;refine cq ?_;rfl
 have h2:a≤40:=by have:=of_decide_eq_false h2;omega
 refine aj (fun h3=>?_) fun h3=>?_
 ·refine aF (nP) ?_;refine cq ?_;rfl
 have h3:b≤40:=by have:=of_decide_eq_false h3;omega
 refine gN 32 rfl (bM.wrap (n:=(a:Int)) rfl an an) ?_;have hsm:=fun c hc=>hm.sm c (agq [q] hc)
 have hsq:=hm.sm q aC;cases hf:pQ q l with
 |false =>
  refine aF (xu hsq hsm an hf (ab:=a) an) ?_;refine adz ?_;refine aF (xu hsq hsm an hf (ab:=a+b) an) ?_;refine oX ?_;refine aF (nP) ?_;refine cq ?_;rfl
 |true =>
  obtain⟨s1,Vw⟩:=Rx Bp hfq hf (ab:=a) an;obtain⟨s2,mn⟩:=Rx Bp hfq hf (ab:=a+b) an;have apW:=US an Vw mn;have hsz:=OY Bp hfq hf an Vw;obtain⟨X,e,hX,hX1,hX2⟩:=UR Vw;refine aF (qN hm Bp hfq hf (ab:=a) an Vw) ?_;refine adz ?_;refine aF (qN hm Bp hfq hf (ab:=a+b) an mn) ?_;refine gu ?_;have aZ:s1.length=X.length+1:=by rw[hX];simp
  have Gt:=Vw.len;have kQ:(s1.map Ev.row).length=s1.length:=eS _;refine bh (fun k:Nat=>([(9,.d (.sl (s1.map Ev.row))),(11,.d (.sl (s2.map Ev.row))),(12,iV 0),(13,iV k)],[Ob.box [.d (.sl (Cs.aa l))],OK q])) (fun k=>k≤s1.length) (fun k=>s1.length - k) 0 fy Mx rfl ?_;intro k hk;refine af ?_;refine aj (fun h=>?_) fun h=>?_
  ·have aR:k<s1.length:=bK h (by rw [kQ]);have hw:IntKind.i64.wrap (((s1.map Ev.row).length:Int) - 1)=(X.length:Int):=by rw[kQ];exact(sK an an).trans an
   obtain⟨x,e1⟩:∃x,s1[k]? = some x:=⟨_,dY aR⟩;by_cases hkX:k<X.length
   ·have hx:wV x:=hX1 x (by
     rw[hX,jx hkX]at e1;exact gZ e1)
    have eo:((k:Int)==(X.length:Int))=false:=by simp;omega
    rcases hx with hk3 |hk3
    all_goals
     refine cW (fq e1) ?_;refine IS ?_;refine cW (fq e1) ?_;refine IS ?_;refine cW (fq e1) ?_;refine en hg.ok rfl rfl (by rw[hw,eo,hk3];decide) rfl rfl ?_;exact Mr
   ·have hke:k=X.length:=by omega
    have QF:x=e:=by
     rw[hX,hke,kR cP,Nat.sub_self]at e1;simpa using e1.symm
    have hye:((k:Int)==(X.length:Int))=true:=by rw[hke];simp
    rw[← QF]at hX2;rcases hX2 with hk3 |hk3 |hk3
    ·refine cW (fq e1) ?_;refine IS ?_;refine cW (fq e1) ?_;refine IS ?_;refine cW (fq e1) ?_;refine en hg.ok rfl rfl (by rw[hw,hye,hk3];decide) rfl rfl ?_;exact Mr
    ·refine cW (fq e1) ?_;refine cQ hg.ok rfl rfl (by simp[hk3]) rfl rfl ?_;refine en hg.ok rfl rfl (by rw[hw,hye];decide) rfl rfl ?_;exact Mr
    ·refine cW (fq e1) ?_;refine IS ?_;refine cW (fq e1) ?_;refine cQ hg.ok rfl rfl (by simp[hk3]) rfl rfl ?_;refine en hg.ok rfl rfl (by rw[hw,hye];decide) rfl rfl ?_;exact Mr
  ·have eo:s1≠[]:=by rw [hX]; simp
   refine oX ?_;refine aF (LU s1 s2 eo hsz Vw.len mn.len apW) ?_;refine oX ?_;refine aF (nP) ?_;refine oX ?_;refine cq ?_;rfl

theorem Ec (l:List Cs)(q:Cs)(dw:∀c∈l,c.Ok)(hq:q.Ok)(hb:l.length * 88≤140737488351232)(a b:Int)(ha:0≤a∧a<256)(zF:0≤b∧b<256):bD Tryz.prog 3 [Dx l,q.av,.d (.v (.int .u8 a)),.d (.v (.int .u8 b))] (bV true):=by
 have h:=H3 l q dw hq hb (fun c hc=>aak (dw c hc)) (aak hq) a.toNat b.toNat an an;rw[show ((a.toNat:Nat):Int)=a by omega,show ((b.toNat:Nat):Int)=b by omega]at h;exact h
end Go.Proofs.YtaagocopollacaaGreatDoor

namespace aw
open Go
section
variable {ty:Nat→Option Ty} {T TT TG TS B:Nat} {n:Nat} {τ:Ty} {row:List D} {a:AV}

theorem U7 {TC TP s:Nat}{τs τc:Ty}(hT:rP ty TT)(hG:uZ ty TG TT)(hC:pK ty TC TT TG)(hB:B≤140737488355328)(hτ:ty TP=some τ)(eE:τ.sh=.struct [(0,s)])(hs:ty s=some τs)(Qb:τs.sh=.slice TC)(hc:ty TC=some τc)(h:cV ty B n TP row)(ha:a=uT τ row):∃l:List Cs,a=Dx l∧(∀x∈l,x.Ok)∧l.length≤140737488355328∧l.length * τc.bytes≤B:=by
 obtain⟨l,h1,h2,h3⟩:=XO hT hG hC hB hτ eE hs Qb h ha;refine⟨l,h1,h2,h3,?_⟩;cases n with
 |zero=>simp[cV]at h
 |succ n =>
  simp only[cV,hτ,eE,wz]at h;obtain⟨_,ra,_,g1,rfl,g2,g3,rfl⟩:=h;rw[hs]at g1;cases g1;cases n with
  |zero=>simp[cV]at g3
  |succ n =>
   obtain⟨aa,rfl,aZ,_⟩:=ta hs Qb g3;have hb:=aZ τc hc;have e:a=.agg [.d (.sl aa)]:=by rw[ha];unfold uT Ty.agg;rw[eE];rfl
   rw[h1]at e;unfold Dx at e;simp only[AV.agg.injEq,List.cons.injEq,AV.d.injEq,D.sl.injEq,and_true]at e;rw[← e,Cs.kE]at hb;exact hb
end
end aw
