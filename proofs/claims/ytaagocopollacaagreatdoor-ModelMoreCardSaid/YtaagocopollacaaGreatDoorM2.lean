import Derived.Test.YtaagocopollacaaGreatDoorM1
import Derived.Test.YtaagocopollacaaGreatDoorRows
import Derived.ProofKit
import Derived.Handed
import Derived.HandedShaped
import Derived.Shelf.Vars
import Derived.OpenShut
import Derived.Lay
import Derived.LaidMore
import Derived.LaidHandle
import Derived.MakeChecks
import Derived.ChangeArms
import Derived.Lib.ItoaNum
import Derived.Lib.AppendStr
import Derived.Lib.UnsafeStr
import Derived.Lib.Builder
import Derived.Test.YtaagocopollacaaGreatDoorShf
import Derived.Lib.Replace
import Derived.Lib.Join
set_option maxRecDepth 100000
set_option maxHeartbeats 4000000
namespace aw
open Go
variable{l:List Int}{v:Int}
namespace Tm

mutual
def cz:Tm→List Int
 |mk k _ n l=>if k=1 then [n] else ek l
def ek:List Tm→List Int
 |[]=>[]
 |t::r=>cz t++ek r
end

theorem alW{l:List Tm}(h:v∈ek l):∃t∈l,v∈cz t:=by
 induction l with
 |nil=>simp[ek]at h
 |cons x l ih =>
  simp only[ek,bW]at h
  grind

mutual
theorem S5:∀ (t:Tm) (a:List Int),J5 a t=(cz t).foldl jT a
 |mk k s n l,a=>by
  simp only[J5,cz];split
  ·rfl
  ·exact uU l a
theorem uU:∀ (l:List Tm) (a:List Int),qs a l=(ek l).foldl jT a
 |[],a=>rfl
 |t::r,a=>by simp only[qs,ek,aa8,S5 t a,uU r]
end

mutual
theorem ahz:∀ {t:Tm} {d:Int} {e:Int × Tm},e∈gV t d→e.2.k=1→plain t=true→e.2.n∈cz t
 |mk k s n l,d,e,he,hk,hp=>by
  simp only[gV,eL]at he;simp only[plain,aV]at hp;rcases he with rfl |he
  ·have hk:k=1:=hk;simp only[cz,if_pos hk];show n∈[n];simp
  ·have hl:=GY he hk hp.2;by_cases h1:k=1
   ·have:l=[]:=by
     simp_all
    subst this;simp[iK]at he
   ·simp only[cz,if_neg h1];exact hl
theorem GY:∀ {l:List Tm} {d:Int} {e:Int × Tm},e∈iK l d→e.2.k=1→nn l=true→e.2.n∈ek l
 |[],_,_,he,_,_=>by simp[iK]at he
 |t::r,d,e,he,hk,hp=>by
  simp only[iK,bW]at he;simp only[nn,aV]at hp;simp only[ek,bW];rcases he with he |he
  ·exact .inl (ahz he hk hp.1)
  ·exact .inr (GY he hk hp.2)
end

theorem s9{s:ByteArray}{n:Int}{m:Nat}(h:mu 1 s n m=true):0≤n∧n<1000000∧s=ByteArray.empty∧m=0:=by
 simp only[mu,if_true,aV,decide_eq_true_eq,bo,beq_iff_eq]at h;obtain⟨⟨⟨h1,h2⟩,h3⟩,h4⟩:=h;exact⟨h1,h2,h3,by omega⟩

mutual
theorem Ng:∀ (t:Tm),bw t=true→plain t=true
 |mk k s n l,h=>by
  simp only[bw,aV]at h;simp only[plain,aV,rO l h.1.2,and_true,xM,Bool.and_eq_false_iff];by_cases hk:k=1
  ·subst hk;have:=(s9 h.2).2.2.2
   right;cases l<;>simp at this ⊢
  simp_all
theorem rO:∀ (l:List Tm),cM l=true→nn l=true
 |[],_=>rfl
 |t::r,h=>by
  simp only[cM,aV]at h;simp only[nn,Ng t h.1,rO r h.2,PY]
end

mutual
theorem lh:∀ (t:Tm),bw t=true→∀v∈cz t,0≤v∧v<1000000
 |mk k s n l,h,v,hv=>by
  simp only[bw,aV]at h;simp only[cz]at hv;split at hv
  ·rename_i hk;subst hk;simp at hv;subst hv;have:=s9 h.2;omega
  ·exact uV l h.1.2 v hv
theorem uV:∀ (l:List Tm),cM l=true→∀v∈ek l,0≤v∧v<1000000
 |[],_,v,hv=>by simp[ek]at hv
 |t::r,h,v,hv=>by
  simp only[cM,aV]at h;simp only[ek,bW]at hv;exact hv.elim (lh t h.1 v) (uV r h.2 v)
end

mutual
theorem XA(g:Int→Int):∀ (t:Tm),cz (fS g t)=(cz t).map g
 |mk k s n l=>by
  simp only[fS,cz];split
  ·rfl
  ·exact E5 g l
theorem E5(g:Int→Int):∀ (l:List Tm),ek (dj g l)=(ek l).map g
 |[]=>rfl
 |t::r=>by simp only[dj,ek,List.map_append,XA g t,E5 g r]
end

mutual
theorem E6:∀ (t:Tm),fS (fun n=>n) t=t
 |mk k s n l=>by simp[fS,Bu l]
theorem Bu:∀ (l:List Tm),dj (fun n=>n) l=l
 |[]=>rfl
 |t::r=>by simp only[dj,E6 t,Bu r]
end
theorem Nh(g:Int→Int)(l:List Tm):(dj g l).length=l.length:=by rw[jQ];simp

mutual
theorem E7(g:Int→Int):∀ (t:Tm),size (fS g t)=size t
 |mk k s n l=>by simp only[fS,size,Bv g l]
theorem Bv(g:Int→Int):∀ (l:List Tm),ay (dj g l)=ay l
 |[]=>rfl
 |t::r=>by simp only[dj,ay,E7 g t,Bv g r]
end

mutual
theorem Bw(g:Int→Int):∀ (t:Tm),depth (fS g t)=depth t
 |mk k s n l=>by simp only[fS,depth,yV g l]
theorem yV(g:Int→Int):∀ (l:List Tm),eF (dj g l)=eF l
 |[]=>rfl
 |t::r=>by simp only[dj,eF,Bw g t,yV g r]
end

mutual
theorem E8(g:Int→Int):∀ (t:Tm),bw t=true→(∀v∈cz t,0≤g v∧g v<1000000)→bw (fS g t)=true
 |mk k s n l,h,hv=>by
  simp only[bw,aV]at h;simp only[fS,bw,aV,Nh];by_cases hk:k=1
  ·subst hk;obtain⟨_,_,h3,h4⟩:=s9 h.2;have hl:l=[]:=jy.1 h4;subst hl;subst h3;obtain⟨h5,h6⟩:=hv n (by simp[cz]);refine⟨⟨h.1.1,rfl⟩,?_⟩;simp only[mu,if_true,aV,decide_eq_true_eq];exact⟨⟨⟨h5,h6⟩,bo.2 rfl⟩,by rfl⟩
  ·rw [if_neg hk];exact⟨⟨h.1.1,Bx g l h.1.2 fun v h'=>hv v (by simp only[cz,if_neg hk];exact h')⟩,h.2⟩
theorem Bx(g:Int→Int):∀ (l:List Tm),cM l=true→(∀v∈ek l,0≤g v∧g v<1000000)→cM (dj g l)=true
 |[],_,_=>rfl
 |t::r,h,hv=>by
  simp only[cM,aV]at h;simp only[dj,cM,aV];exact⟨E8 g t h.1 fun v h'=>hv v (by simp[ek,h']),Bx g r h.2 fun v h'=>hv v (by simp[ek,h'])⟩
end

theorem dF{t:Tm}:bS t=true↔bw t=true∧t.size≤3000∧t.depth≤100:=by
 simp only[bS,aV,decide_eq_true_eq,and_assoc]

theorem Ni{g:Int→Int}{t:Tm}(h:bS t=true)(hv:∀v∈cz t,0≤g v∧g v<1000000):bS (fS g t)=true:=by
 rw[dF]at h ⊢;exact⟨E8 g t h.1 hv,by rw[E7];exact h.2.1,by rw[Bw];exact h.2.2⟩

def once (l:List Int):List Int:=l.foldl jT []

theorem XB{a:List Int}{x v:Int}:v∈jT a x↔v∈a∨v=x:=by
 unfold jT
 grind

theorem S6:∀ {a:List Int} {v:Int},v∈l.foldl jT a↔v∈a∨v∈l:=by
 induction l with
 |nil=>simp
 |cons x l ih=>intro a v;simp only[vI,ih,XB,eL,or_assoc]
theorem Kc:v∈once l↔v∈l:=by simp[once,S6]
end Tm

theorem Bz{l:List Tm}(h:Tm.cM l=true):bH l=Tm.once (Tm.ek l):=by
 rw[Na l (Tm.rO l h),Tm.uU];rfl
def jo (l:List Int)(n:Int):Int:=if tT l n 0<0 then 0 else tT l n 0

theorem QM:∀ {l:List Int} {n:Int} (i:Int),n∈l→i≤tT l n i∧tT l n i<i+l.length
 |x::l,n,i,h=>by
  simp only[tT,dv];split
  ·omega
  ·rename_i hx;have:=QM (l:=l) (n:=n) (i+1) ((eL.1 h).resolve_left fun e=>hx e.symm);omega

theorem yW:∀ {l:List Int} {n i:Int},n ∉ l→tT l n i=-1
 |[],_,_,_=>rfl
 |x::l,n,i,h=>by
  simp only[eL,not_or]at h;simp only[tT];rw[if_neg (fun e=>h.1 e.symm)];exact yW h.2

theorem Nj{n:Int}(h:n∈l):jo l n=tT l n 0∧0≤jo l n∧jo l n<l.length:=by
 have:=QM 0 h;unfold jo;omega
end aw
namespace aw
open Go

variable{l:List Tm}{t:Tm}{v:Int}
theorem uW(h:t.bw=true):∀d e,e∈t.gV d→e.2.s.size<1000000000:=fun d e he=>by
 have h1:=(Tm.wu t d).2 h e he;rw[Tm.GN]at h1;simp only[aV,Tm.mu]at h1;have h2:=h1.2;split at h2
 ·simp only [aV,Tm.bo] at h2;rw[h2.1.2];decide
 ·split at h2
  ·simp only [aV,Tm.bo] at h2;rw[h2.1];decide
  grind
theorem nq(h:t.bS=true):t.bw=true:=(Tm.dF.1 h).1
def aJ:Tm:=.mk 0 ByteArray.empty 0 []
def Nk (cj:Int)(n:Int):Bool:=decide (cj ≥ IntKind.i64.wrap (1000000 - n))

def qu (t:Tm)(cj:Int):Tm × Int :=
 if c0 t then (if cj<0 then (aJ,3) else if (bH [t]).any (Nk cj) then (aJ,3) else (Tm.fS (fun n=>IntKind.i64.wrap (n+cj)) t,0)) else (aJ,1)

def dH (l:List Tm):List Tm × Int × Int :=
 if l.all c0 then (Tm.dj (jo (bH l)) l,(bH l).length,0) else ([],0,1)
def Nl (cj:Int)(v:Int):Bool:=decide (IntKind.i64.wrap (v+cj)<1000000)
def okF (V:List Int)(cj:Int):Bool:=(decide (cj ≥ 0)&&decide (cj≤1000000)&&V.all (Nl cj)) || (decide (cj > 1000000)&&V.isEmpty)
theorem BA(h:t.bw=true):Tm.cM [t]=true:=by simp[Tm.cM,h]
theorem j7(h:Tm.cM l=true):v∈bH l↔v∈Tm.ek l:=by rw[Bz h,Tm.Kc]
theorem Kd(h:Tm.cM l=true)(hv:v∈bH l):0≤v∧v<1000000:=Tm.uV l h v ((j7 h).1 hv)

theorem Nn{cj:Int}(h:t.bS=true)(ho:okF (bH [t]) cj=true):qu t cj=(Tm.fS (fun n=>IntKind.i64.wrap (n+cj)) t,0)∧0≤cj∧(bH [t]≠[]→cj≤1000000)∧∀v∈bH [t],0≤v∧v+cj<1000000∧IntKind.i64.wrap (v+cj)=v+cj:=by
 have hr:c0 t=true:=by rw[cN];exact h
 have hf:=BA (nq h)
 have key:0≤cj∧(bH [t]≠[]→cj≤1000000)∧∀v∈bH [t],0≤v∧v+cj<1000000∧IntKind.i64.wrap (v+cj)=v+cj:=by
  simp only[okF,mS,aV,decide_eq_true_eq,fk,List.isEmpty_iff]at ho;rcases ho with ⟨⟨h1,h2⟩,h3⟩ |⟨h1,h2⟩
  ·refine ⟨h1,fun _=>h2,fun v hv=>?_⟩;have h4:=Kd hf hv;have h5:=h3 v hv;simp only[Nl,decide_eq_true_eq]at h5;have hw:IntKind.i64.wrap (v+cj)=v+cj:=sK an an;rw[hw]at h5;exact⟨h4.1,h5,hw⟩
  ·exact⟨by omega,fun h=>absurd h2 h,fun v hv=>by rw[h2]at hv;simp at hv⟩
 refine⟨?_,key⟩;unfold qu;rw[if_pos hr,if_neg an]
 have:¬ (bH [t]).any (Nk cj)=true:=by
  rw[yM];rintro⟨v,hv,hb⟩;obtain⟨h1,h2,_⟩:=key.2.2 v hv;simp only[Nk,decide_eq_true_eq]at hb;rw[sK an an]at hb;omega
 simp_all
theorem No(h:Tm.cM l=true)(hv:v∈Tm.ek l):jo (bH l) v=tT (bH l) v 0∧0≤jo (bH l) v∧jo (bH l) v<(bH l).length:=Nj ((j7 h).2 hv)

theorem Np:l.all c0=true↔∀t∈l,t.bS=true:=by
 simp only[fk,cN]
end aw
namespace aw
open Go

variable{ty:Nat→Option Ty}{row:List D}{τ:Ty}{B t:Nat}
structure rP (ty:Nat→Option Ty) (T:Nat):Prop where
 ex:∃ (a b c s:Nat) (τ τa τb τc τs:Ty),ty T=some τ∧τ.sh=.struct [(0,a),(1,b),(2,c),(3,s)]∧τ.size=4∧1≤τ.bytes∧ty a=some τa∧τa.sh=.int .i64∧ty b=some τb∧τb.sh=.str∧ty c=some τc∧τc.sh=.int .i64∧ty s=some τs∧τs.sh=.slice T

def QN (ty:Nat→Option Ty)(T:Nat):Bool :=
 match ty T with
 | some ⟨4,cj,_,.struct [(0,a),(1,b),(2,c),(3,s)]⟩=>Nat.ble 1 cj&&(match ty a with | some ⟨_,_,_,.int .i64⟩=>true | _=>false)&&(match ty b with | some ⟨_,_,_,.str⟩=>true | _=>false) &&
   (match ty c with |some ⟨_,_,_,.int .i64⟩=>true |_=>false)&&(match ty s with |some ⟨_,_,_,.slice T'⟩=>Nat.beq T' T |_=>false)
 |_=>false

theorem Nq{T:Nat}(h:QN ty T=true):rP ty T:=by
 unfold QN at h;split at h
 case h_2=>cases h
 rename_i cj z a b c s hT;simp only[aV]at h;obtain⟨⟨⟨⟨h0,h1⟩,h2⟩,h3⟩,h4⟩:=h;split at h1
 case h_2=>cases h1
 rename_i ha;split at h2
 case h_2=>cases h2
 rename_i hb;split at h3
 case h_2=>cases h3
 rename_i hc;split at h4
 case h_2=>cases h4
 rename_i hs;have:=cp h4;subst this;exact⟨a,b,c,s,_,_,_,_,_,hT,rfl,rfl,ke h0,ha,rfl,hb,rfl,hc,rfl,hs,rfl⟩

theorem wB{B n t:Nat}{k:IntKind}(hτ:ty t=some τ)(hs:τ.sh=.int k)(h:cV ty B n t row):∃m,row=[.v (.int k m)]∧k.min≤m∧m≤k.max:=by
 cases n with
 |zero=>simp[cV]at h
 |succ n=>simpa only[cV,hτ,hs]using h

theorem abK{B n t:Nat}(hτ:ty t=some τ)(hs:τ.sh=.str)(h:cV ty B n t row):∃s:ByteArray,row=[.v (.string s)]∧s.size≤B:=by
 cases n with
 |zero=>simp[cV]at h
 |succ n=>simpa only[cV,hτ,hs]using h

theorem ta{B n t e:Nat}(hτ:ty t=some τ)(hs:τ.sh=.slice e)(h:cV ty B (n+1) t row):∃aa:List (List D),row=[.sl aa]∧(∀τ,ty e=some τ→aa.length * τ.bytes≤B)∧∀r∈aa,cV ty B n e r:=by
 simpa only[cV,hτ,hs]using h

def Tm.Fit (t:Tm):Prop:=∀d e,e∈t.gV d→jt e.2.k∧jt e.2.n

theorem ae5{T B:Nat}(hT:rP ty T)(hB:B≤140737488355328):∀ (n:Nat) (row:List D),cV ty B n T row→∃t:Tm,row=t.row∧t.Ok∧t.Fit:=by
 obtain⟨a,b,c,s,τ,τa,τb,τc,τs,h1,h2,h3,J7,ha,ha',hb,uc,hc,Qj,hs,fh⟩:=hT.ex;intro n;induction n using Nat.strongRecOn with
 |_ n ih =>
 intro row h;cases n with
 |zero=>simp[cV]at h
 |succ n =>
  simp only[cV,h1,h2,wz]at h;obtain⟨_,ra,_,g1,rfl,g2,g3,_,rb,_,g4,rfl,g5,g6,_,rc,_,g7,rfl,g8,g9,_,rs,_,g10,rfl,g11,g12,rfl⟩:=h;rw[ha]at g1;cases g1;rw[hb]at g4;cases g4;rw[hc]at g7;cases g7;rw[hs]at g10;cases g10;obtain⟨k,rfl,hk⟩:=wB ha ha' g3;obtain⟨nm,rfl,hnm⟩:=abK hb uc g6;obtain⟨m,rfl,hm⟩:=wB hc Qj g9;cases n with
  |zero=>simp[cV]at g12
  |succ n =>
   obtain⟨aa,rfl,aZ,eA⟩:=ta hs fh g12
   have hch:∃l:List Tm,aa=l.map Tm.row∧∀x∈l,x.Ok∧x.Fit:=by
    clear aZ g11 g12;induction aa with
    |nil=>simp_all
    |cons r aa S7 =>
     obtain⟨t,ht1,ht2⟩:=ih n an r (eA r aC);obtain⟨l,Du,j3⟩:=S7 fun r hr=>eA r (by simp[hr])
     exact⟨t::l,by simp[ht1,Du],by simp_all⟩
   obtain⟨l,rfl,hl⟩:=hch
   have Vd:l.length≤B:=by
    have:=aZ τ h1;rw[eS]at this;exact tP (We _ J7) this
   refine⟨.mk k nm m l,by simp[Tm.row,Tm.k,Tm.s,Tm.n,Tm.l,Tm.dZ],?_,?_⟩
   ·intro d e he;simp only[Tm.gV,eL]at he;rcases he with rfl |he
    ·exact⟨show l.length≤_ by omega,show nm.size≤_ by omega⟩
    ·obtain ⟨x,hx,hex⟩:=Tm.wq he;exact(hl x hx).1 _ _ hex
   ·intro d e he;simp only[Tm.gV,eL]at he;rcases he with rfl |he
    ·exact⟨hk,hm⟩
    ·obtain ⟨x,hx,hex⟩:=Tm.wq he;exact(hl x hx).2 _ _ hex

theorem QO{t B n:Nat}{k:IntKind}{a:AV}(hτ:ty t=some τ)(hs:τ.sh=.int k)(h:cV ty B n t row)(ha:a=uT τ row):∃m,a=.d (.v (.int k m))∧k.min≤m∧m≤k.max:=by
 obtain⟨m,rfl,h1⟩:=wB hτ hs h;exact⟨m,by rw[ha];unfold uT Ty.agg;rw[hs],h1⟩
theorem XC{sh:Sh}(h:ty t=some τ)(h2:(ty t).map Ty.sh=some sh):τ.sh=sh:=by simp_all

theorem QP{ts:List Nat}{dM:List AV}(h:lF ty B (t::ts) dM):∃ (n:Nat) (τ:Ty) (row:List D) (a:AV) (as':List AV),dM=a::as'∧ty t=some τ∧cV ty B n t row∧a=uT τ row∧lF ty B ts as':=by
 match dM,h with
 |a::dM,h=>simp only[lF]at h;grind
 |[],h=>simp[lF]at h

theorem alZ{dM:List AV}(h:lF ty B [] dM):dM=[]:=by
 cases dM with
 |nil=>rfl
 |cons _ _=>simp[lF]at h
end aw
namespace aw
open Go
def pB (a b:Int):Int:=if a<b then -1 else if a > b then 1 else 0
def E9 (n:Int):Int:=if n > 0 then 1 else if n<0 then -1 else 0

def uX:List UInt8→List UInt8→Int
 |[],[]=>0
 |[],_::_=>-1
 |_::_,[]=>1
 |x::a,y::b=>if x=y then uX a b else pB x.toNat y.toNat
def ya (a b:ByteArray):Int:=uX a.data.toList b.data.toList
namespace Tm

mutual
def BB:Tm→Tm→Int
 |mk k s n l,mk k' s' n' l' =>
  if k≠k' then E9 (IntKind.i64.wrap (k - k')) else if k≠3 then pB n n' else if pB l.length l'.length≠0 then pB l.length l'.length
  else if ya s s'≠0 then ya s s' else Ke l l'
def Ke:List Tm→List Tm→Int
 |x::a,y::b=>if BB x y≠0 then BB x y else Ke a b
 |_,_=>0
end

theorem abL (a b:Tm):BB a b=if a.k≠b.k then E9 (IntKind.i64.wrap (a.k - b.k)) else if a.k≠3 then pB a.n b.n else if pB a.l.length b.l.length≠0 then pB a.l.length b.l.length
  else if ya a.s b.s≠0 then ya a.s b.s else Ke a.l b.l:=by cases a;cases b;simp only[BB];rfl
end Tm

theorem S8 {a b:Int}:pB a b=0↔a=b:=by
 unfold pB;omega
namespace Tm
end Tm
end aw
namespace aw
open Go
namespace Tm
end Tm
end aw
namespace aw
open Go
namespace Tm

theorem pC {k:Int}{s:ByteArray}{n:Int}{l:List Tm}(h:bw (mk k s n l)=true):cM l=true∧(k=1→s=ByteArray.empty∧l=[]):=by
 simp only[bw,aV]at h;refine⟨h.1.2,fun hk=>?_⟩;subst hk;have:=s9 h.2
 simp_all
end Tm
end aw

namespace aw
open Go

abbrev ak:=List (Int × Tm)
def GZ (b:Int × Tm):List D:=.v (.int .i64 b.1)::Tm.row b.2
def cO (l:ak):List (List D):=l.map GZ
theorem fz (l:ak):(cO l).length=l.length:=by simp[cO]
theorem mE {l:ak}{i:Nat}{x:Int × Tm}(h:l[i]? = some x):(cO l)[i]? = some (GZ x):=by simp[cO,h]

def eM (l:ak)(v:Int):Int:=tT (l.map (·.1)) v 0
def a7 (l:ak)(v:Int):Option Tm:=(l.find? (fun b=>b.1==v)).map (·.2)

theorem Kf:∀ (l:ak) (v:Int) (i:Int),0≤i→(tT (l.map (·.1)) v i<0∧a7 l v=none)∨(∃ (k:Nat) (t:Tm),tT (l.map (·.1)) v i=i+k∧l[k]? = some (v,t)∧a7 l v=some t)
 |[],v,i,h=>.inl ⟨by simp[tT],rfl⟩
 |b::l,v,i,h=>by
  by_cases hb:b.1=v
  ·refine .inr ⟨0,b.2,by simp[tT,hb],by simp[← hb],by simp[a7,hb]⟩
  ·have hf:a7 (b::l) v=a7 l v:=by
    simp only[a7,List.find?_cons,show (b.1==v)=false by simpa using hb]
   simp only[List.map_cons,tT,if_neg hb,hf];rcases Kf l v (i+1) an with ⟨h1,h2⟩ |⟨k,t,h1,h2,h3⟩
   ·simp_all
   ·exact .inr ⟨k+1,t,by rw[h1];omega,by simpa using h2,h3⟩

theorem fF (l:ak)(v:Int):(eM l v<0∧a7 l v=none)∨(∃ (k:Nat) (t:Tm),eM l v=k∧l[k]? = some (v,t)∧a7 l v=some t):=by
 rcases Kf l v 0 (gP _) with h |⟨k,t,h1,h2,h3⟩
 ·exact .inl h
 ·exact .inr ⟨k,t,by unfold eM;omega,h2,h3⟩
namespace Tm
def differ (p t:Tm):Bool:=decide (p.k≠t.k) || decide (p.n≠t.n) || !bE p.s t.s || decide (p.l.length≠t.l.length)

mutual
def collect:Tm→Tm→ak × Bool
 |mk k s n l,t =>
  if k=1 then ([(n,t)],true)
  else if differ (mk k s n l) t then ([],false) else rQ l t.l []
def rQ:List Tm→List Tm→ak→ak × Bool
 |x::a,y::b,B=>if (collect x y).2 then rQ a b (B++(collect x y).1) else ([],false)
 |_,_,B=>(B,true)
end
end Tm
namespace Tm
end Tm
namespace Tm
end Tm
namespace Tm
end Tm
end aw
namespace aw
open Go
namespace Tm

mutual
def abM (B:ak):Tm→Tm
 |mk k s n l=>if k=1 then (a7 B n).getD (mk k s n (wC B l)) else mk k s n (wC B l)
def wC (B:ak):List Tm→List Tm
 |[]=>[]
 |x::r=>abM B x::wC B r
end

theorem Fa (B:ak):∀l,wC B l=l.map (abM B)
 |[]=>rfl
 |x::r=>by simp only[wC,List.map_cons,Fa B r]
end Tm
end aw
namespace aw
open Go
namespace Tm

theorem dq {B:ak}{n:Int}{t:Tm}(h:a7 B n=some t):(n,t)∈B:=by
 unfold a7 at h;obtain⟨z,hz,rfl⟩:=agr.1 h
 grind

mutual
theorem S9 (B:ak)(hB:∀b∈B,bw b.2=true):∀ (p:Tm),bw p=true→bw (abM B p)=true
 |mk k s n l,h=>by
  have hl:=pC h;simp only[abM];by_cases hk:k=1
  ·rw [if_pos hk];cases hf:a7 B n with
   |some t=>exact hB _ (dq hf)
   |none =>
    obtain⟨rfl,rfl⟩:=hl.2 hk;simpa[wC]using h
  ·rw [if_neg hk];have ih:=BC B hB l hl.1;have aZ:(wC B l).length=l.length:=by rw[Fa];simp
   simp only[bw,aV]at h ⊢
   simp_all
theorem BC (B:ak)(hB:∀b∈B,bw b.2=true):∀ (l:List Tm),cM l=true→cM (wC B l)=true
 |[],_=>rfl
 |x::r,h=>by
  simp only[cM,aV]at h;simp only[wC,cM,S9 B hB x h.1,BC B hB r h.2,PY]
end
end Tm
end aw
namespace aw
open Go
namespace Tm

mutual
def bZ (σ:Int→Tm):Tm→Tm
 |mk k s n l=>if k=1 then σ n else mk k s n (dt σ l)
def dt (σ:Int→Tm):List Tm→List Tm
 |[]=>[]
 |x::r=>bZ σ x::dt σ r
end

theorem pD (σ:Int→Tm):∀l,(dt σ l).length=l.length
 |[]=>rfl
 |x::r=>by simp only[dt,dv,pD σ r]

mutual
theorem nr {σ τ:Int→Tm}:∀ (p:Tm),(∀v∈cz p,σ v=τ v)→bZ σ p=bZ τ p
 |mk k s n l,h=>by
  simp only[bZ];simp only[cz]at h;by_cases hk:k=1
  ·simp_all
  ·simp only[if_neg hk]at h ⊢;rw[yX l h]
theorem yX {σ τ:Int→Tm}:∀ (l:List Tm),(∀v∈ek l,σ v=τ v)→dt σ l=dt τ l
 |[],_=>rfl
 |x::r,h=>by
  simp only[ek,bW]at h;simp only[dt,nr x (fun v hv=>h v (.inl hv)),yX r (fun v hv=>h v (.inr hv))]
end

def vT (n:Int):Tm:=mk 1 ByteArray.empty n []

theorem Nr {p t:Tm}:differ p t=false↔p.k=t.k∧p.n=t.n∧p.s=t.s∧p.l.length=t.l.length:=by
 simp[differ,bo,and_assoc]

mutual
theorem Kg (σ:Int→Tm):∀ (p:Tm),collect p (bZ σ p)=((cz p).map fun v=>(v,σ v),true)
 |mk k s n l=>by
  simp only[collect,bZ,cz];by_cases hk:k=1
  ·simp[hk]
  ·simp only [if_neg hk];have hd:differ (mk k s n l) (mk k s n (dt σ l))=false:=Nr.2 ⟨rfl,rfl,rfl,(pD σ l).symm⟩;rw[hd];simp only[lL,if_false];exact wD σ l []
theorem wD (σ:Int→Tm):∀ (l:List Tm) (B:ak),rQ l (dt σ l) B=(B++(ek l).map fun v=>(v,σ v),true)
 |[],B=>by simp[rQ,ek]
 |x::r,B=>by
  simp only[dt,rQ,ek,Kg σ x,if_true,wD σ r,List.map_append,List.append_assoc]
end
end Tm
end aw
namespace aw
open Go
namespace Tm

mutual
theorem Fb (σ τ:Int→Tm):∀ (p:Tm),bZ τ (bZ σ p)=bZ (fun v=>bZ τ (σ v)) p
 |mk k s n l=>by
  simp only[bZ];by_cases hk:k=1
  ·simp[hk]
  ·simp only[if_neg hk,bZ,BD σ τ l]
theorem BD (σ τ:Int→Tm):∀ (l:List Tm),dt τ (dt σ l)=dt (fun v=>bZ τ (σ v)) l
 |[]=>rfl
 |x::r=>by simp only[dt,Fb σ τ x,BD σ τ r]
end

mutual
theorem rR (g:Int→Int):∀ (p:Tm),bw p=true→fS g p=bZ (fun v=>vT (g v)) p
 |mk k s n l,h=>by
  have hl:=pC h;simp only[fS,bZ];by_cases hk:k=1
  ·obtain ⟨rfl,rfl⟩:=hl.2 hk;subst hk;simp[dj,vT]
  ·rw[if_neg hk,if_neg hk,Fc g l hl.1]
theorem Fc (g:Int→Int):∀ (l:List Tm),cM l=true→dj g l=dt (fun v=>vT (g v)) l
 |[],_=>rfl
 |x::r,h=>by
  simp only[cM,aV]at h;simp only[dj,dt,rR g x h.1,Fc g r h.2]
end

theorem XD (p:Tm)(h:bw p=true):bZ vT p=p:=by
 have:=rR (fun n=>n) p h;rw[E6]at this;exact this.symm
end Tm
end aw
namespace aw
open Go
namespace Tm
end Tm
end aw
namespace aw
open Go
namespace Tm
end Tm
end aw

namespace aw
open Go

def BE:List Int→Int→List (Int × AV)→List (Int × AV)
 |[],_,A=>A
 |v::r,i,A=>BE r (i+1) (if (ib A v).isSome then A else A++[(v,iV i)])
def yK (V:List Int):List (Int × AV):=BE V 0 []

theorem Kh:∀ (A B:List (Int × AV)) (v:Int),ib (A++B) v=match ib A v with |some x=>some x |none=>ib B v
 |[],B,v=>rfl
 |p::A,B,v=>by
  simp only[jj,ib];split
  ·rfl
  ·exact Kh A B v

theorem Fe:∀ (V:List Int) (i:Int) (A:List (Int × AV)) (v:Int),0≤i→ib (BE V i A) v=match ib A v with |some x=>some x |none=>if tT V v i<0 then none else some (iV (tT V v i))
 |[],i,A,v,_=>by
  simp only[BE,tT];cases ib A v<;>simp
 |u::V,i,A,v,h=>by
  simp only[BE,tT];rw[Fe V (i+1) _ v an];by_cases hu:(ib A u).isSome=true
  ·rw [if_pos hu];cases hv:ib A v with
   |some x=>rfl
   |none =>
    have:¬ u=v:=fun e=>by rw[e,hv]at hu;cases hu
    simp only[if_neg this]
  ·rw [if_neg hu,Kh];cases hv:ib A v with
   |some x=>rfl
   |none =>
    simp only[ib];by_cases e:u=v
    ·simp only [if_pos e];rw[if_neg an]
    ·simp only[if_neg e]

theorem QQ (V:List Int)(v:Int):ib (yK V) v=if tT V v 0<0 then none else some (iV (tT V v 0)):=by
 unfold yK;rw[Fe V 0 [] v (gP _)];rfl

theorem Ff:∀ (V:List Int) (i:Int) (A:List (Int × AV)),(BE V i A).map (·.1)=V.foldl jT (A.map (·.1))
 |[],i,A=>rfl
 |u::V,i,A=>by
  simp only[BE,vI];rw[Ff V (i+1)];congr 1
  have key:∀ (A:List (Int × AV)),(ib A u).isSome=(A.map (·.1)).contains u:=by
   intro A;induction A with
   |nil=>rfl
   |cons p A ih =>
    simp only[ib,List.map_cons,PZ];by_cases h:p.1=u
    ·rw[if_pos h];simp[h]
    ·rw [if_neg h,ih];have:(u==p.1)=false:=by simp;exact fun e=>h e.symm
     rw[this,zA]
  unfold jT;rw[← key A];split<;>simp

theorem abN (V:List Int):(yK V).length=(Tm.once V).length:=by
 have:=congrArg List.length (Ff V 0 []);simpa[yK,Tm.once]using this

theorem Fg:∀ (l a:List Int),(l.foldl jT a).length≤a.length+l.length∧((l.foldl jT a).length=a.length+l.length→l.Nodup∧∀x∈l,x ∉ a)
 |[],a=>by simp
 |x::l,a=>by
  have h:=Fg l (jT a x);have h2:=Tm.SZ a x;simp only[vI,dv];refine⟨by omega,fun he=>?_⟩;have h3:(jT a x).length=a.length+1:=by omega
  have hx:x ∉ a:=fun hm=>by
   unfold jT at h3;rw[if_pos (by simpa using hm)]at h3;omega
  obtain⟨h4,h5⟩:=h.2 an;have h6:jT a x=a++[x]:=by unfold jT;rw[if_neg (by simpa using hx)]
  rw[h6]at h5;refine⟨xL.2 ⟨fun hm=>by have:=h5 x hm;simp at this,h4⟩,fun y hy=>?_⟩;rcases eL.1 hy with rfl |hy
  ·exact hx
  ·have:=h5 y hy;simp at this;exact this.1

theorem XE {V:List Int}:((Tm.once V).length<V.length)↔¬ V.Nodup:=by
 have h:=Fg V [];unfold Tm.once;constructor
 ·intro h1 h2
  have key:∀ (l a:List Int),l.Nodup→(∀x∈l,x ∉ a)→(l.foldl jT a).length=a.length+l.length:=by
   intro l;induction l with
   |nil=>intro a _ _;simp
   |cons x l ih =>
    intro a hn hd;have hx:jT a x=a++[x]:=by unfold jT;rw[if_neg (by simpa using hd x aC)]
    rw[vI,hx,ih _ (xL.1 hn).2 fun y hy=>?_]
    ·simp;omega
    ·simp only [bW,dh,not_or];exact⟨hd y kb,fun e=>(xL.1 hn).1 (e ▸ hy)⟩
  have:=key V [] h2 aC;simp at this;omega
 ·intro h1;rcases oy (V.foldl jT []).length V.length with h2 |h2
  ·exact h2
  ·exact absurd (h.2 (by simp;have:=h.1;simp at this;omega)).1 h1

def me (g:Nat→List Int→Bool × List Int):List Nat→List Int→Bool × List Int
 |[],st=>(true,st)
 |k::r,st=>if (g k st).1 then me g r (g k st).2 else (false,(g k st).2)

def fV (fG:Nat→List Nat):Nat→Nat→List Int→Bool × List Int
 |0,_,st=>(false,st)
 | f+1,i,st=>if st.getD i 0≠0 then (decide (st.getD i 0=2),st) else
   if (me (fV fG f) (fG i) (st.set i 1)).1 then (true,(me (fV fG f) (fG i) (st.set i 1)).2.set i 2) else (false,(me (fV fG f) (fG i) (st.set i 1)).2)
def j8 (st:List Int):Nat:=st.countP (· == 0)

theorem pE:∀ (st:List Int) (i:Nat) (x:Int),x≠0→j8 (st.set i x)≤j8 st∧(i<st.length→st.getD i 0=0→j8 (st.set i x)+1=j8 st)
 |[],i,x,_=>by simp[j8]
 |y::st,0,x,hx=>by
  simp only[j8,agp,P0];have:(x==0)=false:=by simpa using hx
  rw[this];constructor
  ·simp
  ·intro _ h0;have:y=0:=by simpa using h0
   simp[this]
 |y::st,i+1,x,hx=>by
  have h:=pE st i x hx;simp only[j8,V5,P0]at h ⊢;refine⟨by omega,fun h1 h2=>?_⟩;have:=h.2 MA PT;omega

theorem pF (fG:Nat→List Nat):∀ (f i:Nat) (st:List Int),(fV fG f i st).2.length=st.length∧j8 (fV fG f i st).2≤j8 st:=by
 intro f;induction f with
 |zero=>intro i st;exact⟨rfl,ef _⟩
 |succ f ih =>
  intro i st
  have hL:∀ (L:List Nat) (st:List Int),(me (fV fG f) L st).2.length=st.length∧j8 (me (fV fG f) L st).2≤j8 st:=by
   intro L;induction L with
   |nil=>intro st;exact⟨rfl,ef _⟩
   |cons k r S7 =>
    intro st;have h1:=ih k st;have h2:=S7 (fV fG f k st).2;simp only[me];split
    ·exact⟨by rw[h2.1,h1.1],by omega⟩
    ·exact h1
  have h1:=hL (fG i) (st.set i 1);have h2:=pE st i 1 an;simp only[fV];split
  ·exact⟨rfl,ef _⟩
  ·split
   ·have h3:=pE (me (fV fG f) (fG i) (st.set i 1)).2 i 2 an;exact⟨by simp[h1.1],by simp only;omega⟩
   ·exact⟨by simp[h1.1],by simp only;omega⟩

inductive wE (fG:Nat→List Nat):Nat→Nat→Prop
 |mk {m i:Nat} (h:∀k∈fG i,wE fG m k):wE fG (m+1) i

theorem wE.mono {fG:Nat→List Nat}:∀ {m i:Nat},wE fG m i→∀ {m':Nat},m≤m'→wE fG m' i:=by
 intro m;induction m with
 |zero=>intro i h;cases h
 |succ m ih =>
  intro i h m' hm;cases h with
  |mk h =>
   obtain⟨q,rfl⟩:∃q,m'=q+1:=⟨m' - 1,by omega⟩;exact .mk fun k hk=>ih (h k hk) an

theorem wE.all {fG:Nat→List Nat}:∀ {L:List Nat},(∀k∈L,∃m,wE fG m k)→∃m,∀k∈L,wE fG m k
 |[],_=>⟨0,by simp⟩
 |k::L,h=>by
  obtain⟨m,h1⟩:=h k aC;obtain⟨m',h2⟩:=wE.all (L:=L) fun k hk=>h k DG
  refine⟨m+m',fun x hx=>?_⟩;rcases eL.1 hx with rfl |hx
  ·exact h1.mono an
  ·exact(h2 x hx).mono an

theorem Ta (fG:Nat→List Nat):∀ (f i:Nat) (st:List Int),(∀j,st.getD j 0=2→∃m,wE fG m j)→(∀j,(fV fG f i st).2.getD j 0=2→∃m,wE fG m j)∧((fV fG f i st).1=true→∃m,wE fG m i):=by
 intro f;induction f with
 |zero=>intro i st h;exact⟨h,fun h=>by cases h⟩
 |succ f ih =>
  intro i st h
  have hL:∀ (L:List Nat) (st:List Int),(∀j,st.getD j 0=2→∃m,wE fG m j)→(∀j,(me (fV fG f) L st).2.getD j 0=2→∃m,wE fG m j)∧((me (fV fG f) L st).1=true→∀k∈L,∃m,wE fG m k):=by
   intro L;induction L with
   |nil=>intro st h;exact⟨h,by simp⟩
   |cons k r S7 =>
    intro st h;obtain⟨h1,h2⟩:=ih k st h;obtain⟨h3,h4⟩:=S7 _ h1;simp only[me];split
    ·rename_i hk;refine⟨h3,fun hr x hx=>?_⟩;rcases eL.1 hx with rfl |hx
     ·exact h2 hk
     ·exact h4 hr x hx
    ·exact⟨h1,fun h=>by cases h⟩
  have kT:∀ (st:List Int) (x:Int),(∀j,st.getD j 0=2→∃m,wE fG m j)→(x=2→∃m,wE fG m i)→∀j,(st.set i x).getD j 0=2→∃m,wE fG m j:=fun st x cS hx j hj=>by
   by_cases e:j=i
   ·subst e;rcases oy j st.length with hl |hl
    ·rw [List.getD_eq_getElem?_getD,qc hl] at hj;exact hx PW
    ·rw [List.getD_eq_getElem?_getD,Jc PU] at hj;simp at hj
   ·rw [List.getD_eq_getElem?_getD,q6 (fun h=>e h.symm),← List.getD_eq_getElem?_getD] at hj;exact cS j hj
  obtain⟨h1,h2⟩:=hL (fG i) (st.set i 1) (kT st 1 h an)
  have hi:(me (fV fG f) (fG i) (st.set i 1)).1=true→∃m,wE fG m i:=fun hr=>by
   obtain⟨m,hm⟩:=wE.all (h2 hr);exact⟨m+1,.mk hm⟩
  simp only[fV];split
  ·exact⟨h,fun hd=>h i (by simpa using hd)⟩
  ·split
   ·rename_i hr;exact⟨kT _ 2 h1 fun _=>hi hr,fun _=>hi hr⟩
   ·exact⟨h1,fun h=>by cases h⟩

def fW (l:ak)(i:Nat):List Nat:=match l[i]? with
 |some b=>(bH [b.2]).filterMap fun v=>if eM l v<0 then none else some (eM l v).toNat
 |none=>[]

def kD (fG:Nat→List Nat) (n:Nat):List Nat→List Int→Bool
 |[],_=>true
 |i::r,st=>if (fV fG (n+1) i st).1 then kD fG n r (fV fG (n+1) i st).2 else false
def pG (l:ak):Bool:=l.all fun b=>decide (0≤b.1)&&decide (b.1<1000000)&&b.2.bS

def jq (l:ak):Bool:=!decide ((yK (l.map (·.1))).length<l.length)&&pG l&&kD (fW l) l.length (List.range l.length) (List.replicate l.length 0)

theorem wF {fG:Nat→List Nat}{n:Nat}:∀ (L:List Nat) (st:List Int),(∀j,st.getD j 0=2→∃m,wE fG m j)→kD fG n L st=true→∀i∈L,∃m,wE fG m i
 |[],st,_,_=>by simp
 |i::r,st,h,hr=>by
  simp only[kD]at hr;obtain⟨h1,h2⟩:=Ta fG (n+1) i st h;split at hr
  ·rename_i hi;have h3:=wF r _ h1 hr;intro x hx;rcases eL.1 hx with rfl |hx
   ·exact h2 hi
   ·exact h3 x hx
  ·cases hr
end aw
namespace aw
open Go

theorem QR:∀ (V:List Int) (i:Int) (A:List (Int × AV)),(∀p∈A,∃n,p.2=iV n)→∀p∈BE V i A,∃n,p.2=iV n
 |[],_,_,h=>h
 |u::V,i,A,h=>QR V (i+1) _ (by
  intro p hp;split at hp
  ·exact h p hp
  ·rcases bW.1 hp with hp | hp
   ·exact h p hp
   ·simp at hp;exact⟨i,by rw[hp]⟩)
theorem VD (V:List Int):∀p∈yK V,∃n,p.2=iV n:=QR V 0 [] aC

theorem Ki {f:AV→AV}(h:∀n,f (iV n)=iV n){A:List (Int × AV)}(hA:∀p∈A,∃n,p.2=iV n):aQ f (.map (cn A))=.map (cn A):=by
 simp only[aQ,cn,jw];congr 1;refine Gg fun p hp=>?_
 obtain⟨n,hn⟩:=hA p hp;simp[hn,h]
theorem placesOf {l:ak}{i:Nat}{b:Int × Tm}(h:l[i]? = some b):fW l i=(bH [b.2]).filterMap fun v=>if eM l v<0 then none else some (eM l v).toNat:=by unfold fW;rw[h]
theorem Fh {st:List Int}{i:Nat}{x:Int}:(di st).set i [.v (.int .i64 x)]=di (st.set i x):=by simp[di,J2,List.map_set]
end aw
namespace aw
open Go

theorem QS:∀ {A:List (Int × AV)} {v:Int} {x:AV},(∀p∈A,∃n,p.2=iV n)→ib A v=some x→∃n,x=iV n
 |[],v,x,_,h=>by cases h
 |p::A,v,x,hA,h=>by
  simp only[ib]at h;split at h
  ·cases h;exact hA p aC
  ·exact QS (fun q hq=>hA q Er) h
end aw

namespace aw
open Go
variable{B:ak}{t x:Tm}{M:Nat}{v:Int}
namespace Tm

mutual
theorem Fi{σ:Int→Tm}:∀ (p:Tm),bw p=true→(∀v∈cz p,bw (σ v)=true)→bw (bZ σ p)=true
 |mk k s n l,h,hs=>by
  have hf:=pC h;simp only[cz]at hs;simp only[bZ];by_cases hk:k=1
  ·rw[if_pos hk]at hs ⊢;exact hs n aC
  ·rw [if_neg hk] at hs ⊢;simp only[bw,aV]at h ⊢;exact⟨⟨h.1.1,BF l h.1.2 hs⟩,by rw[pD];exact h.2⟩
theorem BF{σ:Int→Tm}:∀ (l:List Tm),cM l=true→(∀v∈ek l,bw (σ v)=true)→cM (dt σ l)=true
 |[],_,_=>rfl
 |x::l,h,hs=>by
  simp only[cM,aV]at h;simp only[ek,bW]at hs;simp only[dt,cM,aV];exact⟨Fi x h.1 fun v hv=>hs v (.inl hv),BF l h.2 fun v hv=>hs v (.inr hv)⟩
end

mutual
theorem wG{σ:Int→Tm}:∀ (p:Tm) (u:Int),u∈cz (bZ σ p)→∃v∈cz p,u∈cz (σ v)
 |mk k s n l,u,h=>by
  simp only[bZ]at h;simp only[cz];by_cases hk:k=1
  ·rw[if_pos hk]at h ⊢;exact⟨n,by simp,h⟩
  ·rw [if_neg hk] at h ⊢;simp only[cz,if_neg hk]at h;exact Fj l u h
theorem Fj{σ:Int→Tm}:∀ (l:List Tm) (u:Int),u∈ek (dt σ l)→∃v∈ek l,u∈cz (σ v)
 |[],u,h=>by simp[dt,ek]at h
 |x::l,u,h=>by
  simp only[dt,ek,bW]at h;simp only[ek,bW];rcases h with h |h
  ·obtain⟨v,h1,h2⟩:=wG x u h;exact⟨v,.inl h1,h2⟩
  ·obtain⟨v,h1,h2⟩:=Fj l u h;exact⟨v,.inr h1,h2⟩
end

theorem XG{n:Int}(h0:0≤n)(h1:n<1000000):bw (vT n)=true:=by
 have e:bE ByteArray.empty ⟨#[]⟩=true:=bo.2 rfl;have e2:ByteArray.empty.data.toList.all jU=true:=rfl;simp only[vT,bw,cM,mu,e,e2];simp;omega

theorem Fk(σ:Int→Tm):∀l,dt σ l=l.map (bZ σ)
 |[]=>rfl
 |x::l=>by simp only[dt,List.map_cons,Fk σ l]

theorem XH{σ:Int→Tm}(p:Tm)(h:bw p=true)(hs:∀v∈cz p,σ v=vT v):bZ σ p=p:=by
 rw[nr p hs,XD p h]
end Tm

def bn (B:ak):Nat→Tm→Tm
 |0,t=>t
 |m+1,t=>Tm.bZ (fun v=>match a7 B v with |some x=>bn B m x |none=>Tm.vT v) t

def Tc (B:ak)(m:Nat)(t:Tm):Prop:=∀v∈Tm.cz t,0≤eM B v→wE (fW B) m (eM B v).toNat

theorem XJ{m:Nat}(hx:x.bw=true)(h:a7 B v=some x)(ho:wE (fW B) m (eM B v).toNat):∃q,m=q+1∧Tc B q x:=by
 cases ho with
 |@mk q _ ho =>
  refine⟨q,rfl,fun u hu hp=>ho _ ?_⟩;rcases fF B v with ⟨_,h2⟩ |⟨k,t,h1,h2,h3⟩
  ·rw[h2]at h;cases h
  ·rw [h3] at h; cases h;rw[h1];simp only[vM,fW,h2,xJ];refine⟨u,?_,by rw[if_neg an]⟩;rw[Bz (BA hx)];simp[Tm.ek,Tm.Kc,hu]
section
variable {B:ak} (hB:∀b∈B,b.2.bw=true)
include hB
theorem uY(h:a7 B v=some x):x.bw=true:=hB _ (Tm.dq h)

theorem BG{m:Nat}(h:Tc B m t)(hv:v∈Tm.cz t)(hx:a7 B v=some x):∃q,m=q+1∧Tc B q x:=by
 refine XJ (uY hB hx) hx (h v hv ?_);rcases fF B v with ⟨_,h2⟩ |⟨k,t,h1,h2,h3⟩
 ·rw[h2]at hx;cases hx
 ·omega

theorem yY:∀ (m:Nat) (t:Tm),t.bw=true→Tc B m t→∀m',m≤m'→bn B m' t=bn B m t:=by
 intro m;induction m with
 |zero =>
  intro t hf hl m' _
  have hn:∀v∈Tm.cz t,a7 B v=none:=fun v hv=>by
   cases h:a7 B v with
   |none=>rfl
   |some x=>obtain⟨q,hq,_⟩:=BG hB hl hv h;omega
  cases m' with
  |zero=>rfl
  |succ m' =>
   simp only[bn];exact Tm.XH t hf fun v hv=>by rw[hn v hv]
 |succ m ih =>
  intro t hf hl m' hm;obtain⟨q,rfl⟩:∃q,m'=q+1:=⟨m' - 1,by omega⟩;simp only[bn];refine Tm.nr t fun v hv=>?_
  cases h:a7 B v with
  |none=>rfl
  |some x =>
   obtain⟨r,hr,h2⟩:=BG hB hl hv h;cases hr;exact ih x (uY hB h) h2 q an

theorem Te:∀ (m:Nat) (t:Tm),t.bw=true→(∀v∈Tm.cz t,0≤v∧v<1000000)→(bn B m t).bw=true:=by
 intro m;induction m with
 |zero=>intro t h _;exact h
 |succ m ih =>
  intro t h hv;refine Tm.Fi t h fun v hm=>?_
  cases hf:a7 B v with
  |none=>exact Tm.XG (hv v hm).1 (hv v hm).2
  |some x =>
   have:=uY hB hf;exact ih x this (Tm.lh x this)
end

structure Sub (B:ak) (M:Nat):Prop where
 fair:∀b∈B,b.2.bw=true
 okn:∀i<B.length,wE (fW B) M i

theorem Sub.lev(h:Sub B M)(t:Tm):Tc B M t:=fun v _ hp=>h.okn _ (by
 rcases fF B v with ⟨h1,_⟩ |⟨k,t,h1,h2,h3⟩
 ·omega
 ·have:=(bC.1 h2).1;omega)

theorem Sub.fix(h:Sub B M)(hf:t.bw=true):bn B M t=Tm.bZ (fun v=>match a7 B v with |some x=>bn B M x |none=>Tm.vT v) t :=
 (yY h.fair M t hf (h.lev t) (M+1) an).symm

theorem Sub.bound(h:Sub B M)(hf:t.bw=true)(hk:t.k=1)(hx:a7 B t.n=some x):bn B M t=bn B M x:=by
 rw[h.fix hf];obtain⟨k,s,n,l⟩:=t;simp only[Tm.k,Tm.n]at hk hx;simp only[Tm.bZ,if_pos hk,hx]

theorem Ab(hk:t.k=1):t.n∈Tm.cz t:=by
 obtain⟨k,s,n,l⟩:=t;simp only[Tm.k]at hk;simp[Tm.cz,hk,Tm.n]

theorem Sub.head(h:Sub B M)(hf:t.bw=true)(hx:t.k=1→a7 B t.n=none):bn B M t=.mk t.k t.s t.n (t.l.map (bn B M)):=by
 rw[h.fix hf];obtain⟨k,s,n,l⟩:=t;have h1:=Tm.pC hf;by_cases hk:k=1
 ·obtain ⟨rfl,rfl⟩:=h1.2 hk;have:=hx hk;simp only[Tm.n]at this;subst hk;simp[Tm.bZ,this,Tm.vT,Tm.k,Tm.s,Tm.n,Tm.l]
 ·simp only [Tm.bZ,if_neg hk,Tm.k,Tm.s,Tm.n,Tm.l,Tm.Fk];congr 1;refine Gg fun x hx=>?_
  exact(h.fix (Tm.fN.1 h1.1 x hx)).symm

theorem Sub.BH(hf:t.bw=true)(hx:x∈t.l):x.bw=true:=by
 obtain⟨k,s,n,l⟩:=t;exact Tm.fN.1 (Tm.pC hf).1 x hx
theorem Sub.ae6(h:Sub B M)(hf:t.bw=true):(bn B M t).bw=true:=Te h.fair M t hf (Tm.lh t hf)
namespace Tm

mutual
def kV:Tm→Int→Int→Bool × Int
 |mk _ _ _ l,left,aq=>if left - 1<0∨aq > 100 then (false,left - 1) else pH l (left - 1) (aq+1)
def pH:List Tm→Int→Int→Bool × Int
 |[],left,_=>(true,left)
 |x::r,left,aq=>if (kV x left aq).1 then pH r (kV x left aq).2 aq else (false,(kV x left aq).2)
end
theorem abO(t:Tm)(left aq:Int):kV t left aq=if left - 1<0∨aq > 100 then (false,left - 1) else pH t.l (left - 1) (aq+1):=by cases t;simp only[kV];rfl

mutual
theorem G0:∀ (t:Tm) (left aq:Int),0≤left→1≤aq→((kV t left aq).1=true↔(t.size:Int)≤left∧aq+t.depth≤101)∧((kV t left aq).1=true→(kV t left aq).2=left - t.size)∧-1≤(kV t left aq).2∧(kV t left aq).2≤left
 |mk k s n l,left,aq,h0,h1=>by
  have h2:1≤(mk k s n l).depth:=by simp only[depth];omega
  simp only[kV,size,depth];split
  ·rename_i h;refine⟨⟨fun h=>DH,fun h'=>an⟩,fun h=>DH,by simp only;omega,by simp only;omega⟩
  ·rename_i h;obtain⟨h3,h4,h5,h6⟩:=Kj l (left - 1) (aq+1) an an;refine⟨?_,fun hr=>by rw[h4 hr];omega,h5,by omega⟩;rw[h3];constructor
   ·rintro ⟨h7,h8⟩;refine⟨by omega,?_⟩;rcases h8 with h8 |h8
    ·subst h8;simp only[eF];omega
    ·omega
   ·rintro⟨h7,h8⟩;exact⟨by omega,.inr an⟩
theorem Kj:∀ (l:List Tm) (left aq:Int),0≤left→1≤aq→((pH l left aq).1=true↔(ay l:Int)≤left∧(l=[]∨aq+eF l≤101))∧((pH l left aq).1=true→(pH l left aq).2=left - ay l)∧-1≤(pH l left aq).2∧(pH l left aq).2≤left
 |[],left,aq,h0,h1=>by simp only[pH,ay];exact⟨⟨fun _=>⟨by omega,by simp⟩,fun _=>by simp⟩,fun _=>by omega,by omega,by omega⟩
 |x::r,left,aq,h0,h1=>by
  obtain⟨h2,h3,h4,h5⟩:=G0 x left aq h0 h1;have hx:=size_eq x;simp only[pH,ay,eF];cases hb:(kV x left aq).1 with
  |true =>
   simp only[if_true];have h6:=h3 hb;obtain⟨h7,h8⟩:=h2.1 hb;obtain⟨g1,g2,g3,g4⟩:=Kj r (kV x left aq).2 aq an h1;refine⟨?_,fun hr=>by rw[g2 hr,h6];omega,g3,by omega⟩;rw[g1,h6];constructor
   ·rintro ⟨a,b⟩;refine⟨by omega,.inr ?_⟩;rcases b with b |b
    ·subst b;simp only[eF];omega
    ·omega
   ·rintro ⟨a,b⟩;refine⟨by omega,?_⟩;rcases b with b |b
    ·simp at b
    ·exact .inr an
  |false =>
   simp only[lL,if_false];refine⟨⟨fun h=>DH,fun ⟨a,b⟩=>?_⟩,fun h=>DH,h4,h5⟩
   have:(kV x left aq).1=true:=h2.2 (by
    rcases b with b |b
    ·simp at b
    ·exact⟨by omega,by omega⟩)
   rw[hb]at this;cases this
end
end Tm

def qv (B:ak)(M:Nat)(t:Tm):Tm × Int :=
 if jq B&&t.bS then (if decide ((bn B M t).size≤3000)&&decide ((bn B M t).depth≤100) then (bn B M t,0) else (aJ,3)) else (aJ,1)
end aw
namespace aw
open Go
end aw
namespace aw
open Go

theorem qw (b:Int × Tm)(r:ak)(v:Int):a7 (b::r) v=if b.1=v then some b.2 else a7 r v:=by
 by_cases h:b.1=v
 ·simp[a7,h]
 ·have:(b.1==v)=false:=by simpa using h
  simp[a7,this,h]
end aw
namespace aw
open Go
namespace Tm
end Tm
end aw
namespace aw
open Go

def DU (T:Tm):Tm × Int:=if decide (T.size≤3000)&&decide (T.depth≤100) then (T,0) else (aJ,3)

theorem Kk {B:ak}{M:Nat}{t:Tm}(h1:jq B=true)(h2:t.bS=true):qv B M t=DU (bn B M t):=by
 unfold qv DU;rw[h1,h2];rfl
end aw

namespace aw
open Go

variable{i j:Nat}{B:ak}
def ie (C:Nat→Nat→Bool):Nat→Nat→Nat→Bool
 |0,i,j=>C i j
 |k+1,i,j=>ie C k i j || (ie C k i k&&ie C k k j)

theorem Tf(C:Nat→Nat→Bool)(k i:Nat):ie C (k+1) i k=ie C k i k:=by
 simp only[ie];cases ie C k i k<;>simp

theorem Tg(C:Nat→Nat→Bool)(k j:Nat):ie C (k+1) k j=ie C k k j:=by
 simp only[ie];cases ie C k k j<;>simp

inductive Way (C:Nat→Nat→Bool):Nat→Nat→Prop
 |one {i j:Nat} (h:C i j=true):Way C i j
 |snoc {i j k:Nat} (h:Way C i j) (h2:C j k=true):Way C i k

theorem Way.trans{C:Nat→Nat→Bool}{i j k:Nat}(h:Way C i j)(h2:Way C j k):Way C i k:=by
 induction h2 with
 |one h3=>exact .snoc h h3
 |snoc _ h3 ih=>exact .snoc ih h3

theorem pI(C:Nat→Nat→Bool):∀ (k i j:Nat),ie C k i j=true→Way C i j
 |0,i,j,h=>.one h
 |k+1,i,j,h=>by
  simp only[ie,mS,aV]at h;rcases h with h |⟨h1,h2⟩
  ·exact pI C k i j h
  ·exact(pI C k i k h1).trans (pI C k k j h2)

theorem BJ(C:Nat→Nat→Bool)(k i j:Nat)(h:C i j=true):ie C k i j=true:=by
 induction k with
 |zero=>exact h
 |succ k ih=>simp[ie,ih]

theorem yZ(C:Nat→Nat→Bool):∀ (k m i j:Nat),m<k→ie C k i m=true→ie C k m j=true→ie C k i j=true
 |0,m,i,j,h,_,_=>by omega
 |k+1,m,i,j,h,h1,h2=>by
  have ih:=yZ C k;by_cases e:m=k
  ·subst e;rw[Tf]at h1;rw[Tg]at h2;simp[ie,h1,h2]
  ·have hm:m<k:=by omega
   simp only[ie,mS,aV]at h1 h2 ⊢;rcases h1 with h1 |⟨h1,h1'⟩<;>rcases h2 with h2 |⟨h2,MO⟩
   ·exact .inl (ih m i j hm h1 h2)
   ·exact .inr ⟨ih m i k hm h1 h2,MO⟩
   ·exact .inr ⟨h1,ih m k j hm h1' h2⟩
   ·exact .inr ⟨h1,MO⟩

theorem Ns{C:Nat→Nat→Bool}{n:Nat}(hC:∀i j,C i j=true→i<n∧j<n)(h:Way C i j):ie C n i j=true:=by
 have hj:∀ {i j:Nat},Way C i j→j<n:=fun h=>by
  cases h with
  |one h=>exact(hC _ _ h).2
  |snoc _ h=>exact(hC _ _ h).2
 induction h with
 |one h=>exact BJ C n _ _ h
 |snoc h1 h2 ih=>exact yZ C n _ _ _ (hj h1) ih (BJ C n _ _ h2)
def nu (st:List Int)(j:Nat):Prop:=st.getD j 0≠0∧st.getD j 0≠2
def qx (fG:Nat→List Nat)(i j:Nat):Bool:=(fG i).contains j

theorem BK{st:List Int}{x:Int}(hi:i<st.length):nu (st.set i x) j↔(if j=i then x≠0∧x≠2 else nu st j):=by
 unfold nu;by_cases e:j=i
 ·subst e;rw[List.getD_eq_getElem?_getD,qc hi];simp
 ·rw[if_neg e,List.getD_eq_getElem?_getD,q6 (fun h=>e h.symm),← List.getD_eq_getElem?_getD]

theorem XK(fG:Nat→List Nat)(n:Nat)(Th:∀i,∀k∈fG i,k<n):∀ (f i:Nat) (st:List Int),st.length=n→i<n→j8 st<f→(∀j,nu st j→Way (qx fG) j i) →
  ((fV fG f i st).1=true∧∀j,nu (fV fG f i st).2 j↔nu st j)∨((fV fG f i st).1=false∧∃c,Way (qx fG) c c):=by
 intro f;induction f with
 |zero=>intro i st _ _ hz;omega
 |succ f ih =>
  intro i st hl hi hz hop;simp only[fV];split
  ·rename_i eo;by_cases h2:st.getD i 0=2
   ·left;exact⟨decide_eq_true h2,fun j=>Iff.rfl⟩
   ·right;exact⟨by simp only[decide_eq_false h2],i,hop i ⟨eo,h2⟩⟩
  ·rename_i h0;have h0:st.getD i 0=0:=by simpa using h0
   have l7:i<st.length:=by omega
   have Ig:=(pE st i 1 an).2 l7 h0
   have abP:∀j,nu (st.set i 1) j→∀k∈fG i,Way (qx fG) j k:=fun j hj k hk=>by
    have he:qx fG i k=true:=by simpa[qx]using hk
    rw[BK l7]at hj;by_cases e:j=i
    ·subst e;exact .one he
    ·rw[if_neg e]at hj;exact .snoc (hop j hj) he
   have hL:∀ (L:List Nat) (Iw:List Int),Iw.length=n→j8 Iw<f→(∀ k∈L,k∈fG i)→(∀ j,nu Iw j→∀ k∈fG i,Way (qx fG) j k) →
     ((me (fV fG f) L Iw).1=true∧∀j,nu (me (fV fG f) L Iw).2 j↔nu Iw j)∨((me (fV fG f) L Iw).1=false∧∃c,Way (qx fG) c c):=by
    intro L;induction L with
    |nil=>intro Iw _ _ _ _;exact .inl ⟨rfl,fun j=>Iff.rfl⟩
    |cons k r S7 =>
     intro Iw Du Ig hk abP;have aR:=hk k aC;have eE:=pF fG f k Iw;simp only[me];rcases ih k Iw Du (Th i k aR) Ig (fun j hj=>abP j hj k aR) with ⟨h1,h2⟩ |⟨h1,h2⟩
     ·rw [if_pos h1];rcases S7 (fV fG f k Iw).2 (by rw[eE.1,Du]) an (fun x hx=>hk x tM) (fun j hj=>abP j ((h2 j).1 hj)) with ⟨h3,h4⟩ |h3
      ·exact .inl ⟨h3,fun j=>(h4 j).trans (h2 j)⟩
      ·exact .inr h3
     ·rw[if_neg AI];exact .inr ⟨rfl,h2⟩
   rcases hL (fG i) (st.set i 1) (by simp[hl]) an (fun _ h=>h) abP with ⟨h1,h2⟩ |⟨h1,h2⟩
   ·rw [if_pos h1];refine .inl ⟨rfl,fun j=>?_⟩
    have aZ:((me (fV fG f) (fG i) (st.set i 1)).2).length=n:=by
     have key:∀ (L:List Nat) (Iw:List Int),Iw.length=n→(me (fV fG f) L Iw).2.length=n:=by
      intro L;induction L with
      |nil=>intro Iw h;exact h
      |cons k r S7 =>
       intro Iw h;have eE:=pF fG f k Iw;simp only[me];split
       ·exact S7 _ (by rw[eE.1,h])
       ·rw[eE.1,h]
     exact key _ _ (by simp[hl])
    rw[BK an];by_cases e:j=i
    ·subst e; rw [if_pos rfl];constructor
     ·intro h;exact absurd rfl h.2
     ·intro h;exact absurd h0 h.1
    ·rw[if_neg e,h2 j,BK l7,if_neg e]
   ·rw[if_neg AI];exact .inr ⟨rfl,h2⟩

theorem y0(fG:Nat→List Nat)(n:Nat)(Th:∀i,∀k∈fG i,k<n):∀ (L:List Nat) (st:List Int),st.length=n→(∀i∈L,i<n)→(∀j,¬ nu st j)→kD fG n L st=false→∃c,Way (qx fG) c c
 |[],st,_,_,_,h=>by cases h
 |i::r,st,hl,hL,hop,h=>by
  have hz:j8 st<n+1:=by have:j8 st≤st.length:=Jd;omega
  have eE:=pF fG (n+1) i st;simp only[kD]at h;rcases XK fG n Th (n+1) i st hl (hL i aC) hz (fun j hj=>absurd hj (hop j)) with ⟨h1,h2⟩ |⟨_,h2⟩
  ·rw [if_pos h1] at h;exact y0 fG n Th r _ (by rw[eE.1,hl]) (fun x hx=>hL x tM) (fun j hj=>hop j ((h2 j).1 hj)) h
  ·exact h2

theorem abQ{fG:Nat→List Nat}(h:Way (qx fG) i j):∀ {m:Nat},wE fG m i→∃q,q<m∧wE fG q j:=by
 induction h with
 |one h =>
  intro m ho;cases ho with
  |@mk q _ ho=>exact⟨q,by omega,ho _ (by simpa[qx]using h)⟩
 |snoc _ h2 ih =>
  intro m ho;obtain⟨q,h3,h4⟩:=ih ho;cases h4 with
  |@mk q' _ vp=>exact⟨q',by omega,vp _ (by simpa[qx]using h2)⟩

theorem Fl{fG:Nat→List Nat}(h:Way (qx fG) i i):∀ {m:Nat},¬ wE fG m i:=by
 intro m;induction m using Nat.strongRecOn with
 |ind m ih=>intro ho;obtain⟨q,h1,h2⟩:=abQ h ho;exact ih q h1 h2

theorem QT{i k:Nat}(h:k∈fW B i):k<B.length:=by
 unfold fW at h;split at h
 ·simp only [xJ] at h;obtain⟨v,_,h2⟩:=h;split at h2
  ·cases h2
  ·rename_i hp;cases h2;rcases fF B v with ⟨h3,_⟩ |⟨j,t,h3,h4,_⟩
   ·omega
   ·rw[h3];have:=(bC.1 h4).1;simpa using this
 ·simp at h

theorem XL{i k:Nat}(h:k∈fW B i):i<B.length:=by
 unfold fW at h;split at h
 ·rename_i b hb;exact(bC.1 hb).1
 ·simp at h

def XM (B:ak)(i:Nat):Bool:=match B[i]? with
 |some b=>decide (0≤b.1)&&decide (b.1<1000000)&&decide (eM B b.1=i)&&b.2.bS
 |none=>true
def Nt (B:ak):Bool:=(List.range B.length).all (XM B)&&(List.range B.length).all fun i=>!ie (qx (fW B)) B.length i i

theorem Fm:∀ {B:ak} {v:Int},a7 B v=none→∀b∈B,b.1≠v
 |[],_,_,b,hb=>by simp at hb
 |c::B,v,h,b,hb=>by
  rw[qw]at h;split at h
  ·cases h
  ·rename_i hc;rcases eL.1 hb with rfl |hb
   ·exact hc
   ·exact Fm h b hb

theorem y1:(B.map (·.1)).Nodup↔∀ (i:Nat) (b:Int × Tm),B[i]? = some b→eM B b.1=i:=by
 constructor
 ·intro hn i b hb;rcases fF B b.1 with ⟨_,h2⟩ |⟨j,t,h1,h2,_⟩
  ·exact absurd rfl (Fm h2 b (gZ hb))
  ·rw [h1];have e1:(B.map (·.1))[i]? = some b.1:=by rw[eU,hb];rfl
   have e2:(B.map (·.1))[j]? = some b.1:=by rw[eU,h2];rfl
   obtain⟨l1,e1⟩:=bC.1 e1;obtain⟨l2,e2⟩:=bC.1 e2;have:=(aba hn).1 (e2.trans e1.symm);omega
 ·intro h;have hB:∀k,(h:k<B.length)→eM B (B[k]).1=k:=fun k hk=>h k _ (dY hk)
  refine List.pairwise_iff_getElem.2 fun i j hi hj Ti he=>?_
  simp only[List.getElem_map]at he;have g1:=hB i (by simpa using hi);have g2:=hB j PW;rw[he,g2]at g1;omega

theorem Tj(B:ak):Nt B=jq B:=by
 have Th:∀i,∀k∈fW B i,k<B.length:=fun i k hk=>QT hk
 have hE:∀i j,qx (fW B) i j=true→i<B.length∧j<B.length:=fun i j h=>by
  have h:j∈fW B i:=by simpa[qx]using h
  exact⟨XL h,QT h⟩
 have hA:((List.range B.length).all fun i=>!ie (qx (fW B)) B.length i i)=kD (fW B) B.length (List.range B.length) (List.replicate B.length 0):=by
  have h0:∀j,(List.replicate B.length (0:Int)).getD j 0=0:=fun j=>by
   rw[List.getD_eq_getElem?_getD,List.getElem?_replicate];split<;>rfl
  rw[vK];constructor
  ·intro h;cases hd:kD (fW B) B.length (List.range B.length) (List.replicate B.length 0) with
   |true=>rfl
   |false =>
    obtain⟨c,hc⟩:=y0 (fW B) B.length Th _ _ aC aC (fun j hj=>hj.1 (h0 j)) hd
    have dV:c<B.length:=by
     have key:∀ {i j:Nat},Way (qx (fW B)) i j→j<B.length:=fun h=>by
      cases h with
      |one h=>exact(hE _ _ h).2
      |snoc _ h=>exact(hE _ _ h).2
     exact key hc
    have h1:=fk.1 h c (by simpa using dV);rw[Ns hE hc]at h1;cases h1
  ·intro h;rw[fk];intro i hi;obtain⟨m,hm⟩:=wF _ _ (fun j hj=>by rw[h0]at hj;cases hj) h i hi;cases hw:ie (qx (fW B)) B.length i i with
   |false=>rfl
   |true=>exact absurd hm (Fl (pI _ _ _ _ hw))
 have hF:(List.range B.length).all (XM B)=(!decide ((yK (B.map (·.1))).length<B.length)&&pG B):=by
  have hn:(!decide ((yK (B.map (·.1))).length<B.length))=true↔(B.map (·.1)).Nodup:=by
   have:=XE (V:=B.map (·.1));rw[eS,← abN]at this;simp only[xM,decide_eq_false_iff_not];rw[this];exact Classical.not_not
  rw[vK,aV,hn,y1,fk,pG,fk];constructor
  ·intro h
   have key:∀ (i:Nat) (b:Int × Tm),B[i]? = some b→(0≤b.1∧b.1<1000000)∧eM B b.1=i∧b.2.bS=true:=fun i b hb=>by
    have:=h i (by simp;exact(bC.1 hb).1);rw[XM,hb]at this;simp only[aV,decide_eq_true_eq]at this;exact⟨this.1.1,this.1.2,this.2⟩
   refine⟨fun i b hb=>(key i b hb).2.1,fun b hb=>?_⟩;obtain⟨i,hi⟩:=uE.1 hb;obtain⟨h1,_,h3⟩:=key i b hi;simp[h1.1,h1.2,h3]
  ·rintro ⟨h1,h2⟩ i hi;have l7:i<B.length:=by simpa using hi
   have hb:B[i]? = some (B[i]'l7):=dY _;have h3:=h2 _ (gZ hb);simp only[aV,decide_eq_true_eq]at h3;rw[XM,hb];simp only[aV,decide_eq_true_eq];exact⟨⟨h3.1,h1 i _ hb⟩,h3.2⟩
 rw[Nt,hA,hF,jq]
end aw

namespace aw
open Go
abbrev Prs:=List (Tm × Tm)
def G1 (p:Tm × Tm):List D:=Tm.row p.1++Tm.row p.2
def fZ (M:Prs):List (List D):=M.map G1
theorem iE (l:Prs):(fZ l).length=l.length:=by simp[fZ]
theorem Kl {l:Prs}{i:Nat}{x:Tm × Tm}(h:l[i]? = some x):(fZ l)[i]? = some (G1 x):=by simp[fZ,h]
namespace Tm
end Tm
end aw
namespace aw
open Go
namespace Tm
end Tm
namespace Tm
end Tm
def gd (at_:List Nat)(j:Nat):Int:=((at_.getD j 0:Nat):Int)
end aw
namespace aw
open Go
end aw
namespace aw
open Go
end aw
namespace aw
open Go
end aw
namespace aw
open Go

theorem abR {t:Tm}{m d:Int}(h:-1≤m∧m<0):t.oV m d=-1:=by
 rw[Tm.M7,if_pos];simp only[Tm.qq];rw[show IntKind.i64.wrap (m - 1)=m - 1 from sK an an,decide_eq_true (by omega:m - 1<0)];rfl

theorem Tl (t:Tm){m d:Int}(h0:-1≤m)(h1:m<9223372036854775808)(h2:d≤1000):-1≤t.oV m d∧t.oV m d≤m∧(0≤t.oV m d→t.oV m d+t.size≤m∧∀x e,e∈t.gV x→e.2.s.size≤100):=by
 by_cases h:m<0
 ·rw[abR ⟨h0,h⟩];exact⟨by omega,by omega,fun h=>by omega⟩
 ·rcases Tm.Xm t m d an h1 h2 with h3 | ⟨h3,_,_,h4,h5⟩
  ·rw[h3];exact⟨by omega,by omega,fun h=>by omega⟩
  ·exact⟨by omega,by omega,fun _=>⟨h3,h5⟩⟩
end aw

namespace aw
open Go Go.RowKit Go.MapKept
variable{gd:Option (Nat × Bool)}{after:Array Edge}{dst:Option Nat}{ax:List Oper}{objs:List Ob}{w:World}{pos:String}{k:List It}{ty T:Nat}{E:bk}
abbrev Sg:=ByteArray × Int
def p6 (p:Sg):Value:=.agg #[.string p.1,.int .i64 p.2]
def sgA (p:Sg):AV:=.agg [.d (.v (.string p.1)),.d (.v (.int .i64 p.2))]
def mF (l:List (Sg × AV)):List (Value × AV):=l.map fun e=>(p6 e.1,e.2)

def DV:List (Sg × AV)→Sg→Option AV
 |[],_=>none
 |e::r,p=>if e.1=p then some e.2 else DV r p

def DW:List (Sg × AV)→Sg→AV→List (Sg × AV)
 |[],p,v=>[(p,v)]
 |e::r,p,v=>if e.1=p then (p,v)::r else e::DW r p v

structure XN (P:Program) (kt:TypeId):Prop where
 und:∃fs,P.underlying kt=some (.struct fs)
 eq:∀p q w,(Op.equal kt (p6 p) (p6 q)).run P w=.ok (decide (p=q)) w
 ck:∀b p w,(Instr.checkKey b 10000 kt (p6 p)).run P w=.ok () w

theorem BL{P:Program}{kt:TypeId}(hk:XN P kt){S:Nat→Prop}{w:World}{φ:List bB}(p:Sg):∀ {l:List (Sg × AV)} {ents:List MapEntry} {i:Nat},mT S w φ (mF l) ents →
  match DV l p with
  |none=>(Instr.findAsking kt (p6 p) ents i).run P w=.ok none w∧∀v,DW l p v=l++[(p,v)]
  |some x=>∃j v,(Instr.findAsking kt (p6 p) ents i).run P w=.ok (some (i+j,v)) w∧RV S w φ x v∧(∃f,ents[j]? = some f∧f.key=p6 p)∧j<l.length∧∀v,DW l p v=l.set j (p,v)
 |[],ents,i,h=>by
  cases ents with
  |nil=>simp[DV,Instr.findAsking,DW]
  |cons _ _=>have:=h.1;simp[mF]at this
 |e::l,ents,i,h=>by
  cases ents with
  |nil=>have:=h.1;simp[mF]at this
  |cons f ents =>
   obtain⟨h1,h2⟩:=h;simp only[mF,List.map_cons,List.cons.injEq]at h1;obtain⟨hf,h1⟩:=h1;simp only[mF,List.map_cons,aW]at h2;simp only[DV];by_cases he:e.1=p
   ·rw [if_pos he];refine⟨0,f.val,?_,h2.1,⟨f,rfl,by rw[← hf,he]⟩,by simp,fun v=>by simp only[DW];rw[if_pos he];rfl⟩;simp only[Instr.findAsking,Sem.run_bind,← hf,hk.eq,Result.andThen_ok];simp[he]
   ·rw [if_neg he];have hd:decide (p=e.1)=false:=decide_eq_false fun h=>he h.symm
    have:=BL hk p (l:=l) (ents:=ents) (i:=i+1) ⟨by simpa[mF]using h1,by simpa[mF]using h2.2⟩
    have ei:(Instr.findAsking kt (p6 p) (f::ents) i).run P w=(Instr.findAsking kt (p6 p) ents (i+1)).run P w:=by
     simp only[Instr.findAsking,Sem.run_bind,← hf,hk.eq,Result.andThen_ok,hd];simp
    cases hg:DV l p with
    |none =>
     rw[hg]at this;simp only at this ⊢;exact⟨by rw[ei];exact this.1,fun v=>by simp only[DW];rw[if_neg he,this.2];rfl⟩
    |some x =>
     rw[hg]at this;simp only at this ⊢;obtain⟨j,v,g1,g2,⟨f',g3,g4⟩,g5,g6⟩:=this;refine⟨j+1,v,by rw[ei,g1,Nat.add_assoc,Nat.add_comm 1 j],g2,⟨f',by rw[Sp];exact g3,g4⟩,by simp only[dv];omega,fun v=>by simp only[DW];rw[if_neg he,g6];rfl⟩

theorem wH{P:Program}{kt:TypeId}(hk:XN P kt)(p:Sg){ents:List MapEntry}(h:ents=[]∨∃q,∃f r,ents=f::r∧f.key=p6 q):(Instr.findKey kt (p6 p) ents).run P w=(Instr.findAsking kt (p6 p) ents 0).run P w:=by
 obtain⟨fs,hu⟩:=hk.und;rcases h with rfl |⟨q,f,r,rfl,hf⟩
 ·simp[Instr.findKey,run_underlying hu,Instr.findNow,Instr.findAsking]
 ·simp[Instr.findKey,run_underlying hu,Instr.findNow,Instr.sameNow,p6]

theorem BM{S:Nat→Prop}{φ:List bB}{l:List (Sg × AV)}{ents:List MapEntry}(h:mT S w φ (mF l) ents):ents=[]∨∃q,∃f r,ents=f::r∧f.key=p6 q:=by
 cases ents with
 |nil=>exact .inl rfl
 |cons f r =>
  cases l with
  |nil=>have:=h.1;simp[mF]at this
  |cons e l =>
   have:=h.1;simp only[mF,List.map_cons,List.cons.injEq]at this;exact .inr ⟨e.1,f,r,rfl,this.1.symm⟩

theorem abS(p:Sg):Instr.sameBits 10000 (p6 p) (p6 p)=true:=by
 simp[p6,Instr.sameBits,bytes_beq]

theorem DX{P:Program}(p:Sg):(Instr.keyThatStays (p6 p) (p6 p)).run P w=.ok (p6 p) w:=by
 simp[Instr.keyThatStays,abS]
section
variable {g:G} {pf:Nat→cC} {ad:Array Oper} {Fin:Exit→Act→World→Prop}

theorem QU{S:Nat→Prop}{φ:List bB}{p:Sg}{v:Value}(h:RV S w φ (sgA p) v):v=p6 p:=by
 simp only[sgA,RV]at h;obtain⟨cs,rfl,h⟩:=h
 match cs,h with
 |[x,y],h =>
  simp only[aW,RV,and_true]at h;obtain⟨h1,h2⟩:=h;cases h1;cases h2;rfl
 |[],h=>simp[aW]at h
 |[_],h=>simp[aW]at h
 |_::_::_::_,h=>simp[aW]at h

theorem QV{S:Nat→Prop}{w:World}{φ:List bB}{x:AV}{u:Value}:∀ {l:List AV} {vs:List Value} (j:Nat),aW S w φ l vs→RV S w φ x u→aW S w φ (l.set j x) (vs.set j u)
 |[],[],_,_,_=>by simp[aW]
 |[],_::_,_,h,_=>by simp[aW]at h
 |_::_,[],_,h,_=>by simp[aW]at h
 |a::l,b::vs,0,h,hx=>by simp only[aW,agp]at h ⊢;exact⟨hx,h.2⟩
 |a::l,b::vs,j+1,h,hx=>by simp only[aW,V5]at h ⊢;exact⟨h.1,QV j h.2 hx⟩

theorem qU{α:Type}(f:α→α):∀ (l:List α) (j:Nat) (x:α),l[j]? = some x→l.modify j f=l.set j (f x)
 |[],j,x,h=>by simp at h
 |a::l,0,x,h=>by simp at h;subst h;rfl
 |a::l,j+1,x,h=>by
  simp at h;simp only[List.modify_succ_cons,V5];rw[qU f l j x h]

theorem ahB(hg:c9 g){x y v:Operand}
  {i q cj kt et:Nat} {z:List Value} {v':AV} (p:Sg) (l l':List (Sg × AV)) (hk:XN g.P kt)
  (bm:aG ad.toList E gd=some true) (hd:aO ⟨g.ty,g.N⟩ dst=true) (hx:ev E x=.mp i) (ho:dk objs i=some (.map (mF l))) (hy:ev E y=sgA p) (hT:g.ty T=some ⟨q,cj,z,.map kt et⟩)
  (hv:bM (ev E v) v') (hl:DW l p v'=l')
  (hr:R g pf Fin (.dr ad ax::k) (bf E dst .any) (da objs i (.map (mF l')))):R g pf Fin (.dr ad (⟨dst,.mapUpdate T x y v,ty,pos,after,gd⟩::ax)::k) E objs:=by
 subst hl;refine cL (aI.eT hg (pr ho) bm hd aC fun φ a' w hρ hs=>?_) hr;simp only[Op.operands]at hρ;have aN:=hρ x aC;rw[hx]at aN;have ew:=hρ y aC;rw[hy]at ew;have oA:=QU ew;have hvv:=hv _ _ _ _ (hρ v aC);simp only[RV]at aN;obtain⟨b',hb,aN⟩:=aN;have sR:=cG hs hb ho;simp only[bd]at sR;obtain⟨ents,iY,bc,dC⟩:=sR;have kX:g.P.underlying T=some (.map kt et):=by have:=(hg.ty _ _ hT).sh;simpa only[bA]using this
 have cU:=BL hk p (i:=0) dC;have Vg:=wH hk (w:=w) p (BM dC);rw[bq];cases xD:DV l p with
 |none =>
  rw[xD]at cU;simp only at cU;obtain⟨cU,al0⟩:=cU;rw[al0];have kT:=heap_set (o':=.map (ents.push { key:=p6 p,val:=a'.eval v,born:=iY }) (iY+1)) bc;refine⟨.skip,undef,{ w with heap:=w.heap.setIfInBounds b' (.map (ents.push { key:=p6 p,val:=a'.eval v,born:=iY }) (iY+1)) },φ.set i (.js b'),?_,.inr ⟨rfl,rfl⟩,by simp[RV],?_⟩
  ·simp[execOp,Instr.mapUpdate,run_underlying kX,aN,run_getObj_map bc,oA,hk.ck,Vg,cU,run_setObj_map _ bc]
  ·refine jJ.swap hs hb (.inl rfl) aC (fun c _ hc=>kT.2 c fun e=>hc Gc) (fun b' hb=>.inl hb) rfl rfl rfl fun bx hle=>?_
   simp only[bd];refine⟨_,_,kT.1,?_,?_⟩
   ·have:=dC.1;simp only[mF,List.map_append,jw,List.map_cons,fj,Je]at this ⊢;rw[this]
   ·have:=(dC.2.mono bx hle).append (l':=[v']) (vs':=[a'.eval v]) Sb;simpa[mF]using this
 |some x0 =>
  rw[xD]at cU;simp only at cU;obtain⟨j,vv,h1,h2,⟨f,h3,h4⟩,h5,h6⟩:=cU;rw[MF]at h1;rw[h6];obtain⟨f',hf'⟩:∃f':MapEntry→MapEntry,f'=fun e=>{ e with key:=p6 p,val:=a'.eval v }:=⟨_,rfl⟩
  have kT:=heap_set (o':=.map (ents.modify j f') iY) bc;have h3':ents[j]? = some f:=by simpa using h3
  refine⟨.skip,undef,{ w with heap:=w.heap.setIfInBounds b' (.map (ents.modify j f') iY) },φ.set i (.js b'),?_,.inr ⟨rfl,rfl⟩,by simp[RV],?_⟩
  ·simp[execOp,Instr.mapUpdate,run_underlying kX,aN,run_getObj_map bc,oA,hk.ck,Vg,h1,h3',h4,DX,run_setObj_map _ bc,hf']
  ·refine jJ.swap hs hb (.inl rfl) aC (fun c _ hc=>kT.2 c fun e=>hc Gc) (fun b' hb=>.inl hb) rfl rfl rfl fun bx hle=>?_
   simp only[bd]
   have hml:(ents.modify j f').toList=ents.toList.set j (f' f):=by
    rw[Array.toList_modify,qU f' _ _ f h3]
   refine⟨_,_,kT.1,?_,?_⟩
   ·have:=dC.1;rw[hml];simp only[mF,jw,List.map_set]at this ⊢;rw[this,hf']
   ·have:=QV j (dC.2.mono bx hle) (hvv.mono bx hle);rw[hml];simp only[mF,jw,List.map_set]at this ⊢;rw[show (f' f).val=a'.eval v by rw[hf']];exact this

structure Nu (P:Program) (T:Nat):Prop where
 eql:∀ (x y:Operand) (p q:Sg) (w:World),((do eqGuard .eql T x y (p6 p) (p6 q);binOp .eql T (p6 p) (p6 q)):Sem Value).run P w=.ok (.bool (decide (p=q))) w
 neq:∀ (x y:Operand) (p q:Sg) (w:World),((do eqGuard .neq T x y (p6 p) (p6 q);binOp .neq T (p6 p) (p6 q)):Sem Value).run P w=.ok (.bool (!decide (p=q))) w

theorem QW(hg:c9 g)(p q:Sg){T T':Nat}{x y:Operand}(hc:Nu g.P T)
  (bm:aG ad.toList E gd=some true) (hd:aO ⟨g.ty,g.N⟩ dst=true) (hx:ev E x=sgA p) (hy:ev E y=sgA q)
  (hr:R g pf Fin (.dr ad ax::k) (bf E dst (bV (decide (p=q)))) objs):R g pf Fin (.dr ad (⟨dst,.binOp .eql T x y T',ty,pos,after,gd⟩::ax)::k) E objs:=by
 refine cL (aI.up (aI.quiet hg bm hd aC fun φ objs w' w hρ fh=>?_)) hr;simp only[Op.operands]at hρ;have aN:=hρ x aC;rw[hx]at aN;have ew:=hρ y aC;rw[hy]at ew;have ex:=QU aN;have ey:=QU ew;refine aY fh (vv:=.bool (decide (p=q))) ?_ (by simp only[bV,RV];exact .v _);have h2:=hc.eql x y p q w;simp only[Sem.run_bind]at h2;simp only[execOp,Sem.run_bind,ex,ey];have e:∀ (r1:Result Unit) (f:Unit→World→Result Value),(r1.andThen f).andThen (fun v w'=>.ok (Next.value v) w')=r1.andThen fun u w'=>(f u w').andThen (fun v w'=>.ok (Next.value v) w'):=fun r1 f=>by cases r1<;>rfl
 rw[h2];rfl

theorem BN(hg:c9 g){x y:Operand}{ok:Bool}
  {q cj kt et:Nat} {ds:List (Value × D)} {z:List Value} {zv:Value} (p:Sg) (l:List (Sg × AV)) (hl:ds.map (fun p=>(p.1,AV.d p.2))=mF l) (hk:XN g.P kt)
  (bm:aG ad.toList E gd=some true) (hd:aO ⟨g.ty,g.N⟩ dst=true) (hx:ev E x=.d (.map ds)) (hy:ev E y=sgA p) (hT:g.ty T=some ⟨q,cj,z,.map kt et⟩)
  (hz:(g.P.info? et).bind (·.zero)=some zv) {v:AV} (hv:jn ok (lO zv) (DV l p)=v)
  (hr:R g pf Fin (.dr ad ax::k) (bf E dst v) objs):R g pf Fin (.dr ad (⟨dst,.lookup T x y ok,ty,pos,after,gd⟩::ax)::k) E objs:=by
 subst hv;refine cL (aI.quiet hg bm hd aC fun φ bP a w hρ hs=>?_) hr;simp only[Op.operands]at hρ;have aN:=hρ x aC;rw[hx]at aN;have ew:=hρ y aC;rw[hy]at ew;have oA:=QU ew;simp only[RV]at aN;generalize QF:a.eval x=vx at aN
 obtain⟨b,ents,iY,rfl,bc,dC⟩:∃ (b:Nat) (ents:Array MapEntry) (iY:Nat),vx=.map (some b)∧w.heap[b]? = some (.map ents iY)∧mT (SS g.S0 φ) w φ (ds.map fun p=>(p.1,AV.d p.2)) ents.toList:=by
  cases aN with
  |map g' hS hb hk xD Dv =>
   refine⟨_,_,_,rfl,hb,by simpa[jw,Function.comp_def]using hk,?_⟩;have aZ:=congrArg List.length hk;simp only[eS,Array.length_toList]at aZ;refine aW.rG (by simpa using aZ) fun j u v hu hv=>?_
   rw[eU,eU]at hu;cases hj:ds[j]? with
   |none=>rw[hj]at hu;cases hu
   |some x =>
    rw[hj]at hu;simp at hu;subst hu;rw[eU,Array.getElem?_toList,xD j x hj]at hv;cases hv;simpa only[RV]using Dv j x hj
 rw[hl]at dC;have kX:g.P.underlying T=some (.map kt et):=by have:=(hg.ty _ _ hT).sh;simpa only[bA]using this
 have hzero:(zeroValue et).run g.P w=.ok zv w:=by
  exact Wq
 have hzR:RV (SS g.S0 φ) w φ (lO zv) zv:=ia (l:=[]) (E:=[]) (E₁:=[]) (a:={ tmps:=#[],defers:=[] }) aC (fun t=>by simp[lk,RV]) (.const zv);have cU:=BL hk p (i:=0) dC;have Vg:=wH hk (w:=w) p (BM dC);cases xD:DV l p with
 |none =>
  rw[xD]at cU;simp only at cU;refine aY hs (vv:=if ok then .tuple #[zv,.bool false] else zv) ?_ ?_
  ·simp[execOp,Instr.lookup,run_underlying kX,QF,run_getObj_map bc,oA,hk.ck,Vg,cU.1,hzero]
  ·simp only [jn];cases ok
   ·simpa using hzR
   ·simp only [if_true,RV];exact Wp
 |some x =>
  rw[xD]at cU;simp only at cU;obtain⟨j,vv,h1,h2,_⟩:=cU;refine aY hs (vv:=if ok then .tuple #[vv,.bool true] else vv) ?_ ?_
  ·simp[execOp,Instr.lookup,run_underlying kX,QF,run_getObj_map bc,oA,hk.ck,Vg,h1]
  ·simp only [jn];cases ok
   ·simpa using h2
   ·simp only [if_true,RV];exact Wr
end
end aw

namespace aw
open Go

inductive Gl where
 |mk (k:Int) (t:Tm) (a b c:List Gl)
variable{ty:Nat→Option Ty}{g:Gl}{T:Nat}
namespace Gl
def k:Gl→Int |mk k _ _ _ _=>k
def t:Gl→Tm |mk _ t _ _ _=>t
def a:Gl→List Gl |mk _ _ a _ _=>a
def b:Gl→List Gl |mk _ _ _ b _=>b
def c:Gl→List Gl |mk _ _ _ _ c=>c

theorem ind{p:Gl→Prop}(h:∀g:Gl,(∀x∈g.a,p x)→(∀x∈g.b,p x)→(∀x∈g.c,p x)→p g)(g:Gl):p g :=
 Gl.rec (motive_1:=p) (motive_2:=fun l=>∀x∈l,p x) (fun k t a b c ha hb hc=>h (.mk k t a b c) ha hb hc) aC (fun x r h1 h2=>by
  intro y hy;rcases eL.1 hy with rfl |hy
  ·exact h1
  ·exact h2 y hy) g

theorem Nv{p:List Gl→Prop}(h:∀l:List Gl,(∀x∈l,p x.a∧p x.b∧p x.c)→p l)(l:List Gl):p l:=by
 have key:∀g:Gl,p g.a∧p g.b∧p g.c:=fun g=>ind (p:=fun g=>p g.a∧p g.b∧p g.c) (fun g h1 h2 h3=>⟨h _ h1,h _ h2,h _ h3⟩) g
 exact h l fun x _=>key x

mutual
def M6:Gl→List D
 |mk k t a b c=>[.v (.int .i64 k),.v (.int .i64 t.k),.v (.string t.s),.v (.int .i64 t.n),.sl (Tm.aa t.l),.sl (aa a),.sl (aa b),.sl (aa c)]
def aa:List Gl→List (List D)
 |[]=>[]
 |g::r=>M6 g::aa r
end
def row (g:Gl):List D:=[.v (.int .i64 g.k),.v (.int .i64 g.t.k),.v (.string g.t.s),.v (.int .i64 g.t.n),.sl (Tm.aa g.t.l),.sl (aa g.a),.sl (aa g.b),.sl (aa g.c)]
theorem GK(g:Gl):M6 g=row g:=by cases g;simp only[M6,row,k,t,a,b,c]

theorem dZ(l:List Gl):aa l=l.map row:=by
 induction l with
 |nil=>rfl
 |cons x r ih=>simp only[aa,GK,List.map_cons,ih]
theorem au(l:List Gl):(aa l).length=l.length:=by rw[dZ];simp
theorem aB{l:List Gl}{i:Nat}{x:Gl}(h:l[i]? = some x):(aa l)[i]? = some (row x):=by rw[dZ,eU,h];rfl

mutual
def size:Gl→Nat
 |mk _ t a b c=>t.size+ay a+ay b+ay c
def ay:List Gl→Nat
 |[]=>0
 |g::r=>size g+ay r
end
theorem size_eq(g:Gl):g.size=g.t.size+ay g.a+ay g.b+ay g.c:=by cases g;simp only[size,t,a,b,c]
theorem y2(t:Tm):1≤t.size:=by cases t;simp only[Tm.size];omega
theorem size_pos(g:Gl):1≤g.size:=by rw[size_eq];have:=y2 g.t;omega

theorem pJ(l:List Gl):l.length≤ay l:=by
 induction l with
 |nil=>simp
 |cons x r ih=>simp only[ay,dv];have:=size_pos x;omega

theorem ct{l:List Gl}{x:Gl}(h:x∈l):x.size≤ay l:=by
 induction l with
 |nil=>cases h
 |cons y r ih =>
  simp only[ay];rcases eL.1 h with rfl |h
  ·omega
  ·have:=ih h;omega

inductive Ok:Gl→Prop
 |mk {k:Int} {t:Tm} {a b c:List Gl}:jt k→t.Ok∧t.Fit→a.length≤140737488355328→b.length≤140737488355328→c.length≤140737488355328→(∀x∈a,Ok x)→(∀x∈b,Ok x)→(∀x∈c,Ok x)→Ok (.mk k t a b c)
theorem Ok.tm(h:g.Ok):g.t.Ok∧g.t.Fit:=by cases h;assumption
theorem Ok.la(h:g.Ok):g.a.length≤140737488355328:=by cases h;assumption
theorem Ok.lb(h:g.Ok):g.b.length≤140737488355328:=by cases h;assumption
theorem Ok.lc(h:g.Ok):g.c.length≤140737488355328:=by cases h;assumption
theorem Ok.ma(h:g.Ok):∀x∈g.a,Ok x:=by cases h;assumption
theorem Ok.mb(h:g.Ok):∀x∈g.b,Ok x:=by cases h;assumption
theorem Ok.mc(h:g.Ok):∀x∈g.c,Ok x:=by cases h;assumption
end Gl

structure Cs where
 head:Tm
 body:List Gl
 vars:Int
namespace Cs
def row (x:Cs):List D:=[.v (.int .i64 x.head.k),.v (.string x.head.s),.v (.int .i64 x.head.n),.sl (Tm.aa x.head.l),.sl (Gl.aa x.body),.v (.int .i64 x.vars)]
def aa (l:List Cs):List (List D):=l.map row
theorem kE(l:List Cs):(aa l).length=l.length:=by simp[aa]
theorem aB{l:List Cs}{i:Nat}{x:Cs}(h:l[i]? = some x):(aa l)[i]? = some (row x):=by simp[aa,h]
def av (x:Cs):AV:=.agg [.d (.v (.int .i64 x.head.k)),.d (.v (.string x.head.s)),.d (.v (.int .i64 x.head.n)),.d (.sl (Tm.aa x.head.l)),.d (.sl (Gl.aa x.body)),.d (.v (.int .i64 x.vars))]
def size (x:Cs):Nat:=x.head.size+Gl.ay x.body

def ay:List Cs→Nat
 |[]=>0
 |x::r=>size x+ay r

structure Ok (x:Cs):Prop where
 head:x.head.Ok∧x.head.Fit
 vars:jt x.vars
 len:x.body.length≤140737488355328
 body:∀g∈x.body,g.Ok
end Cs

def Dx (l:List Cs):AV:=.agg [.d (.sl (Cs.aa l))]

structure uZ (ty:Nat→Option Ty) (T TT:Nat):Prop where
 ex:∃ (a s:Nat) (τ τa τs:Ty),ty T=some τ∧τ.sh=.struct [(0,a),(1,TT),(5,s),(6,s),(7,s)]∧τ.size=8∧1≤τ.bytes∧ty a=some τa∧τa.sh=.int .i64∧ty s=some τs∧τs.sh=.slice T

def QX (ty:Nat→Option Ty)(T TT:Nat):Bool :=
 match ty T with
 |some ⟨8,cj,_,.struct [(0,a),(1,T'),(5,s),(6,s'),(7,s'')]⟩=>Nat.ble 1 cj&&(match ty a with |some ⟨_,_,_,.int .i64⟩=>true |_=>false)&&(match ty s with |some ⟨_,_,_,.slice T2⟩=>Nat.beq T2 T |_=>false)&&Nat.beq T' TT&&Nat.beq s' s&&Nat.beq s'' s
 |_=>false

theorem Nw{T TT:Nat}(h:QX ty T TT=true):uZ ty T TT:=by
 unfold QX at h;split at h
 case h_2=>cases h
 rename_i cj z a T' s s' s'' hT;simp only[aV]at h;obtain⟨⟨⟨⟨⟨h0,h1⟩,h2⟩,h3⟩,h4⟩,h5⟩:=h;split at h1
 case h_2=>cases h1
 rename_i ha;split at h2
 case h_2=>cases h2
 rename_i hs;have:=cp h2;subst this;have:=cp h3;subst this;have:=cp h4;subst this;have:=cp h5;subst this;exact⟨a,_,_,_,_,hT,rfl,rfl,ke h0,ha,rfl,hs,rfl⟩

theorem G2{T S B:Nat}{τ τs:Ty}(hτ:ty T=some τ)(J7:1≤τ.bytes)(hs:ty S=some τs)(fh:τs.sh=.slice T)(hB:B≤140737488355328)(n:Nat)(ih:∀m,m≤n→∀row,cV ty B m T row→∃g:Gl,row=g.row∧g.Ok)(row:List D)(h:cV ty B (n+1) S row) :
  ∃l:List Gl,row=[.sl (Gl.aa l)]∧l.length≤140737488355328∧∀x∈l,x.Ok:=by
 obtain⟨aa,rfl,aZ,eA⟩:=ta hs fh h
 have hch:∃l:List Gl,aa=l.map Gl.row∧∀x∈l,x.Ok:=by
  clear aZ h;induction aa with
  |nil=>exact⟨[],rfl,by simp⟩
  |cons r aa S7 =>
   obtain⟨g,h1,h2⟩:=ih n cP r (eA r aC);obtain⟨l,Du,j3⟩:=S7 fun r hr=>eA r (by simp[hr])
   exact⟨g::l,by simp[h1,Du],by simpa using ⟨h2,j3⟩⟩
 obtain⟨l,rfl,hl⟩:=hch;refine⟨l,by rw[Gl.dZ],?_,hl⟩;have:=aZ τ hτ;rw[eS]at this;exact tP (We _ J7) (tP this hB)

theorem al1{T TT B:Nat}(hT:rP ty TT)(hG:uZ ty T TT)(hB:B≤140737488355328):∀ (n:Nat) (row:List D),cV ty B n T row→∃g:Gl,row=g.row∧g.Ok:=by
 obtain⟨a,s,τ,τa,τs,h1,h2,h3,J7,ha,ha',hs,fh⟩:=hG.ex;intro n;induction n using Nat.strongRecOn with
 |_ n ih =>
 intro row h;cases n with
 |zero=>simp[cV]at h
 |succ n =>
  simp only[cV,h1,h2,wz]at h;obtain⟨_,ra,_,g1,rfl,g2,g3,_,rb,_,g4,rfl,g5,g6,_,rc,_,g7,rfl,g8,g9,_,rd,_,g10,rfl,g11,g12,_,re,_,g13,rfl,g14,g15,rfl⟩:=h;rw[ha]at g1;cases g1;rw[hs]at g7;cases g7;rw[hs]at g10;cases g10;rw[hs]at g13;cases g13;obtain⟨k,rfl,hk⟩:=wB ha ha' g3;obtain⟨t,rfl,ht⟩:=ae5 hT hB n rb g6;cases n with
  |zero=>simp[cV]at g9
  |succ n =>
   have ih':∀m,m≤n→∀row,cV ty B m T row→∃g:Gl,row=g.row∧g.Ok:=fun m hm=>ih m an
   obtain⟨la,rfl,a1,a2⟩:=G2 h1 J7 hs fh hB n ih' rc g9;obtain⟨lb,rfl,b1,b2⟩:=G2 h1 J7 hs fh hB n ih' rd g12;obtain⟨lc,rfl,c1,c2⟩:=G2 h1 J7 hs fh hB n ih' re g15;refine⟨.mk k t la lb lc,by simp[Gl.row,Tm.row,Gl.k,Gl.t,Gl.a,Gl.b,Gl.c],.mk hk ht a1 b1 c1 a2 b2 c2⟩

structure pK (ty:Nat→Option Ty) (T TT TG:Nat):Prop where
 ex:∃ (s a:Nat) (τ τs τa:Ty),ty T=some τ∧τ.sh=.struct [(0,TT),(4,s),(5,a)]∧τ.size=6∧1≤τ.bytes∧ty a=some τa∧τa.sh=.int .i64∧ty s=some τs∧τs.sh=.slice TG

def Fo (ty:Nat→Option Ty)(T TT TG:Nat):Bool :=
 match ty T with
 |some ⟨6,cj,_,.struct [(0,T'),(4,s),(5,a)]⟩=>Nat.ble 1 cj&&(match ty a with |some ⟨_,_,_,.int .i64⟩=>true |_=>false)&&(match ty s with |some ⟨_,_,_,.slice T2⟩=>Nat.beq T2 TG |_=>false)&&Nat.beq T' TT
 |_=>false

theorem G3{T TT TG:Nat}(h:Fo ty T TT TG=true):pK ty T TT TG:=by
 unfold Fo at h;split at h
 case h_2=>cases h
 rename_i cj z T' s a hT;simp only[aV]at h;obtain⟨⟨⟨h0,h1⟩,h2⟩,h3⟩:=h;split at h1
 case h_2=>cases h1
 rename_i ha;split at h2
 case h_2=>cases h2
 rename_i hs;have:=cp h2;subst this;have:=cp h3;subst this;exact⟨_,_,_,_,_,hT,rfl,rfl,ke h0,ha,rfl,hs,rfl⟩

theorem ae8{T TT TG B:Nat}(hT:rP ty TT)(hG:uZ ty TG TT)(hC:pK ty T TT TG)(hB:B≤140737488355328)(n:Nat)(row:List D)(h:cV ty B n T row):∃x:Cs,row=x.row∧x.Ok:=by
 obtain⟨s,a,τ,τs,τa,h1,h2,h3,J7,ha,ha',hs,fh⟩:=hC.ex;obtain⟨_,_,τg,_,_,q1,_,_,q4,_⟩:=hG.ex;cases n with
 |zero=>simp[cV]at h
 |succ n =>
  simp only[cV,h1,h2,wz]at h;obtain⟨_,ra,_,g1,rfl,g2,g3,_,rb,_,g4,rfl,g5,g6,_,rc,_,g7,rfl,g8,g9,rfl⟩:=h;rw[ha]at g7;cases g7;obtain⟨t,rfl,ht⟩:=ae5 hT hB n ra g3;obtain⟨v,rfl,hv⟩:=wB ha ha' g9;cases n with
  |zero=>simp[cV]at g6
  |succ n =>
   obtain⟨l,rfl,l1,l2⟩:=G2 q1 q4 hs fh hB n (fun m _ row h=>al1 hT hG hB m row h) rb g6;exact⟨⟨t,l,v⟩,by simp[Cs.row,Tm.row],⟨ht,hv,l1,l2⟩⟩
section
variable {ty:Nat→Option Ty} {T TT TG TS B:Nat} {n:Nat} {τ:Ty} {row:List D} {a:AV}

theorem ahC(hT:rP ty TT)(hG:uZ ty TG TT)(hC:pK ty T TT TG)(hB:B≤140737488355328)(hτ:ty T=some τ)(h:cV ty B n T row)(ha:a=uT τ row):∃x:Cs,a=x.av∧x.Ok:=by
 obtain⟨x,rfl,hx⟩:=ae8 hT hG hC hB n row h;refine⟨x,?_,hx⟩;obtain⟨_,_,τ',_,_,g1,g2,_⟩:=hC.ex;rw[hτ]at g1;cases g1;rw[ha];unfold uT Ty.agg;rw[g2];rfl

theorem XO{TC TP s:Nat}{τs:Ty}(hT:rP ty TT)(hG:uZ ty TG TT)(hC:pK ty TC TT TG)(hB:B≤140737488355328)(hτ:ty TP=some τ)(eE:τ.sh=.struct [(0,s)])(hs:ty s=some τs)(Qb:τs.sh=.slice TC)(h:cV ty B n TP row)(ha:a=uT τ row):∃l:List Cs,a=Dx l∧(∀x∈l,x.Ok)∧l.length≤140737488355328:=by
 obtain⟨_,_,τc,_,_,q1,_,_,q4,_⟩:=hC.ex;cases n with
 |zero=>simp[cV]at h
 |succ n =>
  simp only[cV,hτ,eE,wz]at h;obtain⟨_,ra,_,g1,rfl,g2,g3,rfl⟩:=h;rw[hs]at g1;cases g1;cases n with
  |zero=>simp[cV]at g3
  |succ n =>
   obtain⟨aa,rfl,aZ,eA⟩:=ta hs Qb g3
   have hch:∃l:List Cs,aa=Cs.aa l∧∀x∈l,x.Ok:=by
    clear aZ g3 g2 ha;induction aa with
    |nil=>exact⟨[],rfl,by simp⟩
    |cons r aa S7 =>
     obtain⟨g,h1,h2⟩:=ae8 hT hG hC hB n r (eA r aC);obtain⟨l,Du,j3⟩:=S7 fun r hr=>eA r (by simp[hr])
     exact⟨g::l,by simp[Cs.aa,h1,Du],by simpa using ⟨h2,j3⟩⟩
   obtain⟨l,rfl,hl⟩:=hch;refine⟨l,?_,hl,?_⟩
   ·rw[ha];unfold uT Ty.agg;rw[eE];rfl
   ·have:=aZ τc q1;rw[Cs.kE]at this;exact tP (We _ q4) (tP this hB)
end
end aw

namespace Go.Proofs.YtaagocopollacaaGreatDoor
open Go aw Go.Proofs Go.ChangeShapes Go.WideShapes Go.ChangeAt Go.RowKit
theorem aoV:ownKnob Tryz.prog.godebug=none:=by kernel_rfl
theorem al2:laidOutB Tryz.prog=true:=by kernel_rfl
theorem isTerm:rP tyT.get 27:=Nq cX
theorem XP:uZ tyT.get 86 27:=Nw cX
theorem Km:pK tyT.get 30 27 86:=G3 cX

def u0:List Nat:=[3,9,4,27,25,203,174,5,86,28,30,22,24]

theorem XQ:∀t∈u0,dT tyT.get u0 t=true:=by
 have h:u0.all (fun t=>dT tyT.get u0 t)=true:=by kernel_rfl
 exact fun t ht=>fk.1 h t ht
theorem QY:reachBytes≤140737488355328:=by decide
end Go.Proofs.YtaagocopollacaaGreatDoor

namespace aw
open Go Go.Proofs Go.RowKit

theorem qy {H:Type}{enc:TypeId × Value→H}{a:Assume}{C:Checked}{os:Os}{f:FuncId}{fn:Func}{s:ChangeSpec}{conds:List PathCond}{apart az handsOn again:Bool}{X:World→Array Value→Prop}
  (hX:∀ (w w':World) (args:Array Value),w.heap=w'.heap→X w args→X w' args)
  (own:ownKnob C.prog.godebug=none) (started:os.Started) (ahD:C.prog.inits.idxOf? f=none) (hfn:C.prog.funcs[f]? = some fn)
  (witness:∃ (w:World) (tape:Tape) (i:Input),w.os=os∧(w.forCall tape i).Shaped C.prog∧i.vars=[]∧Input.okWide C.prog (w.forCall tape i) .any w.heap.size f i ∧
   ((s.pre enc C.prog fn conds apart (w.forCall tape i).memory i.args∧X (w.forCall tape i).memory i.args)∧sizedMet enc C.prog fn (OpenSpec.ofChange s) apart (w.forCall tape i).memory i.args)∧a.holds C.prog (lone (Frame.enter C.prog f i.args .normal) [] (w.forCall tape i)))
  (XS:∀ (W:World) (base:Nat) (args:Array Value) (ds gs:List (DataW H)) (before:List MemPlace),
   (∀ (j:Nat) t v,fn.params[j]? = some t→args[j]? = some v→Value.okWide C.prog W .any base t v) →
   DataW.Whole enc C.prog fn.params.toList s.vars apart W args.toList ds gs before →
   (DataW.weightsEach C.prog (fn.params.toList++s.plain.varTypes C.prog) (ds++gs)).all (· ≤ reachBytes)=true→X W args→W.ShapedOpen C.prog →
   Calls C.prog f args W fun e W'=>∃v,e=.returned v∧s.post enc C.prog fn apart az handsOn again W args v W') :
  ReturnsInHanded a C os f .any (fun w args=>(s.pre enc C.prog fn conds apart w args∧X w args)∧sizedMet enc C.prog fn (OpenSpec.ofChange s) apart w args) (s.post enc C.prog fn apart az handsOn again):=by
 refine returnsInHanded_of_calls own started ahD witness ?_;intro w tape i _ eE _ dw q7 _;obtain⟨_,_,_,fn',aoW,_,_,_,_,ahE⟩:=dw;have e:fn'=fn:=Option.some.inj (aoW.symm.trans hfn);subst e;obtain⟨⟨⟨ds,gs,before,hw,_⟩,hx⟩,hz⟩:=q7;have hw':=DataW.Whole.of_heap (w':=w.forCall tape i) vH hw;refine(XS (w.forCall tape i) w.heap.size i.args ds gs before ahE hw' (hz.weights hw) (hX _ _ _ vH hx) eE).mono fun e W' ⟨v,he,hp⟩=>?_
 subst he;exact ChangeSpec.post_blind hp

theorem Tn {P:Program}{W:World}{x:String}{zs:List Int}{k:IntKind}{i t e n:Nat}
  (hg:P.globalNamed x=some i) (hi:(P.globals[i]?).map (·.type)=some t) (ht:P.underlying t=some (.array n e)) (he:P.underlying e=some (.int k)) (hc:P.cellsOf e=1) (hct:P.cellsOf t=n) :
  ∀ {l:List (String × DataW Unit)} {ps:List MemPlace},DataW.LaidVars P W l ps→(x,DataW.agg (zs.map fun z=>.lit (.int k z)))∈l→W.var? P x=some (zs.map fun z=>Value.int k z).toArray:=by
 intro l;induction l with
 |nil=>intro ps _ hm;cases hm
 |cons y r ih =>
  intro ps h hm;obtain⟨nm,d⟩:=y;obtain⟨g,t',cs,ab,p,q,a1,a2,a3,a4,a5,_⟩:=h;rcases eL.1 hm with hm |hm
  ·obtain ⟨rfl,rfl⟩:=Prod.mk.inj hm;obtain rfl:=Option.some.inj (hg.symm.trans a1);obtain rfl:=Option.some.inj (hi.symm.trans a2);obtain⟨xs,m,_,ex,aZ,hl,hel⟩:=DataW.trod_array ht a4;rw[hct]at aZ;have e3:xs.map (·.1)=zs.map fun z=>DataW.lit (.int k z):=(DataW.agg.inj (Prod.mk.inj ex).1).symm
   have Jh:zs.length=n:=by have:=congrArg List.length e3;simp at this;omega
   rw[a3];congr 1;obtain⟨cl⟩:=cs;congr 1;have aZ:cl.length=n:=aZ;refine List.ext_getElem zw fun j h1 h2=>?_
   have h3:j<n:=by omega
   have hE:=hel j h3;rw[hc,Nat.mul_one,dY an]at hE;obtain⟨z,e1,e2,_⟩:=DataW.trod_int he hE;have e4:(xs.map (·.1))[j]? = (zs.map fun z=>(DataW.lit (.int k z):DataW Unit))[j]? := by rw[e3]
   rw[eU,eU,dY (by omega:j<xs.length),dY (by omega:j<zs.length),e2]at e4;simp only[rD,Option.some.injEq,DataW.lit.injEq,Lit.int.injEq,true_and]at e4
   have:cl[j]? = some (.int k z):=by
    have h0:((cl.drop j).take 1)[0]? = some (.int k z):=by rw[e1];rfl
    simpa using h0
   rw[dY an]at this;rw[Option.some.inj this,List.getElem_map,e4]
  ·exact ih a5 hm

theorem XT {P:Program}{W:World}{l:List (String × DataW Unit)}{i t e n j tj:Nat}{zero:Array Value}(h:laidMet P l W)(hs:W.ShapedOpen P)
  (hm:("internal/strconv.uint64pow10",DataW.agg (((List.range 20).map fun i=>((10 ^ i:Nat):Int)).map fun z=>.lit (.int .u64 z)))∈l)
  (hg:P.globalNamed "internal/strconv.uint64pow10" = some i) (hi:(P.globals[i]?).map (·.type)=some t) (ht:P.underlying t=some (.array n e)) (he:P.underlying e=some (.int .u64)) (hc:P.cellsOf e=1) (hct:P.cellsOf t=n)
  (hg2:P.globalNamed "internal/bytealg.MaxLen" = some j) (hj:j<P.globals.size) (h0:((begin P (fun _ _=>0) default).world.heap[j]?).bind Obj.row? = some (zero,tj)) (hz:zero.size=1)
  (hb:P.buildable tj=true) (hcj:P.cellTypes P.depth tj=some [tj]) (hu:P.underlying tj=some (.int .i64)):gx P (fun _=>True) W:=by
 obtain⟨ps,hl,_,_⟩:=h;intro x hx k hk;refine⟨trivial,?_⟩;rcases hx with rfl |rfl
 ·have hv:=Tn hg hi ht he hc hct hl hm;obtain rfl:=Option.some.inj (hg.symm.trans hk);unfold World.var? at hv;rw[hg,aa6]at hv;split at hv
  ·rename_i cs ee kk ho;cases hv;exact⟨_,ho,trivial,fun _=>⟨_,_,rfl⟩,fun h=>by simp at h⟩
  ·cases hv
 ·obtain rfl:=Option.some.inj (hg2.symm.trans hk);obtain⟨cs,hh,mn,hr⟩:=hs.1 j zero tj hj h0;obtain⟨ts,hts,_,eK⟩:=hr hb;rw[hcj]at hts;cases hts;have h1:0<cs.size:=by omega
  obtain⟨u,hu',dw⟩:=eK 0 cs[0] (by simp[h1]);have:u=tj:=by simpa using hu'.symm
  subst this;unfold Cell.ok at dw;rw[hu]at dw;refine⟨_,hh,trivial,fun h=>by simp at h,fun _=>?_⟩;cases hv:cs[0]<;>rw[hv]at dw<;>simp at dw
  case int k' m =>
   obtain⟨rfl,_⟩:=dw
   have qg:cs=#[.int .i64 m]:=by
    refine Array.ext zw fun a ha1 ha2=>?_
    have:a=0:=by omega
    subst this;simpa using hv
   subst qg;exact⟨m,_,_,rfl⟩
end aw

namespace Go.Proofs.YtaagocopollacaaGreatDoor
open Go aw Go.Proofs
def Kn (n:Nat):List Ob:=[.Ii n,.box [.yl 0],.box [.bU 104 [] [.lo 1 0,.lo 2 0]]]

theorem abT (Y:YP)(t:Tm):∀ (d:Int) (n:Nat),0≤d→d+t.size<4611686018427387904→(∀ (i:Nat) (e:Int × Tm),(t.gV d)[i]? = some e→Y.ys[n+i]? = some (Tm.enc e))→(n=0∨Y.go n=true) →
  aU Tryz.prog Y 104 [t.av,iV d,.lo 1 0,.lo 2 0] (Kn n) (bV (nT Y t.size n).2) (Kn (nT Y t.size n).1):=by
 induction t using Tm.ind with
 |_ t ih =>
 intro d n hd0 hd hy xA;refine uw Tryz.func104 fun w S φ hg=>?_
 refine abz hg rfl rfl rfl rfl rfl rfl rfl (avs:=[iV d,t.av]) ?_ xA ?_
 ·exact hy 0 (d,t) (by rw[Tm.kr];rfl)
 refine af ?_;have hsz:=Tm.size_eq t;have aZ:=Tm.cI t.l;refine iD (fun h1=>?_) fun h1=>?_
 ·refine af ?_;have h1:(!Y.go (n+1))=true:=h1;have h2:Y.go (n+1)=false:=by simpa using h1
  have h3:nT Y t.size n=(n+1,false):=by rw[hsz,Nat.add_comm];simp[nT,h2]
  refine aK hg 3 5 cP rfl ?_ ?_
  ·rw[h3];rfl
  ·rw[h3];rfl
 have h1:(!Y.go (n+1))=false:=h1;have h2:Y.go (n+1)=true:=by simpa using h1
 refine af ?_
 refine bh (fun k:Nat=>([(1,iV d),(2,.lo 1 0),(3,.lo 2 0),(4,.lo 3 0),(15,.d (.sl (Tm.aa t.l))),(16,iV (t.l.length:Int)),(17,iV k)],Kn (n+(1+Tm.ay (t.l.take k)))++[.box [.d (.v (.int .i64 t.k)),.d (.v (.string t.s)),.d (.v (.int .i64 t.n)),.d (.sl (Tm.aa t.l))]]))
  (fun k=>k≤t.l.length∧nT Y (1+Tm.ay (t.l.take k)) n=(n+(1+Tm.ay (t.l.take k)),true)) (fun k=>t.l.length - k) 0 ?_ ?_ ?_ ?_
 ·refine ⟨cT _,?_⟩;simp[Tm.ay,nT,h2]
 ·exact⟨.refl _,.refl _,.refl _,.refl _,.refl _,bM.int uD,.refl _,trivial⟩
 ·rfl
 intro k hk;refine af ?_;refine iD (fun h1=>?_) fun h1=>?_
 ·have aR:k<t.l.length:=by have:=of_decide_eq_true h1; omega
  have e1:t.l[k]? = some t.l[k]:=dY aR;have al4:=Tm.zJ e1;have hmem:=Tm.ct (eg aR);refine af ?_;refine cW (Tm.aB e1) ?_;refine gN 24 rfl (bM.wrap rfl an an) ?_;refine wi hg.ok hg.cm hg.wide hg.Y [0,1,2] (ih _ (eg aR) (d+1) (n+(1+Tm.ay (t.l.take k))) an an ?_ ?_) cF rfl rfl rfl rfl rfl rfl rfl ?_
  ·intro i e he;have fu:=(bC.1 he).1
   have:=hy (1+Tm.ay (t.l.take k)+i) e (by
    rw[Tm.kr,show 1+Tm.ay (t.l.take k)+i=Tm.ay (t.l.take k)+i+1 by omega,Sp];have Bq:t.l=t.l.take k++(t.l[k]::t.l.drop (k+1)):=by rw[← List.drop_eq_getElem_cons aR,List.take_append_drop]
    rw[Bq,Tm.yT,kR (by rw[Tm.wk];rw[← Bq];omega),Tm.wk,← Bq];simp only[Tm.iK];rw[jx an,show Tm.ay (List.take k t.l)+i - Tm.ay (List.take k t.l)=i by omega];exact he)
   rw[show n+(1+Tm.ay (t.l.take k))+i=n+(1+Tm.ay (t.l.take k)+i) by omega];exact this
  ·right;exact(wm (by rw[hk.2])).2 an
  refine af ?_
  have hle:Tm.ay t.l=Tm.ay (t.l.take k)+(t.l[k].size+Tm.ay (t.l.drop (k+1))):=by
   conv=>lhs;rw[← List.take_append_drop k t.l,List.drop_eq_getElem_cons aR]
   rw[Tm.qp,Tm.ay]
  refine iD (fun h3=>?_) fun h3=>?_
  ·have h3:(!(nT Y t.l[k].size (n+(1+Tm.ay (t.l.take k)))).2)=true:=h3;have h4:(nT Y t.l[k].size (n+(1+Tm.ay (t.l.take k)))).2=false:=by simpa using h3
   refine af ?_
   have h5:nT Y t.size n=nT Y t.l[k].size (n+(1+Tm.ay (t.l.take k))):=by
    rw[hsz,hle,← Nat.add_assoc,wo hk.2,GL,if_neg I3]
   refine aK hg 3 5 cP rfl ?_ ?_
   ·rw[h5,h4];rfl
   ·rw[h5];rfl
  have h3:(!(nT Y t.l[k].size (n+(1+Tm.ay (t.l.take k)))).2)=false:=h3;have h4:(nT Y t.l[k].size (n+(1+Tm.ay (t.l.take k)))).2=true:=by simpa using h3
  have h6:=ahf h4;refine af ?_;refine uB 4 (by rw[hg.j5.len];simp[Kn]) rfl ?_;have h7:n+(1+Tm.ay (t.l.take (k+1)))=n+(1+Tm.ay (t.l.take k))+t.l[k].size:=by rw[al4];omega
  refine bp (k+1) ⟨aR,?_⟩ an aj0 ?_
  ·rw[al4,← Nat.add_assoc 1,wo hk.2,h6];simp only[Nat.add_assoc]
  ·rw[h6];show _=Kn (n+(1+Tm.ay (t.l.take (k+1))))++_;rw[h7];rfl
 ·refine af ?_;have h3:¬ ((k:Int)<(t.l.length:Int)):=of_decide_eq_false h1;have hkl:k=t.l.length:=by omega
  have h4:nT Y t.size n=(n+(1+Tm.ay (t.l.take k)),true):=by
   have:=hk.2;rw[hkl,List.take_length]at this ⊢;rw[hsz];exact this
  refine aK hg 3 5 cP rfl ?_ ?_
  ·rw[h4];rfl
  ·rw[h4];rfl

theorem ahG (Y:YP)(t:Tm)(n:Nat)(hd:t.size<1000000000)(hy:∀ (i:Nat) (e:Int × Tm),(t.gV 1)[i]? = some e→Y.ys[n+i]? = some (Tm.enc e))(xA:n=0∨Y.go n=true) :
  aU Tryz.prog Y 74 [t.av,.yl 0] [.Ii n] (bV (nT Y t.size n).2) [.Ii (nT Y t.size n).1]:=by
 refine uw Tryz.func74 fun w S φ hg=>?_
 refine wi hg.ok hg.cm hg.wide hg.Y [0,2,3] (abT Y t 1 n an an hy xA) cF rfl rfl rfl rfl rfl rfl rfl (af ?_);refine aK hg 1 5 cP rfl ?_ ?_
 ·rfl
 ·rfl

theorem BO (Y:YP)(t:Tm)(hd:t.size<1000000000)(hy:∀ (i:Nat) (e:Int × Tm),(t.gV 1)[i]? = some e→Y.ys[i]? = some (Tm.enc e)) :
  aU Tryz.prog Y 73 [.yl 0,.d (.bG (Tm.row t))] [.Ii 0] (.cH []) [.Ii (nT Y t.size 0).1]:=by
 refine uw Tryz.func73 fun w S φ hg=>?_
 refine wi hg.ok hg.cm hg.wide hg.Y [0] (ahG Y t 0 hd (by simpa using hy) (.inl rfl)) cF rfl rfl rfl rfl rfl rfl rfl (af ?_);refine l3 hg 1 5 cP rfl ?_ ?_
 ·rfl
 ·rfl

theorem G4 (t:Tm):bD Tryz.prog 49 [t.av] (.bU 73 [] [.d (.bG (Tm.row t))]):=by
 refine oY Tryz.func49 fun w S hg=>?_
 refine cq ?_;rfl
def VA (t:Tm):Ob:=.box [.d (.v (.int .i64 t.k)),.d (.v (.string t.s)),.d (.v (.int .i64 t.n)),.d (.sl (Tm.aa t.l))]

theorem BP {Y:YP}(h:∀n,Y.go n=true):∀ (k n:Nat),nT Y k n=(n+k,true)
 |0,n=>rfl
 |k+1,n=>by simp only[nT,h,if_true];rw[BP h k];congr 1;omega
theorem Nx {t:Tm}{i:Nat}{e:Int × Tm}(h:(t.gV 1)[i]? = some e):((t.gV 1).map Tm.enc)[i]? = some (Tm.enc e):=by rw[eU,h];rfl
theorem Ny {t:Tm}{i:Nat}{e:Int × Tm}(h:(t.gV 1)[i]? = some e):i<t.size:=by rw[← Tm.lE t 1];exact(bC.1 h).1

theorem XU (s:ByteArray)(hs:s.size<1000000000):bD Tryz.prog 75 [.d (.v (.string s))] (bV (uO s)):=by
 refine oY Tryz.func75 fun w S hg=>?_
 refine bh (fun k:Nat=>([(0,.d (.v (.string s))),(5,iV s.size),(6,iV k)],[])) (fun k=>k≤s.size∧∀i (hi:i<s.size),i<k→jU s[i]=true) (fun k=>s.size - k) 0 ?_ ?_ rfl ?_
 ·exact⟨cT _,fun i _ h=>absurd h (aa2 _)⟩
 ·exact uC
 intro k hk;refine af ?_;refine iD (fun h1=>?_) fun h1=>?_
 ·have aR:k<s.size:=by have:=of_decide_eq_true h1; omega
  refine af ?_;refine nh hg.ok rfl rfl rfl rfl rfl (yN k) (pt aR) (af ?_);refine iD (fun h2=>?_) fun h2=>?_
  ·refine af ?_;refine cq ?_;have:jU s[k]=false:=by unfold jU;rw[h2];rfl
   simp only[uO,ud aR this];rfl
  refine af ?_;refine nh hg.ok rfl rfl rfl rfl rfl (yN k) (pt aR) (af ?_);refine iD (fun h3=>?_) fun h3=>?_
  ·refine af ?_;refine cq ?_;have:jU s[k]=false:=by unfold jU;rw[h3];simp
   simp only[uO,ud aR this];rfl
  refine af ?_;refine bp (k+1) ⟨aR,fun i hi hik=>?_⟩ an aaN rfl;rcases oy i k with h |h
  ·exact hk.2 i hi h
  ·have:i=k:=by omega
   subst this;unfold jU;rw[h2,h3];rfl
 ·have h4:¬ ((k:Int)<(s.size:Int)):=of_decide_eq_false h1;have eK:s.data.toList.all jU=true:=SY fun i hi=>hk.2 i hi an
  refine af ?_;refine iD (fun h2=>?_) fun h2=>?_
  ·refine af ?_;refine cq ?_;simp only[uO,eK,h2,jX];rfl
  ·refine af ?_;refine cq ?_;simp only[uO,eK,h2,jX];rfl

theorem ahH (t:Tm)(hs:t.s.size<1000000000):bD Tryz.prog 50 [t.av] (bV t.GM):=by
 refine oY Tryz.func50 fun w S hg=>?_
 iterate 12
  all_goals try first
   |(refine qY rfl rfl (fun _=>?_) (fun _=>?_)<;>refine er hg.ok rfl rfl ?_)
   |(refine Mn hg.ok (XU t.s hs) rfl rfl rfl rfl rfl rfl ?_;refine er hg.ok rfl rfl ?_)
 all_goals refine Ay hg 5 rfl rfl ?_
 all_goals (simp only[Tm.au,beq_iff_eq,beq_eq_false_iff_ne,ne_eq,decide_eq_true_eq,decide_eq_false_iff_not]at *)
 all_goals (simp_all[Tm.GM,bV])
 all_goals (intros;omega)

theorem eY (t:Tm)(hd:t.size<1000000000)(hs:∀e∈t.gV 1,e.2.s.size<1000000000):bD Tryz.prog 25 [t.av] (bV (c0 t)):=by
 refine oY Tryz.func25 fun w S hg=>?_
 refine aF (G4 t) ?_;refine GJ hg.ok hg.cm ⟨rfl,rfl⟩ rfl (t.gV 1) Tm.enc ⟨(t.gV 1).map Tm.enc,M9 t⟩ rfl (fun n=>[VA t,.box [.d (.v (.bool false))],.box [iV n]]) (fun _ e=>[(2,.lo 1 0),(3,.lo 2 0),(4,iV e.1),(5,.lo 3 0)]) (fun n e=>[VA t,.box [.d (.v (.bool false))],.box [iV n],VA e.2]) _ .ret rfl rfl rfl (BO _ t hd fun _ _ h=>Nx h) rfl (fun _ _=>rfl) rfl ?_ ?_ ?_ rfl rfl ?_
 ·intro n x hx _ l w R0 X φ0 _ xF;refine VL ?_;exact M4 Mx rfl
 ·intro n x hx _ l w R0 X φ0 Md xF;have hn:=Ny hx;have xD:=sL hg.ok l w R0 X φ0 xF;have xA:M9 t (n+1)=wv x (n+1):=by simp only[M9,hx]
  have hw:IntKind.i64.wrap ((n:Int)+1)=((n+1:Nat):Int):=jL an an;refine qZ ?_;refine iD (fun h1=>?_) fun h1=>?_
  ·refine qZ ?_;refine aaI ?_;refine afY ?_;exact M5 (by rw[show (YP.go ⟨_,M9 t⟩ (n+1))=M9 t (n+1) from rfl,xA];simp only[wv,h1,Bool.true_or,xK]) rfl rfl
  refine qZ ?_;refine iD (fun h2=>?_) fun h2=>?_
  ·refine qZ ?_;refine aaI ?_;refine afY ?_;rw[hw]at h2;exact M5 (by rw[show (YP.go ⟨_,M9 t⟩ (n+1))=M9 t (n+1) from rfl,xA];simp only[wv,h2,Bool.or_true,Bool.true_or,xK]) rfl rfl
  refine qZ ?_;refine Mn xD (ahH x.2 (hs x (gZ hx))) rfl rfl rfl rfl rfl rfl ?_;refine qZ ?_;rw[hw]at h2;refine iD (fun h3=>?_) fun h3=>?_
  ·refine qZ ?_;refine aaI ?_;refine afY ?_;exact M5 (by rw[show (YP.go ⟨_,M9 t⟩ (n+1))=M9 t (n+1) from rfl,xA];simp only[wv,h3,Bool.or_true,xK]) rfl rfl
  ·refine qZ ?_;refine aaI ?_;refine vB [VA t,.box [.d (.v (.bool false))],.box [iV ((n+1:Nat):Int)]] ⟨nR.refl _,Sf,⟨bM.int hw,trivial⟩,trivial⟩ rfl ?_;exact xG (by rw[show (YP.go ⟨_,M9 t⟩ (n+1))=M9 t (n+1) from rfl,xA];simp only[wv,h1,h2,h3,Bool.or_false,Bool.not_false]) rfl
 ·intro xA;refine af ?_;refine cq ?_;cases h:c0 t
  ·obtain ⟨h1,h2⟩:=EO h;exact absurd xA (by rintro(h3 |h3);exact h2 h3;rw[h1]at h3;cases h3)
  ·rfl
 ·intro h0 xA;refine cq ?_;cases h:c0 t
  ·rfl
  ·have h1:=wm h;rw[h1.1]at h0 xA;rw[h1.2 an]at xA;cases xA
def aP (t:Tm):Ob:=.box [.d (.v (.int .i64 t.k)),.d (.v (.string t.s)),.d (.v (.int .i64 t.n)),.d (.sl (Tm.aa t.l))]

theorem G5 (a:Tm):∀b,a.size<1000000000→bD Tryz.prog 149 [a.av,b.av] (bV (a.same b)):=by
 induction a using Tm.ind with
 |_ a ih =>
 intro b hsz;refine oY Tryz.func149 fun w S hg=>?_
 iterate 4
  refine aj (fun _=>?_) fun _=>?_
  ·refine cq ?_
   simp_all[Tm.z6,bV,Tm.au]
   try exact Tm.x8 an
 refine bh (fun k:Nat=>([(2,.lo 0 0),(3,.lo 1 0),(36,.d (.sl (Tm.aa a.l))),(37,iV a.l.length),(38,iV k)],[aP a,aP b])) (fun k=>k≤a.l.length∧a.l.length=b.l.length∧a.same b=Tm.ic (a.l.drop k) (b.l.drop k)) (fun k=>a.l.length - k) 0 ?_ ?_ rfl ?_
 ·simp_all [Tm.z6,Tm.au];omega
 ·exact⟨.refl _,.refl _,.refl _,bM.int uD,.refl _,trivial⟩
 rintro k ⟨Va,hl,hk⟩;have al5:=Tm.cI a.l;have DP:=Tm.size_eq a;refine af ?_;refine aj (fun h=>?_) fun h=>?_
 ·have aR:k<a.l.length:=by have:=of_decide_eq_true h; omega
  have oz:k<b.l.length:=by omega
  have e1:a.l[k]? = some a.l[k]:=dY aR;have e2:b.l[k]? = some b.l[k]:=dY oz;rw[List.drop_eq_getElem_cons aR,List.drop_eq_getElem_cons oz,Tm.ic]at hk;have hm:=Tm.ct (eg aR);refine cW (Tm.aB e1) ?_;refine cW (Tm.aB e2) ?_;refine aF (ih _ (eg aR) b.l[k] an) ?_;refine aj (fun h=>?_) fun h=>?_
  ·refine cq ?_;rw[hk];simp_all[bV]
  ·refine uB 2 fy rfl ?_;refine bp (k+1) ⟨aR,hl,?_⟩ an IV rfl;rw[hk];simp_all
 ·refine cq ?_;have h4:¬ ((k:Int)<(a.l.length:Int)):=of_decide_eq_false h;rw[hk,gD an,gD an];rfl

theorem Nz (a:Tm):∀b,a.size<1000000000→bD Tryz.prog 84 [a.av,b.av] (bV (a.same b)):=by
 induction a using Tm.ind with
 |_ a ih =>
 intro b hsz;refine oY Tryz.func84 fun w S hg=>?_
 iterate 4
  refine aj (fun _=>?_) fun _=>?_
  ·refine cq ?_
   simp_all[Tm.z6,bV,Tm.au]
   try exact Tm.x8 an
 refine bh (fun k:Nat=>([(2,.lo 0 0),(3,.lo 1 0),(5,iV k)],[aP a,aP b])) (fun k=>k≤a.l.length∧a.l.length=b.l.length∧a.same b=Tm.ic (a.l.drop k) (b.l.drop k)) (fun k=>a.l.length - k) 0 ?_ uC rfl ?_
 ·simp_all [Tm.z6,Tm.au];omega
 rintro k ⟨Va,hl,hk⟩;have al5:=Tm.cI a.l;have DP:=Tm.size_eq a;refine af ?_;refine aj (fun h=>?_) fun h=>?_
 ·have aR:=bK (n:=a.l.length) h VZ;have oz:k<b.l.length:=by omega
  have e1:a.l[k]? = some a.l[k]:=dY aR;have e2:b.l[k]? = some b.l[k]:=dY oz;rw[List.drop_eq_getElem_cons aR,List.drop_eq_getElem_cons oz,Tm.ic]at hk;have hm:=Tm.ct (eg aR);refine cW (Tm.aB e1) ?_;refine cW (Tm.aB e2) ?_;refine aF (ih _ (eg aR) b.l[k] an) ?_;refine aj (fun h=>?_) fun h=>?_
  ·refine cq ?_;rw[hk];simp_all[bV]
  ·refine bp (k+1) ⟨aR,hl,?_⟩ an aaN rfl;rw[hk];simp_all
 ·refine cq ?_;have aR:=cf (n:=a.l.length) h uD;rw[hk,gD an,gD an];rfl

theorem XV (t:Tm):t.Ok→∀m d:Int,bD Tryz.prog 16 [t.av,iV m,iV d] (iV (t.oV m d)):=by
 induction t using Tm.ind with
 |_ t ih =>
 intro dw m d;refine oY Tryz.func16 fun w S hg=>?_
 iterate 3
  refine aj (fun _=>?_) fun _=>?_
  ·refine cq ?_;rw[Tm.M7,if_pos (by simp_all[Tm.qq])];rfl
 have WX:Tm.qq t.s m d=false:=by simp_all[Tm.qq]
 have aZ:=dw.len;refine bh (fun x:Nat × Int=>([(1,iV x.2),(2,iV d),(3,.lo 0 0),(7,iV x.1)],[aP t])) (fun x=>x.1≤t.l.length∧t.oV m d=Tm.zK (t.l.drop x.1) x.2 (IntKind.i64.wrap (d - 1))) (fun x=>t.l.length - x.1) (0,IntKind.i64.wrap (m - 1)) ⟨cT _,by rw[Tm.M7,WX];rfl⟩ Mx rfl ?_;rintro⟨k,q⟩ ⟨hk,hm⟩;simp only at hk hm;refine af ?_;refine aj (fun h=>?_) fun h=>?_
 ·have aR:k<t.l.length:=bK h VZ;have e1:t.l[k]? = some t.l[k]:=dY aR;rw[List.drop_eq_getElem_cons aR,Tm.zK]at hm;refine aj (fun h2=>?_) fun h2=>?_
  ·rw [if_pos (of_decide_eq_true h2)] at hm;refine cW (Tm.aB e1) ?_;refine aF (ih _ (eg aR) (dw.sub (eg aR)) _ _) ?_;exact bp (k+1,t.l[k].oV q (IntKind.i64.wrap (d - 1))) ⟨aR,hm⟩ ka ⟨.refl _,.refl _,.refl _,bM.wrap ka ka ka,trivial⟩ rfl
  ·rw [if_neg (of_decide_eq_false h2)] at hm;refine cq ?_;rw[hm];rfl
 ·have aR:t.l.length≤k:=cf h VZ;refine cq ?_;rw[gD aR,Tm.zK]at hm;rw[hm];rfl

theorem NA (a b:List Tm)(ha:Tm.ay a<1000000000):bD Tryz.prog 62 [.d (.sl (Tm.aa a)),.d (.sl (Tm.aa b))] (bV (Tm.ic a b)):=by
 refine oY Tryz.func62 fun w S hg=>?_
 refine aj (fun h=>?_) fun h=>?_
 ·refine cq ?_;rw[Tm.x8 (by simp only[Tm.au,bne_iff_ne,ne_eq]at h;omega)];rfl
 have hl:a.length=b.length:=by simp only[Tm.au,bne_eq_false_iff_eq]at h;omega
 refine bh (fun k:Nat=>([(0,.d (.sl (Tm.aa a))),(1,.d (.sl (Tm.aa b))),(5,iV k)],[])) (fun k=>k≤a.length∧Tm.ic a b=Tm.ic (a.drop k) (b.drop k)) (fun k=>a.length - k) 0 ⟨cT _,rfl⟩ uC rfl ?_;rintro k ⟨hk,hm⟩;have BQ:=Tm.cI a;refine af ?_;refine aj (fun h=>?_) fun h=>?_
 ·have aR:k<a.length:=bK h VZ;have oz:k<b.length:=by omega
  have e1:a[k]? = some a[k]:=dY aR;have e2:b[k]? = some b[k]:=dY oz;have hsm:=Tm.ct (eg aR);rw[List.drop_eq_getElem_cons aR,List.drop_eq_getElem_cons oz,Tm.ic]at hm;refine cW (Tm.aB e1) ?_;refine cW (Tm.aB e2) ?_;refine aF (Nz a[k] b[k] an) ?_;refine aj (fun h=>?_) fun h=>?_
  ·refine cq ?_;rw[hm];simp_all[bV]
  ·refine bp (k+1) ⟨aR,?_⟩ an aaN rfl;rw[hm];simp_all
 ·have aR:a.length≤k:=cf h VZ;refine cq ?_;rw[hm,gD aR,gD an];rfl
def yH (acc:List Int):List Ob:=[.map (cn (rA acc)),.box [.mp 0],.box [.ow 3 acc.length],.arr 1 acc.length (di acc)]
def pL (acc:List Int)(t:Tm)(n:Nat):List Int:=((t.gV 1).take n).foldl fJ acc
theorem Vu (f:AV→AV)(h:f .tt=.tt)(a:List Int)(r:List Ob):aQ f (.map (cn (rA a)))::r=.map (cn (rA a))::r:=by rw[SX h]
theorem Fp (a:List Int)(n:Int):rA a++[(n,.tt)]=rA (a++[n]):=by simp[rA]
theorem BR (a:List Int)(n:Int):di a++[[.v (.int .i64 n)]]=di (a++[n]):=by simp[di,J2]
theorem XW (l:List Int)(x:Int):(jT l x).length≤l.length+1:=by unfold jT;split<;>simp

theorem lj:∀ (l:List (Int × Tm)) (a:List Int),(l.foldl fJ a).length≤a.length+l.length
 |[],a=>by simp
 |e::l,a=>by
  have:=lj l (fJ a e);have h2:(fJ a e).length≤a.length+1:=by unfold fJ;split;exact XW _ _;omega
  simp only[vI,dv];omega
def vz (a:List Int)(l:List Tm):List Int:=l.foldl (fun a t=>(t.gV 1).foldl fJ a) a

theorem pM:∀ (l:List Tm) (a:List Int),(vz a l).length≤a.length+Tm.ay l
 |[],a=>by simp[vz]
 |t::r,a=>by
  have:=pM r ((t.gV 1).foldl fJ a);have h:=lj (t.gV 1) a;rw[Tm.lE]at h;simp only[vz,vI,Tm.ay]at this ⊢;omega

theorem tc (l:List Tm)(hsz:Tm.ay l<1000000000):bD Tryz.prog 26 [.d (.sl (Tm.aa l))] (.d (.sl (di (bH l)))):=by
 refine zp Tryz.func26 fun w S hg=>?_
 refine DB ?_;refine l9 2 0 1 rfl rfl rfl ?_;refine ajI ?_;rintro⟨k,acc⟩ ⟨hk,hm,BQ⟩;simp only at hk hm BQ;have hl:=Tm.cI l;refine af ?_;refine aj (fun h=>?_) fun h=>?_
 ·have aR:k<l.length:=bK h rfl;have e1:l[k]? = some l[k]:=dY aR;rw[List.drop_eq_getElem_cons aR]at hm BQ;simp only[Tm.ay]at BQ;refine cW (Tm.aB e1) ?_;refine aF (G4 l[k]) ?_;generalize l[k]=t at *;refine GJ hg.ok hg.cm ⟨rfl,rfl⟩ rfl (t.gV 1) Tm.enc ⟨(t.gV 1).map Tm.enc,fun _=>true⟩ rfl (fun n=>yH (pL acc t n)++[aP t]) (fun _ _=>[(3,.lo 1 0),(4,.lo 2 0),(8,.lo 5 0)]) (fun n e=>yH (pL acc t n)++[aP t,aP e.2]) _ .ret rfl rfl rfl (BO _ t an fun _ _ h=>Nx h) rfl (fun _ _=>rfl) rfl ?_ ?_ ?_ rfl rfl (fun _ h=>by cases h)
  ·intro n x hx _ L w R0 X φ0 _ xF;refine VL ?_;exact M4 uC rfl
  ·intro n x hx _ L w R0 X φ0 Md xF;have xD:=sL hg.ok L w R0 X φ0 xF;have hn:=Ny hx;have ei:pL acc t (n+1)=fJ (pL acc t n) x:=by unfold pL;rw[I5,hx,aa8];rfl
   have aZ:(pL acc t n).length≤acc.length+n:=by
    have:=lj ((t.gV 1).take n) acc;unfold pL;rw[zz]at this;omega
   rw[ei];generalize pL acc t n=a at *;refine qZ ?_;refine qY rfl rfl (fun h1=>?_) (fun h1=>?_)<;>refine gv xD 1000 rfl rfl ?_
   ·have tK:x.2.k=1:=by simpa using h1
    by_cases hmem:a.contains x.2.n=true
    ·refine adC ?_;refine qZ ?_;refine R1 ?_;exact aej
    ·have El:a.contains x.2.n=false:=by simpa using hmem
     refine adI ?_;refine qZ ?_;refine s7 xD (rA a) rfl rfl rfl rfl rfl rfl rfl (by rw[rB,El];rfl) ?_;rw[show ∀E:bk,ev E (.const (.bool true))=.tt from fun _=>rfl,Fp];refine qZ ?_;refine adA ?_;rw[BR];refine qZ ?_;refine R1 ?_;refine xG rfl ?_;unfold fJ jT;rw[if_pos tK,El];simp only[lL,if_false,yH,List.length_append,dv,lM];rfl
   ·have tK:¬ x.2.k=1:=by simpa using h1
    refine R1 ?_;exact xG rfl (by unfold fJ;rw[if_neg tK];rfl)
  ·intro _;rw[BP cF];refine af ?_;refine bb 4 _ fy rfl (Vu (dA 4) rfl _ _) ?_;have hA:pL acc t (0+t.size)=(t.gV 1).foldl fJ acc:=by unfold pL;rw[Ih (by rw[Tm.lE];omega)]
   have Bp:=lj (t.gV 1) acc;rw[Tm.lE]at Bp;rw[hA];refine bp (k+1,(t.gV 1).foldl fJ acc) ⟨aR,hm,by simp only;omega⟩ ka ⟨.refl _,.refl _,.refl _,.refl _,bM.wrap ka ka ka,trivial⟩ rfl
 ·have aR:l.length≤k:=cf h rfl;refine Ay hg 5 rfl (vA rfl) ?_;rw[hm,gD aR];rfl
def G6 (cj:Int):List Ob:=[.box [iV cj]]
def G7 (l:List Int):List Ob:=[.box [.mp 1],.map (cn (ki l 0))]

theorem BS:∀ (l:List Int) (n i:Int),0≤i→ib (ki l i) n=if tT l n i<0 then none else some (iV (tT l n i))
 |[],n,i,h=>rfl
 |x::l,n,i,h=>by
  have ih:=BS l n (i+1) an;by_cases hx:x=n
  ·have e:tT (x::l) n i=i:=by simp [tT,hx]
   rw[e,if_neg an];simp[ki,ib,hx]
  ·have e:tT (x::l) n i=tT l n (i+1):=by simp [tT,hx]
   rw[e,← ih];simp[ki,ib,hx]

theorem RZ {l:List Tm}{k:Nat}{x:Tm}{g:Int→Int}(h:l[k]? = some x):Tm.aa (Tm.dj g (l.take k))++[Tm.row (Tm.fS g x)]=Tm.aa (Tm.dj g (l.take (k+1))):=by
 rw[I5,h];simp[Tm.jQ,Tm.dZ]

theorem To (Y:YP)(n cj:Int):aU Tryz.prog Y 56 [iV n,.lo 0 0] (G6 cj) (iV (IntKind.i64.wrap (n+cj))) (G6 cj):=by
 refine uw Tryz.func56 fun w S φ hg=>?_
 exact lI

theorem NB (Y:YP)(n:Int)(l:List Int):aU Tryz.prog Y 79 [iV n,.lo 0 0] (G7 l) (iV (jo l n)) (G7 l):=by
 refine uw Tryz.func79 fun w S φ hg=>?_
 refine gC hg.ok (ki l 0) rfl rfl rfl rfl rfl rfl rfl (zv:=.int .i64 0) cX (v:=iV (jo l n)) (by rw[BS _ _ _ (gP _)];unfold jo;split<;>rfl) ?_;refine af ?_;refine aK hg 2 5 cP rfl rfl ?_;show [Ob.box [AV.mp 1],aQ _ (Ob.map (cn (ki l 0)))]=_
 rw[mK cF];rfl

theorem NC (Y:YP)(cj:Int)(t:Tm):t.size<1000000000→aU Tryz.prog Y 55 [t.av,.bU 56 [] [.lo 0 0]] (G6 cj) (Tm.fS (fun n=>IntKind.i64.wrap (n+cj)) t).av (G6 cj):=by
 induction t using Tm.ind with
 |_ t ih =>
 intro hsz;have hl:=Tm.cI t.l;have hs:=Tm.size_eq t;refine mH4 Tryz.func55 fun w S φ hg=>?_
 have hφ:φ.length≤1:=Nat.le_of_eq hg.j5.len;obtain⟨n',AD⟩:∃n',n'=if t.k=1 then (fun n=>IntKind.i64.wrap (n+cj)) t.n else t.n:=⟨_,rfl⟩
 refine af ?_;refine aj (fun h=>?_) fun h=>?_
 ·have ML:t.k=1:=by simpa using h
  rw[if_pos ML]at AD;have hc:=To Y t.n cj;rw[show iV _=iV n' from congrArg iV AD.symm]at hc;refine ai hg.ok hg.cm hg.wide hg.Y [0] (([.box [iV cj]]:List Ob)++[aP t,.box [.d (.v (.int .i64 0)),.d (.v (.string ByteArray.empty)),.d (.v (.int .i64 0)),.d (.v (.slice none 0 0))]]) hc cF rfl rfl rfl rfl rfl rfl rfl rfl (af ?_);refine vB (([.box [iV cj]]:List Ob)++[.box [.d (.v (.int .i64 t.k)),.d (.v (.string t.s)),.d (.v (.int .i64 n')),.d (.v (.slice none 0 0))],.box [.d (.v (.int .i64 0)),.d (.v (.string ByteArray.empty)),.d (.v (.int .i64 0)),.d (.v (.slice none 0 0))]]) ?_ rfl ?_
  ·exact aky
  refine l9 1 3 4 rfl rfl rfl ?_
  refine bh (fun k:Nat=>([(1,.bU 56 [] [.lo 0 0]),(2,.lo 1 0),(4,.lo 2 0),(19,.d (.sl (Tm.aa t.l))),(20,iV t.l.length),(21,iV k)],([.box [iV cj]]:List Ob)++[.box [.d (.v (.int .i64 t.k)),.d (.v (.string t.s)),.d (.v (.int .i64 n')),.ow 3 k],.box [.d (.v (.int .i64 0)),.d (.v (.string ByteArray.empty)),.d (.v (.int .i64 0)),.d (.v (.slice none 0 0))],.arr 4 k (Tm.aa (Tm.dj (fun n=>IntKind.i64.wrap (n+cj)) (t.l.take k)))]))
   (fun k=>k≤t.l.length) (fun k=>t.l.length - k) 0 fy ⟨.refl _,.refl _,.refl _,.refl _,bM.int uD,.refl _,trivial⟩ rfl ?_
  intro k hk;refine af ?_;refine aj (fun h=>?_) fun h=>?_
  ·have aR:k<t.l.length:=bK h rfl;have e1:t.l[k]? = some t.l[k]:=dY aR;have hm:=Tm.ct (eg aR);refine cW (Tm.aB e1) ?_;refine iT hg.ok hg.cm hg.wide hg.Y [0] (ih _ (eg aR) an) cF rfl rfl rfl rfl rfl rfl rfl rfl (af ?_);refine Vp ?_;refine bb 4 _ sN rfl rfl ?_;exact Vs
  ·have aR:t.l.length≤k:=cf h rfl;refine aK hg 1 5 cP rfl ((nk rfl rfl rfl rfl rfl).trans ?_) rfl;rw[Ih aR,Tm.wy,if_pos ML];subst AD;rfl
 ·have ML:¬ t.k=1:=by simpa using h
  rw[if_neg ML]at AD;refine vB (([.box [iV cj]]:List Ob)++[.box [.d (.v (.int .i64 t.k)),.d (.v (.string t.s)),.d (.v (.int .i64 n')),.d (.v (.slice none 0 0))],.box [.d (.v (.int .i64 0)),.d (.v (.string ByteArray.empty)),.d (.v (.int .i64 0)),.d (.v (.slice none 0 0))]]) ?_ rfl ?_
  ·exact aky
  refine l9 1 3 4 rfl rfl rfl ?_
  refine bh (fun k:Nat=>([(1,.bU 56 [] [.lo 0 0]),(2,.lo 1 0),(4,.lo 2 0),(19,.d (.sl (Tm.aa t.l))),(20,iV t.l.length),(21,iV k)],([.box [iV cj]]:List Ob)++[.box [.d (.v (.int .i64 t.k)),.d (.v (.string t.s)),.d (.v (.int .i64 n')),.ow 3 k],.box [.d (.v (.int .i64 0)),.d (.v (.string ByteArray.empty)),.d (.v (.int .i64 0)),.d (.v (.slice none 0 0))],.arr 4 k (Tm.aa (Tm.dj (fun n=>IntKind.i64.wrap (n+cj)) (t.l.take k)))]))
   (fun k=>k≤t.l.length) (fun k=>t.l.length - k) 0 fy ⟨.refl _,.refl _,.refl _,.refl _,bM.int uD,.refl _,trivial⟩ rfl ?_
  intro k hk;refine af ?_;refine aj (fun h=>?_) fun h=>?_
  ·have aR:k<t.l.length:=bK h rfl;have e1:t.l[k]? = some t.l[k]:=dY aR;have hm:=Tm.ct (eg aR);refine cW (Tm.aB e1) ?_;refine iT hg.ok hg.cm hg.wide hg.Y [0] (ih _ (eg aR) an) cF rfl rfl rfl rfl rfl rfl rfl rfl (af ?_);refine Vp ?_;refine bb 4 _ sN rfl rfl ?_;exact Vs
  ·have aR:t.l.length≤k:=cf h rfl;refine aK hg 1 5 cP rfl ((nk rfl rfl rfl rfl rfl).trans ?_) rfl;rw[Ih aR,Tm.wy,if_neg ML];subst AD;rfl

theorem ND (Y:YP)(vs:List Int)(t:Tm):t.size<1000000000→aU Tryz.prog Y 55 [t.av,.bU 79 [] [.lo 0 0]] (G7 vs) (Tm.fS (jo vs) t).av (G7 vs):=by
 induction t using Tm.ind with
 |_ t ih =>
 intro hsz;have hl:=Tm.cI t.l;have hs:=Tm.size_eq t;refine mH4 Tryz.func55 fun w S φ hg=>?_
 have hφ:φ.length≤2:=Nat.le_of_eq hg.j5.len;obtain⟨n',AD⟩:∃n',n'=if t.k=1 then (jo vs) t.n else t.n:=⟨_,rfl⟩
 refine af ?_;refine aj (fun h=>?_) fun h=>?_
 ·have ML:t.k=1:=by simpa using h
  rw[if_pos ML]at AD;have hc:=NB Y t.n vs;rw[show iV _=iV n' from congrArg iV AD.symm]at hc;refine ai hg.ok hg.cm hg.wide hg.Y [0,1] (([.box [.mp 1],.map (cn (ki vs 0))]:List Ob)++[aP t,.box [.d (.v (.int .i64 0)),.d (.v (.string ByteArray.empty)),.d (.v (.int .i64 0)),.d (.v (.slice none 0 0))]]) hc cF rfl rfl rfl rfl rfl (QA (j6 _ _)) rfl (Eo (j6 _ _)) (af ?_);refine vB (([.box [.mp 1],.map (cn (ki vs 0))]:List Ob)++[.box [.d (.v (.int .i64 t.k)),.d (.v (.string t.s)),.d (.v (.int .i64 n')),.d (.v (.slice none 0 0))],.box [.d (.v (.int .i64 0)),.d (.v (.string ByteArray.empty)),.d (.v (.int .i64 0)),.d (.v (.slice none 0 0))]]) ?_ rfl ?_
  ·exact aku
  refine l9 2 3 4 rfl rfl rfl ?_
  refine bh (fun k:Nat=>([(1,.bU 79 [] [.lo 0 0]),(2,.lo 2 0),(4,.lo 3 0),(19,.d (.sl (Tm.aa t.l))),(20,iV t.l.length),(21,iV k)],([.box [.mp 1],.map (cn (ki vs 0))]:List Ob)++[.box [.d (.v (.int .i64 t.k)),.d (.v (.string t.s)),.d (.v (.int .i64 n')),.ow 4 k],.box [.d (.v (.int .i64 0)),.d (.v (.string ByteArray.empty)),.d (.v (.int .i64 0)),.d (.v (.slice none 0 0))],.arr 4 k (Tm.aa (Tm.dj (jo vs) (t.l.take k)))]))
   (fun k=>k≤t.l.length) (fun k=>t.l.length - k) 0 fy ⟨.refl _,.refl _,.refl _,.refl _,bM.int uD,.refl _,trivial⟩ rfl ?_
  intro k hk;refine af ?_;refine aj (fun h=>?_) fun h=>?_
  ·have aR:k<t.l.length:=bK h rfl;have e1:t.l[k]? = some t.l[k]:=dY aR;have hm:=Tm.ct (eg aR);refine cW (Tm.aB e1) ?_;refine iT hg.ok hg.cm hg.wide hg.Y [0,1] (ih _ (eg aR) an) cF rfl rfl rfl rfl rfl (QA (j6 _ _)) rfl (Eo (j6 _ _)) (af ?_);refine Vp ?_;refine aeb ?_;exact Vs
  ·have aR:t.l.length≤k:=cf h rfl;refine aK hg 2 5 cP rfl ((nk rfl rfl rfl rfl rfl).trans ?_) (Eo (mK cF _ _));rw[Ih aR,Tm.wy,if_pos ML];subst AD;rfl
 ·have ML:¬ t.k=1:=by simpa using h
  rw[if_neg ML]at AD;refine vB (([.box [.mp 1],.map (cn (ki vs 0))]:List Ob)++[.box [.d (.v (.int .i64 t.k)),.d (.v (.string t.s)),.d (.v (.int .i64 n')),.d (.v (.slice none 0 0))],.box [.d (.v (.int .i64 0)),.d (.v (.string ByteArray.empty)),.d (.v (.int .i64 0)),.d (.v (.slice none 0 0))]]) ?_ rfl ?_
  ·exact aku
  refine l9 2 3 4 rfl rfl rfl ?_
  refine bh (fun k:Nat=>([(1,.bU 79 [] [.lo 0 0]),(2,.lo 2 0),(4,.lo 3 0),(19,.d (.sl (Tm.aa t.l))),(20,iV t.l.length),(21,iV k)],([.box [.mp 1],.map (cn (ki vs 0))]:List Ob)++[.box [.d (.v (.int .i64 t.k)),.d (.v (.string t.s)),.d (.v (.int .i64 n')),.ow 4 k],.box [.d (.v (.int .i64 0)),.d (.v (.string ByteArray.empty)),.d (.v (.int .i64 0)),.d (.v (.slice none 0 0))],.arr 4 k (Tm.aa (Tm.dj (jo vs) (t.l.take k)))]))
   (fun k=>k≤t.l.length) (fun k=>t.l.length - k) 0 fy ⟨.refl _,.refl _,.refl _,.refl _,bM.int uD,.refl _,trivial⟩ rfl ?_
  intro k hk;refine af ?_;refine aj (fun h=>?_) fun h=>?_
  ·have aR:k<t.l.length:=bK h rfl;have e1:t.l[k]? = some t.l[k]:=dY aR;have hm:=Tm.ct (eg aR);refine cW (Tm.aB e1) ?_;refine iT hg.ok hg.cm hg.wide hg.Y [0,1] (ih _ (eg aR) an) cF rfl rfl rfl rfl rfl (QA (j6 _ _)) rfl (Eo (j6 _ _)) (af ?_);refine Vp ?_;refine aeb ?_;exact Vs
  ·have aR:t.l.length≤k:=cf h rfl;refine aK hg 2 5 cP rfl ((nk rfl rfl rfl rfl rfl).trans ?_) (Eo (mK cF _ _));rw[Ih aR,Tm.wy,if_neg ML];subst AD;rfl

theorem uf (t:Tm):(bH [t]).length≤t.size:=by
 have:=pM [t] [];simpa[vz,bH,Tm.ay]using this

theorem lT (t:Tm)(cj:Int)(hsz:t.size<1000000000)(hns:∀e∈t.gV 1,e.2.s.size<1000000000):bD Tryz.prog 29 [t.av,iV cj] (.cH [(qu t cj).1.av,iV (qu t cj).2]):=by
 have Qx:=uf t;refine zp Tryz.func29 fun w S hg=>?_
 refine aF (eY t hsz hns) ?_;refine aj (fun h=>?_) fun h=>?_
 ·refine cq ?_;have h:c0 t=false:=by simpa using h
  simp only[qu,h];rfl
 have hr:c0 t=true:=by simpa using h
 refine aj (fun h=>?_) fun h=>?_
 ·refine cq ?_;simp only[qu,hr,if_pos (of_decide_eq_true h)];rfl
 have hb:=of_decide_eq_false h;refine aF (tc [t] Sc).one ?_;generalize hV:bH [t]=V at *;refine bh (fun k:Nat=>([(2,.lo 0 0),(3,.lo 1 0),(4,.lo 2 0),(17,.d (.sl (di V))),(18,iV V.length),(19,iV k)],[aP t,.box [iV cj],.box [.d (.v (.int .i64 0)),.d (.v (.string ByteArray.empty)),.d (.v (.int .i64 0)),.d (.v (.slice none 0 0))]])) (fun k=>k≤V.length∧V.any (Nk cj)=(V.drop k).any (Nk cj)) (fun k=>V.length - k) 0 ⟨cT _,rfl⟩ ⟨.refl _,.refl _,.refl _,.refl _,bM.int PQ,.refl _,trivial⟩ rfl ?_;rintro k ⟨hk,hm⟩;refine af ?_;refine aj (fun h=>?_) fun h=>?_
 ·have aR:k<V.length:=bK h rfl;have e1:V[k]? = some V[k]:=dY aR;rw[List.drop_eq_getElem_cons aR,List.any_cons]at hm;refine cW (lg e1) ?_;refine aj (fun h=>?_) fun h=>?_
  ·refine cq ?_;have hbv:Nk cj V[k]=true:=h;simp only[qu,hr,if_neg hb,hV,hm,hbv,Bool.true_or];rfl
  ·have hbv:Nk cj V[k]=false:=h;refine bp (k+1) ⟨aR,by rw[hm,hbv,zA]⟩ an ⟨.refl _,.refl _,.refl _,.refl _,.refl _,bM.wrap an an an,trivial⟩ rfl
 ·have aR:V.length≤k:=cf h rfl;rw[gD aR,List.any_nil]at hm;refine wi hg.ok hg.cm ⟨rfl,rfl⟩ (fun _ _ _ _ h=>by cases h) [1] (NC ⟨[],fun _=>true⟩ cj t hsz) cF rfl rfl rfl rfl rfl rfl rfl (af ?_);refine cq ?_;simp only[qu,hr,if_neg hb,hV,hm];rfl

theorem NF {l:List Int}{x:Int}(h:l.Nodup):(jT l x).Nodup:=by
 unfold jT;split
 ·exact h
 ·rename_i hc;rw[vN];refine⟨h,by simp,fun a ha b hb=>?_⟩;simp at hb;subst hb;rintro rfl;exact hc (by simpa using ha)

theorem y3:∀ (l:List (Int × Tm)) (a:List Int),a.Nodup→(l.foldl fJ a).Nodup
 |[],a,h=>h
 |e::l,a,h=>by
  refine y3 l _ ?_;unfold fJ;split
  ·exact NF h
  ·exact h

theorem y4:∀ (l:List Tm) (a:List Int),a.Nodup→(vz a l).Nodup
 |[],a,h=>h
 |t::l,a,h=>y4 l _ (y3 _ _ h)
theorem Ko (l:List Tm):(bH l).Nodup:=y4 l [] aC

theorem G8 {l:List Int}(h:l.Nodup){k:Nat}(hk:k<l.length):l[k] ∉ l.take k:=by
 intro hm;obtain⟨i,hi,e⟩:=aa7.1 hm;rw[zz]at hi;rw[List.getElem_take]at e;have:=(List.nodup_iff_pairwise_ne.1 h);rw[List.pairwise_iff_getElem]at this;exact this i k an hk an e

theorem uh (l:List Tm)(hsz:Tm.ay l<1000000000)(hns:∀t∈l,∀e∈t.gV 1,e.2.s.size<1000000000):bD Tryz.prog 54 [.d (.sl (Tm.aa l))] (.cH [.d (.sl (Tm.aa (dH l).1)),iV (dH l).2.1,iV (dH l).2.2]):=by
 have hl:=Tm.cI l;have Qx:(bH l).length≤Tm.ay l:=by have:=pM l [];simpa[vz,bH]using this
 refine bD.ej (pf:=fun _=>.look 0) gK mixed Tryz.func54 rfl cX cX (by simp[Tryz.ntmps54]) fun w S hg=>?_
 refine af ?_;refine bh (fun k:Nat=>([(0,.d (.sl (Tm.aa l))),(13,.d (.sl (Tm.aa l))),(14,iV l.length),(15,iV k)],[])) (fun k=>k≤l.length∧l.all c0=(l.drop k).all c0) (fun k=>l.length - k) 0 ⟨cT _,rfl⟩ ⟨.refl _,.refl _,bM.int uD,.refl _,trivial⟩ rfl ?_;rintro k ⟨hk,hm⟩;refine af ?_;refine aj (fun h=>?_) fun h=>?_
 ·have aR:k<l.length:=bK h rfl;have e1:l[k]? = some l[k]:=dY aR;have hsm:=Tm.ct (eg aR);rw[List.drop_eq_getElem_cons aR,rE]at hm;refine cW (Tm.aB e1) ?_;refine aF (eY l[k] an (hns _ (eg aR))) ?_;refine aj (fun h=>?_) fun h=>?_
  ·refine cq ?_;have h:c0 l[k]=false:=by simpa using h
   simp only[dH,hm,h,vO];rfl
  ·have h:c0 l[k]=true:=by simpa using h
   refine uB 0 fy rfl ?_;refine bp (k+1) ⟨aR,by rw[hm,h,jX]⟩ an af9 rfl
 have aR:l.length≤k:=cf h rfl;rw[gD aR,List.all_nil]at hm;refine DB ?_;refine aF (tc l hsz) ?_;have p8:=Ko l;generalize hV:bH l=V at *;refine bh (fun k:Nat=>([(0,.d (.sl (Tm.aa l))),(7,.lo 1 0),(25,.d (.sl (di V))),(26,iV V.length),(27,iV k)],[.map (cn (ki (V.take k) 0)),.box [.mp 0]])) (fun k=>k≤V.length) (fun k=>V.length - k) 0 fy ⟨.refl _,.refl _,.refl _,bM.int PQ,.refl _,trivial⟩ rfl ?_;intro k hk;refine af ?_;refine aj (fun h=>?_) fun h=>?_
 ·have aR:k<V.length:=bK h rfl;have e1:V[k]? = some V[k]:=dY aR;refine cW (lg e1) ?_;refine EU hg.ok (ki (V.take k) 0) (ki (V.take (k+1)) 0) rfl rfl rfl rfl rfl rfl rfl (by rw[BS _ _ _ (gP _),yW (G8 p8 aR)];rfl) rfl (by rw[I5,e1,Option.toList_some,← EM,zz,Ge hk,Int.zero_add];rfl) (af ?_);exact VC
 have aR:V.length≤k:=cf h rfl;rw[Ih aR];refine JL 10 4 rfl rfl ?_;refine bh (fun k:Nat=>([(7,.lo 1 0),(10,.ow 2 k),(36,.d (.sl (Tm.aa l))),(37,iV l.length),(38,iV k)],[.map (cn (ki V 0)),.box [.mp 0],.arr 4 k (Tm.aa (Tm.dj (jo V) (l.take k)))])) (fun k=>k≤l.length) (fun k=>l.length - k) 0 fy ⟨.refl _,.refl _,.refl _,bM.int uD,.refl _,trivial⟩ rfl ?_;intro k hk;refine af ?_;refine aj (fun h=>?_) fun h=>?_
 ·have aR:k<l.length:=bK h rfl;have e1:l[k]? = some l[k]:=dY aR;have hsm:=Tm.ct (eg aR);refine cW (Tm.aB e1) ?_;refine iT hg.ok hg.cm ⟨rfl,rfl⟩ (fun _ _ _ _ h=>by cases h) [1,0] (ND ⟨[],fun _=>true⟩ V l[k] an) cF rfl rfl rfl rfl rfl (QA (j6 _ _)) rfl (aeZ (j6 _ _)) (af ?_);refine Vp ?_;refine bb 3 _ fy rfl (aeZ (mK cF _ _)) ?_;exact VC
 ·have aR:l.length≤k:=cf h rfl;refine Px ?_;have aZ:(cn (ki V 0)).length=V.length:=by simp[cn,J0]
  simp only[dH,hV,hm,if_true,Ih aR,aZ];rfl
end Go.Proofs.YtaagocopollacaaGreatDoor

namespace aw
open Go Go.RowKit Go.MapKept

variable{Fin:Exit→Act→World→Prop}{gd:Option (Nat × Bool)}{s n:ByteArray}{after:Array Edge}{ad:Array Oper}{dst:Option Nat}{ax:List Oper}{pf:Nat→cC}{objs:List Ob}{pos:String}{k:List It}{z:List Value}{ty T:Nat}{E:bk}{a b:Int}{g:G}
def dI:List (ByteArray × AV)→ByteArray→Option AV
 |[],_=>none
 |p::r,n=>if p.1=n then some p.2 else dI r n
def eI (l:List (ByteArray × AV)):List (Value × AV):=l.map fun p=>(.string p.1,p.2)

theorem iL{n:ByteArray}:∀ {l:List (ByteArray × AV)} {i:Nat},∃r,lS .string (.string n) (eI l) i=some r∧r.map (·.2)=dI l n
 |[],i=>⟨none,rfl,rfl⟩
 |p::l,i=>by
  obtain⟨r0,h1,h2⟩:=sameNow_of_keys (d:=.string) (a:=.string n) (b:=.string p.1) trivial trivial;simp only[dI];by_cases h:p.1=n
  ·have h3:r0=true:=h2.2 (by rw [h]);refine⟨some (i,p.2),?_,by simp[h]⟩;simp only[eI,List.map_cons,lS,h1,h3]
  ·have h3:r0=false:=by
    grind
   obtain⟨r,h4,h5⟩:=iL (n:=n) (l:=l) (i:=i+1);refine⟨r,?_,by simp_all⟩;simp only[eI,List.map_cons,lS,h1,h3];exact h4

theorem Fq(hg:c9 g){x y:Operand}{ok:Bool}
  {i q cj q' oU kt et:Nat} {z z':List Value}  {zv:Value} (l:List (ByteArray × AV))
  (bm:aG ad.toList E gd=some true) (hd:aO ⟨g.ty,g.N⟩ dst=true) (hx:ev E x=.mp i) (ho:dk objs i=some (.map (eI l))) (hy:ev E y=.d (.v (.string n))) (hT:g.ty T=some ⟨q,cj,z,.map kt et⟩)
  (oC:g.ty kt=some ⟨q',oU,z',.str⟩) (hz:(g.P.info? et).bind (·.zero)=some zv) {v:AV} (hv:jn ok (lO zv) (dI l n)=v)
  (hr:R g pf Fin (.dr ad ax::k) (bf E dst v) objs):R g pf Fin (.dr ad (⟨dst,.lookup T x y ok,ty,pos,after,gd⟩::ax)::k) E objs:=by
 subst hv;have hu:=(hg.ty _ _ oC).sh;simp only[bA]at hu;obtain⟨r,h1,h2⟩:=iL (n:=n) (l:=l) (i:=0);refine JY hg bm hd hx ho hy hT hu MB h1 hz ?_;have:pq ok (lO zv) r=jn ok (lO zv) (dI l n):=by rw[← h2];cases r<;>rfl
 simp_all

theorem yb(hg:c9 g){x y v:Operand}
  {i q cj q' oU kt et:Nat} {z z':List Value}  {av:AV} (l l':List (ByteArray × AV))
  (bm:aG ad.toList E gd=some true) (hd:aO ⟨g.ty,g.N⟩ dst=true) (hx:ev E x=.mp i) (ho:dk objs i=some (.map (eI l))) (hy:ev E y=.d (.v (.string n))) (hT:g.ty T=some ⟨q,cj,z,.map kt et⟩)
  (oC:g.ty kt=some ⟨q',oU,z',.str⟩) (hf:dI l n=none) (XY:ev E v=av) (hl:l++[(n,av)]=l')
  (hr:R g pf Fin (.dr ad ax::k) (bf E dst .any) (da objs i (.map (eI l')))):R g pf Fin (.dr ad (⟨dst,.mapUpdate T x y v,ty,pos,after,gd⟩::ax)::k) E objs:=by
 subst hl;subst XY;have hu:=(hg.ty _ _ oC).sh;simp only[bA]at hu;obtain⟨r,h1,h2⟩:=iL (n:=n) (l:=l) (i:=0);have:r=none:=by rw[hf]at h2;cases r with
  |none=>rfl
  |some _=>simp at h2
 subst this;refine JZ hg bm hd hx ho hy hT hu MB h1 ?_;have e:eI l++[(Value.string n,ev E v)]=eI (l++[(n,ev E v)]):=by simp[eI]
 simp_all

theorem XZ(hg:c9 g){x y v:Operand}
  {i q cj kt et:Nat}  {es:List (Value × AV)} {kv:Value} {kd:TypeDesc}
  (bm:aG ad.toList E gd=some true) (hd:aO ⟨g.ty,g.N⟩ dst=true) (hx:ev E x=.mp i) (ho:dk objs i=some (.map es)) (hy:ev E y=.d (.v kv)) (hT:g.ty T=some ⟨q,cj,z,.map kt et⟩)
  (oC:g.P.underlying kt=some kd) (AO:IsKey kd kv) (hf:lS kd kv es 0=some none)
  (hr:R g pf Fin (.dr ad ax::k) (bf E dst .any) (da objs i (.map (es++[(kv,ev E v)])))):R g pf Fin (.dr ad (⟨dst,.insert T x y v,ty,pos,after,gd⟩::ax)::k) E objs:=by
 refine cL (aI.eT hg (pr ho) bm hd aC fun φ a w hρ hs=>?_) hr;simp only[Op.operands]at hρ;have aN:=hρ x aC;rw[hx]at aN;have ew:=hρ y aC;rw[hy]at ew;have hvv:=hρ v aC;simp only[RV]at aN ew;exact mB6

theorem jb(hg:c9 g){x y v:Operand}
  {i q cj q' oU kt et:Nat} {z z':List Value}  {av:AV} (l l':List (ByteArray × AV))
  (bm:aG ad.toList E gd=some true) (hd:aO ⟨g.ty,g.N⟩ dst=true) (hx:ev E x=.mp i) (ho:dk objs i=some (.map (eI l))) (hy:ev E y=.d (.v (.string n))) (hT:g.ty T=some ⟨q,cj,z,.map kt et⟩)
  (oC:g.ty kt=some ⟨q',oU,z',.str⟩) (hf:dI l n=none) (XY:ev E v=av) (hl:l++[(n,av)]=l')
  (hr:R g pf Fin (.dr ad ax::k) (bf E dst .any) (da objs i (.map (eI l')))):R g pf Fin (.dr ad (⟨dst,.insert T x y v,ty,pos,after,gd⟩::ax)::k) E objs:=by
 subst hl;subst XY;have hu:=(hg.ty _ _ oC).sh;simp only[bA]at hu;obtain⟨r,h1,h2⟩:=iL (n:=n) (l:=l) (i:=0);have:r=none:=by rw[hf]at h2;cases r with
  |none=>rfl
  |some _=>simp at h2
 subst this;refine XZ hg bm hd hx ho hy hT hu MB h1 ?_;have e:eI l++[(Value.string n,ev E v)]=eI (l++[(n,ev E v)]):=by simp[eI]
 simp_all
def Kp (x:Int):Bool:=decide (-9223372036854775808≤x)&&decide (x≤9223372036854775807)
theorem lG{x:Int}:Kp x=true↔jt x:=by simp[Kp,jt]
def zX (x:Int):Int × Bool:=if Kp x then (x,true) else (0,false)
theorem X2{x:Int}(h:jt x):zX x=(x,true):=by unfold zX;rw[if_pos (lG.2 h)]

theorem Ac(x:Int):jt (zX x).1:=by
 unfold zX;split
 ·rename_i h;exact lG.1 h
 ·unfold jt;simp
theorem y5(x:Int):(zX x).2=Kp x:=by unfold zX;grind
def kF:ByteArray:=⟨#[43]⟩
def eZ:ByteArray:=⟨#[45]⟩
def u1:ByteArray:=⟨#[42]⟩
def yc:ByteArray:=⟨#[47,47]⟩
def DY:ByteArray:=⟨#[109,111,100]⟩
def BT (s:ByteArray):Bool:=bE s kF || bE s eZ || bE s u1 || bE s yc || bE s DY

def tU (a b:Int):Int:=if a.tmod b≠0∧¬ (a.tmod b<0↔b<0) then a.tmod b+b else a.tmod b

def zW (s:ByteArray)(a b:Int):Int × Bool :=
 if bE s kF then zX (a+b) else if bE s eZ then zX (a - b) else if bE s u1 then zX (a * b)
 else if b=0 then (0,false) else if bE s yc then zX (a.tdiv b) else zX (tU a b)

theorem abU(s:ByteArray)(a b:Int):jt (zW s a b).1:=by
 unfold zW;split
 ·exact Ac _
 ·split
  ·exact Ac _
  ·split
   ·exact Ac _
   ·split
    ·unfold jt;simp
    ·split<;>exact Ac _
def AJ (r:Int × Bool):Int × Int:=if r.2 then (r.1,0) else (0,6)

def ny (k:Int)(s:ByteArray)(n:Int)(L:List (Int × Int)):Int × Int :=
 if k=1 then (0,4) else if k=2 then (n,0) else
 match L with
 |[x]=>if bE s eZ then (if x.2≠0 then (0,x.2) else AJ (zW s 0 x.1)) else (0,5)
 |[x,y]=>if BT s then (if x.2≠0 then (0,x.2) else if y.2≠0 then (0,y.2) else AJ (zW s x.1 y.1)) else (0,5)
 |_=>(0,5)
theorem X3{k n:Int}{L:List (Int × Int)}(h:k=1):ny k s n L=(0,4):=by unfold ny;exact if_pos h
theorem X4{k n:Int}{L:List (Int × Int)}(h:¬ k=1)(h2:k=2):ny k s n L=(n,0):=by unfold ny;simp_all
theorem abV{k n:Int}(h:¬ k=1)(h2:¬ k=2):ny k s n []=(0,5):=by unfold ny;simp_all
theorem QZ{k n:Int}{x:Int × Int}(h:¬ k=1)(h2:¬ k=2):ny k s n [x]=if bE s eZ then (if x.2≠0 then (0,x.2) else AJ (zW s 0 x.1)) else (0,5):=by unfold ny;simp_all
theorem Q0{k n:Int}{x y:Int × Int}(h:¬ k=1)(h2:¬ k=2):ny k s n [x,y]=if BT s then (if x.2≠0 then (0,x.2) else if y.2≠0 then (0,y.2) else AJ (zW s x.1 y.1)) else (0,5):=by unfold ny;simp_all
theorem abW{k n:Int}{x y z:Int × Int}{r:List (Int × Int)}(h:¬ k=1)(h2:¬ k=2):ny k s n (x::y::z::r)=(0,5):=by unfold ny;simp_all
namespace Tm

mutual
def ez:Tm→Int × Int
 |mk k s n l=>ny k s n (u2 l)
def u2:List Tm→List (Int × Int)
 |[]=>[]
 |x::r=>ez x::u2 r
end
theorem BU(t:Tm):ez t=ny t.k t.s t.n (u2 t.l):=by cases t;simp only[ez];rfl
theorem Fit.sub{t x:Tm}(h:t.Fit)(hx:x∈t.l):x.Fit:=fun d e he=>h (d - 1) e aj2

theorem td{t:Tm}(h:t.Fit):jt (ez t).1:=by
 have h0:jt 0:=by unfold jt;omega
 have hn:jt t.n:=(h 0 (0,t) (by rw[kr];simp)).2
 have ho:∀s a b,jt (AJ (zW s a b)).1:=fun s a b=>by
  unfold AJ;split
  ·exact abU s a b
  ·exact h0
 rw[BU];unfold ny
 grind
end Tm
def bt (t:Tm):Int × Int:=if t.bS then Tm.ez t else (0,1)

theorem X5(n:Int):IntKind.i64.wrap n=if n % 18446744073709551616 ≥ 9223372036854775808 then n % 18446744073709551616 - 18446744073709551616 else n % 18446744073709551616:=by
 simp[IntKind.wrap,IntKind.signed,IntKind.bits]

theorem abX(ha:jt a)(hb:jt b):(decide (IntKind.i64.wrap (a+b)<a)==decide (b<0))=Kp (a+b)∧(Kp (a+b)=true→IntKind.i64.wrap (a+b)=a+b):=by
 unfold jt at ha hb;rw[X5];constructor
 ·rw [vK];simp only[Kp,beq_iff_eq,aV,decide_eq_true_eq,decide_eq_decide];split<;>omega
 ·rw[lG];unfold jt;omega

theorem abY(ha:jt a)(hb:jt b):(decide (IntKind.i64.wrap (a - b) > a)==decide (b<0))=Kp (a - b)∧(Kp (a - b)=true→IntKind.i64.wrap (a - b)=a - b):=by
 unfold jt at ha hb;rw[X5];constructor
 ·rw [vK];simp only[Kp,beq_iff_eq,aV,decide_eq_true_eq,decide_eq_decide];split<;>omega
 ·rw[lG];unfold jt;omega

theorem BV(p a:Int)(ha:a≠0):(0≤p→-p≤p.tdiv a∧p.tdiv a≤p)∧(p≤0→p≤p.tdiv a∧p.tdiv a≤-p):=by
 have h:=Int.natAbs_tdiv_le_natAbs p a;omega

theorem u3(p a:Int)(ha:a≠0):∃r,p=a * p.tdiv a+r∧r.natAbs<a.natAbs:=by
 refine⟨p.tmod a,(Int.mul_tdiv_add_tmod p a).symm,?_⟩;rw[Int.natAbs_tmod];exact Nat.mod_lt _ an

theorem abZ(ha:jt a)(hb:jt b)(h0:a≠0)(h1:a≠-1):(IntKind.i64.wrap ((IntKind.i64.wrap (a * b)).tdiv a)==b)=Kp (a * b)∧(Kp (a * b)=true→IntKind.i64.wrap (a * b)=a * b):=by
 unfold jt at ha hb
 have hw:∀x,-9223372036854775808≤IntKind.i64.wrap x∧IntKind.i64.wrap x≤9223372036854775807∧∃q,IntKind.i64.wrap x=x+q * 18446744073709551616:=fun x=>by
  rw[X5];have h2:=Int.emod_nonneg x (show (18446744073709551616:Int)≠0 by decide);have h3:=Int.emod_lt_of_pos x (show (0:Int)<18446744073709551616 by decide);split
  ·exact⟨by omega,by omega,-(x / 18446744073709551616) - 1,by omega⟩
  ·exact⟨by omega,by omega,-(x / 18446744073709551616),by omega⟩
 have hid:Kp (a * b)=true→IntKind.i64.wrap (a * b)=a * b:=fun h=>by
  rw[lG]at h;unfold jt at h;exact jL an an
 refine⟨?_,hid⟩;rw[vK,beq_iff_eq];obtain⟨p1,p2,q,hq⟩:=hw (a * b);generalize hp:IntKind.i64.wrap (a * b)=p at *;have zF:=BV p a h0
 have aoZ:IntKind.i64.wrap (p.tdiv a)=p.tdiv a:=by
  by_cases hm:p=-9223372036854775808
  ·have h3:=Int.natAbs_tdiv_le_natAbs p a
   have:p.tdiv a≠9223372036854775808:=fun e=>by
    obtain⟨r,h4,h5⟩:=u3 p a h0;rw[e]at h4;omega
   exact jL an an
  ·exact jL an an
 rw[aoZ];constructor
 ·intro e;obtain⟨r,h4,h5⟩:=u3 p a h0;rw[e]at h4;have:q=0:=by omega
  rw[lG];unfold jt;subst this;omega
 simp_all

theorem Q1(ha:jt a)(hb0:b≠0):(Kp (a.tdiv b)=true↔¬ (a=-9223372036854775808∧b=-1)):=by
 unfold jt at ha;have h:=BV a b hb0;rw[lG];unfold jt;constructor
 ·rintro h2 ⟨rfl,rfl⟩
  simp_all
 ·intro h2;by_cases hm:a=-9223372036854775808
  ·have Q2:b≠-1:=fun e=>h2 ⟨hm,e⟩
   have:a.tdiv b≠9223372036854775808:=fun e=>by
    obtain⟨r,h4,h5⟩:=u3 a b hb0
    grind
   omega
  ·omega

theorem ab1(a b:Int)(hb:b≠0):(a.tmod b).natAbs<b.natAbs∧(0≤a→0≤a.tmod b)∧(a≤0→a.tmod b≤0):=by
 refine⟨by rw[Int.natAbs_tmod];exact Nat.mod_lt _ an,fun h=>Int.tmod_nonneg b h,fun h=>?_⟩;have:=Int.tmod_nonneg b (a:=-a) an
 simp_all

theorem BW(hb:b≠0):(0<b→0≤tU a b∧tU a b<b)∧(b<0→b<tU a b∧tU a b≤0):=by
 obtain⟨h1,h2,h3⟩:=ab1 a b hb;unfold tU;omega

theorem X6(hb:jt b)(h0:b≠0):jt (tU a b):=by
 have:=BW (a:=a) h0;unfold jt at hb ⊢;omega
end aw
namespace aw
open Go

theorem ui {a b:ByteArray}(h:a≠b):bE a b=false:=by
 cases e:bE a b with
 |false=>rfl
 |true=>exact absurd (Tm.bo.1 e) h
theorem te (a:ByteArray):bE a a=true:=Tm.bo.2 rfl
theorem X7 (a b:Int):zW kF a b=zX (a+b):=by unfold zW;rw[te];rfl
theorem Tp (a b:Int):zW eZ a b=zX (a - b):=by unfold zW;rw[ui (show eZ≠kF by decide),te];rfl
theorem ab2 (a b:Int):zW u1 a b=zX (a * b):=by unfold zW;rw[ui (show u1≠kF by decide),ui (show u1≠eZ by decide),te];rfl
theorem ab3 (a b:Int):zW yc a b=if b=0 then (0,false) else zX (a.tdiv b):=by unfold zW;rw[ui (show yc≠kF by decide),ui (show yc≠eZ by decide),ui (show yc≠u1 by decide),te];rfl
theorem ab4 (a b:Int):zW DY a b=if b=0 then (0,false) else zX (tU a b):=by unfold zW;rw[ui (show DY≠kF by decide),ui (show DY≠eZ by decide),ui (show DY≠u1 by decide),ui (show DY≠yc by decide)];rfl

theorem NG {s:ByteArray}(h:BT s=true):s=kF∨s=eZ∨s=u1∨s=yc∨s=DY:=by
 simp only[BT,mS,Tm.bo]at h
 grind

theorem BX {s:ByteArray}(h:BT s=false):s≠kF∧s≠eZ∧s≠u1∧s≠yc∧s≠DY:=by
 simp only[BT,DI]at h;have key:∀ {b},bE s b=false→s≠b:=fun h e=>by rw[e,te]at h;cases h
 simp_all
end aw
namespace aw
open Go Go.RowKit

theorem yd {g:G}{pf:Nat→cC}{ad:Array Oper}{Fin:Exit→Act→World→Prop}(hg:c9 g)(hu:Iu g)(hF:g.F=Fence.wide∧g.dep=0)(hY:∀ (i l:Nat) (I:Nat→(Nat→Prop)→(Nat→Prop)→World→Prop) (B:Nat→Prop),g.φ0[i]? = some (bB.ext l I B)→lQ g.P Fence.wide 0 g.Y l I g.S0)(objs':List Ob){Y:YP}{f:Nat}{dM:List AV}{a8:List Ob}{r:AV}(hc:aU g.P Y f dM [] r a8)(uH:(∃ (i l:Nat) (I:Nat→(Nat→Prop)→(Nat→Prop)→World→Prop) (B:Nat→Prop),g.φ0[i]? = some (bB.ext l I B))→Y=g.Y){dst:Option Nat}{x:Operand}{args:Array Operand}{ts:Array Nat}{ty:Nat}{pos:String}{after:Array Edge}{gd:Option (Nat × Bool)}
  {ax:List Oper} {k:List It} {E:bk} {objs:List Ob} {fs cs:List AV}
  (bm:aG ad.toList E gd=some true) (hd:aO ⟨g.ty,g.N⟩ dst=true) (dV:bI pf (.call { callee:=.value x,args:=args,argTypes:=ts })=.bO 0) (hx:ev E x=.bU f fs cs)
  (has:(fs++args.toList.map (ev E)++cs).map lB=iu (rn [] (len objs)) dM) (ho:objs++a8.map (bz (rn [] (len objs)))=objs')
  (hr:R g pf Fin (.dr ad ax::k) (bf E dst (c8 (rn [] (len objs)) r)) objs') :
  R g pf Fin (.dr ad (⟨dst,.call { callee:=.value x,args:=args,argTypes:=ts },ty,pos,after,gd⟩::ax)::k) E objs:=by
 subst ho;refine cL ?_ hr;show aI g ad _ E objs (bI pf (.call { callee:=.value x,args:=args,argTypes:=ts })) _ _
 rw[dV];have h:=mM (ad:=ad) (after:=after) (pos:=pos) (ty:=ty) (ts:=ts) (dst:=dst) hg hu hF hY [] hc uH bm hd hx rfl rfl has
 refine⟨fun hn=>absurd rfl (hn 0),fun b hb _=>?_,fun E₁ o₁ jl a w h1 h2 h3=>h.step E₁ o₁ jl a w h1 (by
  rcases h2 with ⟨h2,_⟩ |⟨m,h2,_⟩ |h2
  ·cases h2
  ·cases h2
  ·exact .inr (.inr h2)) h3⟩
 cases hb;exact .add _ _

def DZ (s:ByteArray)(a b:Int):Bool × Int :=
 if bE s ⟨#[61,58,61]⟩ then (a==b,0) else if bE s ⟨#[61,92,61]⟩ then (a != b,0) else if bE s ⟨#[60]⟩ then (decide (a<b),0)
 else if bE s ⟨#[62]⟩ then (decide (a > b),0) else if bE s ⟨#[61,60]⟩ then (decide (a≤b),0) else if bE s ⟨#[62,61]⟩ then (decide (a ≥ b),0) else (false,1)
end aw
namespace aw
open Go Go.RowKit

theorem bD.res {P:Program}{f:Nat}{dM:List AV}{r r':AV}(h:bD P f dM r)(hl:Iv r r'=true):bD P f dM r' :=
 ⟨h.call,fun S w bL ha hS hv cs=>let ⟨e,w',fr,⟨v,e1,h2,h3⟩,s,x⟩:=h.run S w bL ha hS hv cs;⟨e,w',fr,⟨v,e1,Xo hl h2,h3⟩,s,x⟩⟩
end aw

namespace Go.Proofs.YtaagocopollacaaGreatDoor
open Go aw Go.Proofs

def Tq (f:Nat)(s:ByteArray):Prop:=∀a b:Int,jt a→jt b→∃v,bD Tryz.prog f [iV a,iV b] (.cH [iV v,bV (zW s a b).2])∧((zW s a b).2=true→v=(zW s a b).1)

theorem Kq {x v:Int}(h:Kp x=true→v=x):(zX x).2=true→v=(zX x).1:=fun h2=>by
 rw[y5]at h2;rw[h h2];unfold zX;rw[if_pos h2]

theorem X8:Tq 177 kF:=fun a b ha hb=>by
 obtain⟨h1,h2⟩:=abX ha hb;rw[X7];refine⟨_,?_,Kq h2⟩;rw[y5,← h1];refine oY Tryz.func177 fun w S hg=>?_
 refine cq ?_;rfl

theorem X9:Tq 178 eZ:=fun a b ha hb=>by
 obtain⟨h1,h2⟩:=abY ha hb;rw[Tp];refine⟨_,?_,Kq h2⟩;rw[y5,← h1];refine oY Tryz.func178 fun w S hg=>?_
 refine cq ?_;rfl

theorem Ya:Tq 179 u1:=fun a b ha hb=>by
 rw[ab2];by_cases h0:a=0∨b=0
 ·have e:a * b=0:=by rcases h0 with h | h <;> rw [h] <;> simp
  rw[e,X2 (by unfold jt;omega)];refine⟨0,?_,fun _=>rfl⟩;refine oY Tryz.func179 fun w S hg=>?_
  refine aj (fun h1=>?_) fun h1=>?_
  ·refine cq ?_;rfl
  ·refine aj (fun h2=>?_) fun h2=>?_
   ·refine cq ?_;rfl
   ·simp at h1 h2;omega
 ·have h0a:a≠0:=fun e=>h0 (.inl e)
  have h0b:b≠0:=fun e=>h0 (.inr e)
  by_cases h1:a=-1
  ·have e:a * b=-b:=by rw [h1]; omega
   rw[e];unfold jt at hb;refine⟨IntKind.i64.wrap (0 - b),?_,Kq fun h=>?_⟩
   ·rw[y5,show Kp (-b)=(b != -9223372036854775808) by
     rw[vK,lG];unfold jt;simp;omega]
    refine oY Tryz.func179 fun w S hg=>?_
    refine en hg.ok rfl rfl (by simp;exact h0a) rfl rfl ?_;refine en hg.ok rfl rfl (by simp;exact h0b) rfl rfl ?_;refine cQ hg.ok rfl rfl (by simp;exact h1) rfl rfl ?_;refine cq ?_;rfl
   ·rw [lG] at h; unfold jt at h;rw[jL an an];omega
  ·obtain ⟨h2,h3⟩:=abZ ha hb h0a h1;refine⟨_,?_,Kq h3⟩;rw[y5,← h2];refine oY Tryz.func179 fun w S hg=>?_
   refine en hg.ok rfl rfl (by simp;exact h0a) rfl rfl ?_;refine en hg.ok rfl rfl (by simp;exact h0b) rfl rfl ?_;refine en hg.ok rfl rfl (by simp;exact h1) rfl rfl ?_;refine Xq hg.ok rfl rfl rfl rfl h0a (af ?_);refine cq ?_;rfl

theorem Yb:Tq 180 yc:=fun a b ha hb=>by
 rw[ab3];by_cases h0:b=0
 ·rw [if_pos h0];refine⟨0,?_,fun h=>by cases h⟩;refine oY Tryz.func180 fun w S hg=>?_
  refine cQ hg.ok rfl rfl (by simp;exact h0) rfl rfl ?_;refine cq ?_;rfl
 ·rw [if_neg h0];by_cases h1:a=-9223372036854775808∧b=-1
  ·have e:Kp (a.tdiv b)=false:=by
    rw[← Bool.not_eq_true,Q1 ha h0];exact fun h=>h h1
   refine⟨0,?_,fun h=>by rw[y5,e]at h;cases h⟩;rw[y5,e];refine oY Tryz.func180 fun w S hg=>?_
   refine VN ?_;refine cQ hg.ok rfl rfl (by simp;exact h1.1) rfl rfl ?_;refine cQ hg.ok rfl rfl (by simp;exact h1.2) rfl rfl ?_;refine cq ?_;rfl
  ·have e:=(Q1 ha h0).2 h1;have e2:=lG.1 e;refine⟨a.tdiv b,?_,Kq fun _=>rfl⟩;rw[y5,e];unfold jt at e2;refine oY Tryz.func180 fun w S hg=>?_
   refine VN ?_;refine aj (fun h2=>?_) fun h2=>?_
   ·refine en hg.ok rfl rfl (by simp at h2 ⊢; exact fun h=>h1 ⟨h2,h⟩) rfl rfl ?_;refine Xq hg.ok rfl rfl rfl rfl h0 (af ?_);refine cq ?_;rw[jL an an];rfl
   ·refine Xq hg.ok rfl rfl rfl rfl h0 (af ?_);refine cq ?_;rw[jL an an];rfl

theorem Yc:Tq 181 DY:=fun a b ha hb=>by
 rw[ab4];by_cases h0:b=0
 ·rw [if_pos h0];refine⟨0,?_,fun h=>by cases h⟩;refine oY Tryz.func181 fun w S hg=>?_
  refine cQ hg.ok rfl rfl (by simp;exact h0) rfl rfl ?_;refine cq ?_;rfl
 ·rw [if_neg h0];have hm:=X6 (a:=a) hb h0;have MQ:=BW (a:=a) h0;rw[X2 hm];refine⟨tU a b,?_,fun _=>rfl⟩;unfold jt at hm;refine oY Tryz.func181 fun w S hg=>?_
  refine VN ?_;by_cases h1:b=-1
  ·refine cQ hg.ok rfl rfl (by simp; exact h1) rfl rfl ?_;refine cq ?_;rw[show tU a b=0 by omega];rfl
  ·refine en hg.ok rfl rfl (by simp; exact h1) rfl rfl ?_;refine alM hg.ok rfl rfl rfl rfl h0 (af ?_);refine aj (fun h2=>?_) fun h2=>?_
   ·refine aj (fun h3=>?_) fun h3=>?_
    ·refine cq ?_
     have e:tU a b=a.tmod b+b:=by
      unfold tU;rw[if_pos];simp at h2 h3;refine⟨h2,fun h=>?_⟩;apply h3;simp[h]
     rw[e,jL an an];rfl
    ·refine cq ?_
     have e:tU a b=a.tmod b:=by
      unfold tU;rw[if_neg];simp at h2 h3;rintro⟨_,h⟩;exact h h3
     rw[e];rfl
   ·refine cq ?_
    have e:tU a b=a.tmod b:=by
     unfold tU;rw[if_neg];simp at h2;rintro⟨h,_⟩;exact h h2
    rw[e];rfl
def oH:List (ByteArray × AV):=[(kF,.bU 177 [] []),(eZ,.bU 178 [] []),(u1,.bU 179 [] []),(yc,.bU 180 [] []),(DY,.bU 181 [] [])]

theorem Yd (Y:YP):aU Tryz.prog Y 164 [] [] (.mp 0) [.map (eI oH)]:=by
 refine uw Tryz.func164 fun w S φ hg=>?_
 refine Eg hg.ok rfl rfl ?_;refine jb hg.ok [] [(kF,.bU 177 [] [])] rfl rfl rfl rfl rfl rfl rfl fi vH vH ?_;refine jb hg.ok [(kF,.bU 177 [] [])] [(kF,.bU 177 [] []),(eZ,.bU 178 [] [])] rfl rfl rfl rfl rfl rfl rfl fi vH vH ?_;refine jb hg.ok [(kF,.bU 177 [] []),(eZ,.bU 178 [] [])] [(kF,.bU 177 [] []),(eZ,.bU 178 [] []),(u1,.bU 179 [] [])] rfl rfl rfl rfl rfl rfl rfl fi vH vH ?_;refine jb hg.ok [(kF,.bU 177 [] []),(eZ,.bU 178 [] []),(u1,.bU 179 [] [])] [(kF,.bU 177 [] []),(eZ,.bU 178 [] []),(u1,.bU 179 [] []),(yc,.bU 180 [] [])] rfl rfl rfl rfl rfl rfl rfl fi vH vH ?_;refine jb hg.ok [(kF,.bU 177 [] []),(eZ,.bU 178 [] []),(u1,.bU 179 [] []),(yc,.bU 180 [] [])] oH rfl rfl rfl rfl rfl rfl rfl fi vH vH (af ?_);exact aK hg 1 5 aC rfl rfl rfl

theorem ab5 {s:ByteArray}(h:BT s=true):∃f,dI oH s=some (.bU f [] [])∧Tq f s:=by
 rcases NG h with rfl |rfl |rfl |rfl |rfl
 ·exact⟨_,rfl,X8⟩
 ·exact⟨_,rfl,X9⟩
 ·exact⟨_,rfl,Ya⟩
 ·exact⟨_,rfl,Yb⟩
 ·exact⟨_,rfl,Yc⟩

theorem ab6 {s:ByteArray}(h:BT s=false):dI oH s=none:=by
 obtain⟨h1,h2,h3,h4,h5⟩:=BX h;simp only[oH,dI];rw[if_neg (Ne.symm h1),if_neg (Ne.symm h2),if_neg (Ne.symm h3),if_neg (Ne.symm h4),if_neg (Ne.symm h5)]

theorem Ts {t:Tm}(h1:¬ t.k=1)(h2:¬ t.k=2)(h3:(t.l.length≠2∧¬ (t.l.length=1∧t.s=eZ))∨BT t.s=false):Tm.ez t=(0,5):=by
 obtain⟨k,s,n,l⟩:=t;simp only[Tm.k,Tm.l,Tm.s]at h1 h2 h3;rw[Tm.ez]
 match l with
 |[]=>exact abV h1 h2
 |[x] =>
  simp only[Tm.u2];rw[QZ h1 h2,if_neg];rw[Tm.bo];rcases h3 with h3 |h3
  ·exact fun e=>h3.2 ⟨rfl,e⟩
  ·exact(BX h3).2.1
 |[x,y] =>
  simp only[Tm.u2];rw[Q0 h1 h2];rcases h3 with h3 |h3
  ·exact absurd rfl h3.1
  ·rw[h3];rfl
 |x::y::z::r=>exact abW h1 h2

theorem ab7 (Y:YP)(t:Tm):t.Fit→aU Tryz.prog Y 163 [t.av,.mp 0] [.map (eI oH)] (.cH [iV (Tm.ez t).1,iV (Tm.ez t).2]) [.map (eI oH)]:=by
 induction t using Tm.ind with
 |_ t ih =>
 intro hf;have fin:∀ {r:Int × Int},Tm.ez t=r→AV.cH [iV r.1,iV r.2]=AV.cH [iV (Tm.ez t).1,iV (Tm.ez t).2]:=fun e=>by rw[e]
 refine uw Tryz.func163 fun w S φ hg=>?_
 refine aj (fun g1=>?_) fun g1=>?_
 ·rw [← fin (r:=(0,4)) (by rw [Tm.BU,X3 (by simpa using g1)])];exact lI
 refine aj (fun g2=>?_) fun g2=>?_
 ·rw [← fin (r:=(t.n,0)) (by rw [Tm.BU,X4 (by simpa using g1) (by simpa using g2)])];exact lI
 have h1:¬ t.k=1:=by simpa using g1
 have h2:¬ t.k=2:=by simpa using g2
 have bad:((t.l.length≠2∧¬ (t.l.length=1∧t.s=eZ))∨BT t.s=false)→AV.cH [iV 0,iV 5]=AV.cH [iV (Tm.ez t).1,iV (Tm.ez t).2]:=fun h=>fin (r:=(0,5)) (Ts h1 h2 h)
 cases hop:BT t.s with
 |false =>
  refine Fq hg.ok oH rfl rfl rfl rfl rfl rfl rfl (zv:=.nilFunc) cX (v:=.cH [.d (.v .nilFunc),bV false]) (by rw[ab6 hop];rfl) (af ?_);have hnm:¬ bE t.s ⟨#[45]⟩=true:=fun h=>(BX hop).2.1 (Tm.bo.1 h)
  refine qY rfl rfl (fun h=>absurd h hnm) (fun _=>?_)<;>refine er hg.ok rfl rfl ?_
  refine oS ?_;rw[← bad (.inr hop)];exact lI
 |true =>
  obtain⟨f,kO,Wn⟩:=ab5 hop;refine Fq hg.ok oH rfl rfl rfl rfl rfl rfl rfl (zv:=.nilFunc) cX (v:=.cH [.bU f [] [],bV true]) (by rw[kO];rfl) (af ?_);obtain⟨k,s,n,l⟩:=t;simp only[Tm.k,Tm.l,Tm.s]at h1 h2 hop kO Wn bad ih
  match l with
  |[] =>
   refine aj (fun hm=>?_) fun hm=>?_
   ·refine cQ hg.ok rfl rfl (by simp [Tm.aa,Tm.l]) rfl rfl ?_;refine gu ?_;refine Pz ?_;rw[← bad (.inl ⟨by simp,by simp⟩)];exact lI
   ·refine gu ?_;refine Pz ?_;rw[← bad (.inl ⟨by simp,by simp⟩)];exact lI
  |[x] =>
   refine aj (fun hm=>?_) fun hm=>?_
   ·have hs:s=eZ:=Tm.bo.1 hm;subst hs;have hfx:x.Fit:=hf.sub (by simp[Tm.l]);have hIx:=Tm.td hfx
    have hex:Tm.ez (.mk k eZ n [x])=if (Tm.ez x).2≠0 then (0,(Tm.ez x).2) else AJ (zW eZ 0 (Tm.ez x).1):=by
     simp only[Tm.ez,Tm.u2];rw[QZ h1 h2,if_pos (te _)]
    refine PA ?_;refine dN hg.ok rfl rfl rfl rfl rfl rfl fi (Tm.aB (l:=[x]) (i:=0) rfl) rfl (af ?_);refine iT hg.ok hg.cm hg.wide hg.Y [0] (ih x aC hfx) cF rfl rfl rfl rfl rfl rfl rfl rfl (af ?_);refine aj (fun h3=>?_) fun h3=>?_
    ·rw [← fin (r:=(0,(Tm.ez x).2)) agf];exact lI
    rw[if_neg agh]at hex;refine Pz ?_;obtain⟨v,Sz,xO⟩:=Wn 0 (Tm.ez x).1 (by unfold jt;omega) hIx;refine aF (Sz) ?_;refine aj (fun h4=>?_) fun h4=>?_
    ·rw [← fin (r:=(0,6)) aj6];exact lI
    ·have h4:(zW eZ 0 (Tm.ez x).1).2=true:=by simpa using h4
     rw[← fin (r:=(v,0)) (by rw[hex];unfold AJ;rw[if_pos h4,xO h4])];exact lI
   ·refine gu ?_;refine Pz ?_;rw[← bad (.inl ⟨by simp,fun h=>by have hm':bE s eZ=false:=hm;rw[Tm.bo.2 h.2]at hm';cases hm'⟩)];exact lI
  |[x,y] =>
   have hfx:x.Fit:=hf.sub (by simp[Tm.l]);have hfy:y.Fit:=hf.sub (by simp[Tm.l]);have hIx:=Tm.td hfx;have hIy:=Tm.td hfy
   have hex:Tm.ez (.mk k s n [x,y])=if (Tm.ez x).2≠0 then (0,(Tm.ez x).2) else if (Tm.ez y).2≠0 then (0,(Tm.ez y).2) else AJ (zW s (Tm.ez x).1 (Tm.ez y).1):=by
    simp only[Tm.ez,Tm.u2];rw[Q0 h1 h2,if_pos hop]
   refine aj (fun hm=>?_) fun hm=>?_
   ·refine cQ hg.ok rfl rfl (by simp [Tm.aa,Tm.l]) rfl rfl ?_;refine gu ?_;refine PA ?_;refine adU ?_;refine iT hg.ok hg.cm hg.wide hg.Y [0] (ih x aC hfx) cF rfl rfl rfl rfl rfl rfl rfl rfl (af ?_);refine aj (fun h3=>?_) fun h3=>?_
    ·rw [← fin (r:=(0,(Tm.ez x).2)) agf];exact lI
    rw[if_neg agh]at hex;refine PA ?_;refine adV ?_;refine iT hg.ok hg.cm hg.wide hg.Y [0] (ih y aC hfy) cF rfl rfl rfl rfl rfl rfl rfl rfl (af ?_);refine aj (fun h5=>?_) fun h5=>?_
    ·rw [← fin (r:=(0,(Tm.ez y).2)) (by rw [hex,if_pos PX])];exact lI
    rw[if_neg PX]at hex;exact akh
   ·refine gu ?_;refine PA ?_;refine adU ?_;refine iT hg.ok hg.cm hg.wide hg.Y [0] (ih x aC hfx) cF rfl rfl rfl rfl rfl rfl rfl rfl (af ?_);refine aj (fun h3=>?_) fun h3=>?_
    ·rw [← fin (r:=(0,(Tm.ez x).2)) agf];exact lI
    rw[if_neg agh]at hex;refine adV ?_;refine iT hg.ok hg.cm hg.wide hg.Y [0] (ih y aC hfy) cF rfl rfl rfl rfl rfl rfl rfl rfl (af ?_);refine aj (fun h5=>?_) fun h5=>?_
    ·rw [← fin (r:=(0,(Tm.ez y).2)) (by rw [hex,if_pos PX])];exact lI
    rw[if_neg PX]at hex;exact akh
  |x::y::z::r =>
   refine aj (fun hm=>?_) fun hm=>?_
   ·refine cQ hg.ok rfl rfl (by simp [Tm.aa,Tm.l]; omega) rfl rfl ?_;refine gu ?_;refine cQ hg.ok rfl rfl (by simp[Tm.aa,Tm.l];omega) rfl rfl ?_;rw[← bad (.inl ⟨by simp,by simp⟩)];exact lI
   ·refine gu ?_;refine cQ hg.ok rfl rfl (by simp[Tm.aa,Tm.l];omega) rfl rfl ?_;rw[← bad (.inl ⟨by simp,by simp⟩)];exact lI
def pfA:Nat→cC:=fun f=>bif Nat.beq f 164 then .bO 0 else .ji

theorem Ye (t:Tm)(hf:t.Fit)(hs:t.size<1000000000)(hn:∀e∈t.gV 1,e.2.s.size<1000000000):bD Tryz.prog 154 [t.av] (.cH [iV (bt t).1,iV (bt t).2]):=by
 refine bD.ej (pf:=pfA) gK mixed Tryz.func154 rfl cX cX (by simp[Tryz.ntmps154]) fun w S hg=>?_
 refine af ?_;refine aF (eY t hs hn) ?_;rw[cN];refine aj (fun h=>?_) fun h=>?_
 ·refine cq ?_;unfold bt;rw[if_neg l6];rfl
 ·refine yd hg.ok hg.cm ⟨rfl,rfl⟩ (fun _ _ _ _ h=>by cases h) [aP t,.map (eI oH)] (Yd ⟨[],fun _=>true⟩) cF rfl rfl rfl rfl rfl rfl (af ?_);refine iT hg.ok hg.cm ⟨rfl,rfl⟩ (fun _ _ _ _ h=>by cases h) [1] (ab7 ⟨[],fun _=>true⟩ t hf) cF rfl rfl rfl rfl rfl rfl rfl rfl (af ?_);refine cq ?_;unfold bt;rw[if_pos l6];rfl

theorem Kr (s:ByteArray)(a b:Int):bD Tryz.prog 141 [.d (.v (.string s)),iV a,iV b] (.cH [bV (DZ s a b).1,iV (DZ s a b).2]):=by
 refine oY Tryz.func141 fun w S hg=>?_
 refine aj (fun h1=>?_) fun h1=>?_
 ·refine cq ?_;unfold DZ;rw[if_pos h1];rfl
 refine aj (fun h2=>?_) fun h2=>?_
 ·refine cq ?_;unfold DZ;rw[if_neg AI,if_pos h2];rfl
 refine aj (fun h3=>?_) fun h3=>?_
 ·refine cq ?_;unfold DZ;rw[if_neg AI,if_neg Sm,if_pos h3];rfl
 refine aj (fun h4=>?_) fun h4=>?_
 ·refine cq ?_;unfold DZ;rw[if_neg AI,if_neg Sm,if_neg (by rw[h3];simp),if_pos h4];rfl
 refine aj (fun h5=>?_) fun h5=>?_
 ·refine cq ?_;unfold DZ;rw[if_neg AI,if_neg Sm,if_neg (by rw[h3];simp),if_neg I3,if_pos h5];rfl
 refine aj (fun h6=>?_) fun h6=>?_
 ·refine cq ?_;unfold DZ;rw[if_neg AI,if_neg Sm,if_neg (by rw[h3];simp),if_neg I3,if_neg (by rw[h5];simp),if_pos h6];rfl
 ·refine cq ?_;unfold DZ;rw[if_neg AI,if_neg Sm,if_neg (by rw[h3];simp),if_neg I3,if_neg (by rw[h5];simp),if_neg (by rw[h6];simp)];rfl
end Go.Proofs.YtaagocopollacaaGreatDoor

namespace aw
open Go
abbrev Bs:=List UInt8
def Tx (l:Bs):ByteArray:=⟨l.toArray⟩
theorem G9 (s:ByteArray):Tx s.data.toList=s:=by simp[Tx]
theorem jM (l:Bs):(Tx l).size=l.length:=by simp[Tx,ByteArray.size]

theorem NH (a b:Bs):Tx a++Tx b=Tx (a++b):=by
 apply ByteArray.ext;show (Tx a++Tx b).data=_
 rw[ByteArray.data_append];simp[Tx]
theorem Ad (l:Bs):(Tx l).toList=l:=by rw[Tm.toList_data];simp[Tx]
theorem Yf {a b:Bs}(h:Tx a=Tx b):a=b:=by rw[← Ad a,h,Ad]
theorem BZ (a b:Bs):bE (Tx a) (Tx b)=(a==b):=by unfold bE;rw[Ad,Ad]
def dgC (c:UInt8):Bool:=decide (48≤c.toNat)&&decide (c.toNat≤57)
def NI (c:UInt8):Bool:=decide (97≤c.toNat)&&decide (c.toNat≤122)
def al6 (c:UInt8):Bool:=(decide (65≤c.toNat)&&decide (c.toNat≤90)) || decide (c.toNat=95)
def Tt (c:UInt8):Bool:=dgC c || NI c || al6 c

theorem Yg {p:UInt8→Bool}(h:(List.range 256).all (fun n=>p (UInt8.ofNat n))=true)(c:UInt8):p c=true:=by
 have h1:=fk.1 h c.toNat (by simp;exact c.toNat_lt);simpa using h1

structure Tk where
 kind:Int
 text:Bs
 n:Int
 at_:Int
 opn:Bool
 deriving DecidableEq

def quo:Bs→Option (Bs × Nat)
 |[]=>none
 |[c]=>if c.toNat=39 then some ([],1) else none
 |c::d::r=>if c.toNat<32∨126<c.toNat then none else if c.toNat=39 then (if d.toNat=39 then (quo r).map fun x=>(39::x.1,x.2+2) else some ([],1)) else (quo (d::r)).map fun x=>(c::x.1,x.2+1)
end aw

namespace aw
open Go
variable{k:Nat}{L:Bs}
def sgW:Bs:=[43,45,42,47,92,94,60,62,61,126,58,63,64,35,38,36]
def NJ (c:UInt8):Bool:=sgW.contains c

def pN:Bs→Bool
 |[]=>false
 |c::r=>NI c&&r.all Tt
def Ks (l:Bs):Bool:=!l.isEmpty&&l.all NJ
def qz (l:Bs):Bs:=l.flatMap fun c=>if c=39 then [39,39] else [c]
def rS (l:Bs):Bool:=pN l || Ks l || l==[33] || l==[59] || l==[91,93]
def pO (l:Bs):Bs:=if rS l then l else 39::(qz l++[39])

def kl (bs s:Bs):Bs:=if bs.length≤8000 then bs++s else bs

theorem Kt(l:Bs):pO l≠[]:=by
 unfold pO;split
 ·rename_i h;intro e;subst e;simp[rS,pN,Ks]at h
 ·simp

theorem Ku(l:Bs):(qz l).length≤2 * l.length:=by
 induction l with
 |nil=>simp[qz]
 |cons c r ih =>
  simp only[qz,List.flatMap_cons,List.length_append,dv]at ih ⊢;split<;>simp only[dv,lM]<;>omega

theorem Tu(l:Bs):(pO l).length≤2 * l.length+2:=by
 have:=Ku l;unfold pO;split
 ·omega
 ·simp only[dv,List.length_append,lM];omega

theorem ab8{bs s:Bs}(h:s≠[]):kl bs s≠[]:=by
 unfold kl;split
 ·simp[h]
 ·rename_i hl;intro e;rw[e]at hl;simp at hl
theorem Kv(c:UInt8):NI c=true↔97≤c.toNat∧c.toNat≤122:=by simp[NI]

theorem Kw(c:UInt8):Tt c=true↔(48≤c.toNat∧c.toNat≤57)∨(97≤c.toNat∧c.toNat≤122)∨(65≤c.toNat∧c.toNat≤90)∨c.toNat=95:=by
 simp only[Tt,dgC,NI,al6,mS,aV,decide_eq_true_eq];omega
def wlB (L:Bs)(k:Nat):Bool:=if k=0 then pN L else (L.drop k).all Tt

theorem al7{c:UInt8}(hc:L[k]? = some c)(h:pN L=wlB L k)(h0:k=0→¬ (97≤c.toNat∧c.toNat≤122))(h1:k≠0→¬ ((48≤c.toNat∧c.toNat≤57)∨(97≤c.toNat∧c.toNat≤122)∨(65≤c.toNat∧c.toNat≤90)∨c.toNat=95)):pN L=false:=by
 have hl:=(bC.1 hc).1;have uH:=(bC.1 hc).2;by_cases hk:k=0
 ·subst hk;cases L with
  |nil=>simp at hl
  |cons d r =>
   simp only[List.getElem_cons_zero]at uH;subst uH
   have:NI d=false:=by
    cases hd:NI d
    ·rfl
    ·exact absurd ((Kv d).1 hd) (h0 rfl)
   simp[pN,this]
 ·rw [h,wlB,if_neg hk,List.drop_eq_getElem_cons hl,rE,uH]
  have:Tt c=false:=by
   cases hd:Tt c
   ·rfl
   ·exact absurd ((Kw c).1 hd) (h1 hk)
  rw[this,vO]

theorem aca{c:UInt8}(hc:L[k]? = some c)(h:pN L=wlB L k)(h0:k=0→97≤c.toNat∧c.toNat≤122)(h1:k≠0→(48≤c.toNat∧c.toNat≤57)∨(97≤c.toNat∧c.toNat≤122)∨(65≤c.toNat∧c.toNat≤90)∨c.toNat=95):pN L=wlB L (k+1):=by
 have hl:=(bC.1 hc).1;have uH:=(bC.1 hc).2;rw[wlB,if_neg an];by_cases hk:k=0
 ·subst hk;cases L with
  |nil=>simp at hl
  |cons d r =>
   simp only[List.getElem_cons_zero]at uH;subst uH;simp[pN,(Kv d).2 (h0 rfl)]
 ·rw[h,wlB,if_neg hk,List.drop_eq_getElem_cons hl,rE,uH,(Kw c).2 (h1 hk),jX]

theorem ahJ(hk:L.length≤k)(h:pN L=wlB L k):pN L = !(L==[]):=by
 cases L with
 |nil=>rfl
 |cons c r =>
  rw[h,wlB,if_neg (by simp at hk;omega),gD hk];rfl
end aw

namespace aw
open Go
variable{t:Tm}
def wI (k:Int)(s:ByteArray)(l:List Tm):Bool:=decide (k=3)&&(s.data.toList==[46])&&decide (l.length=2)
def B4 (k:Int)(s:ByteArray)(l:List Tm):Bool:=decide (k=3)&&(s.data.toList==[91,93])&&l.isEmpty

def B5 (k:Int)(s:ByteArray)(n:Int)(e:Bool)(dM:List Bs):List Bs :=
 if k=1 then [95::Lib.itoa n] else if k=2 then [Lib.itoa n] else pO s.data.toList::(dM++if e then [] else [[41]])

mutual
def uz:Tm→List Bs
 | .mk k s n l=>if wI k s l then [91]::Ae l else B5 k s n l.isEmpty (lH true l)
def rT:Tm→List Bs
 | .mk k s n l=>if wI k s l then [44]::Ae l else if B4 k s l then [[93]] else [124]::(B5 k s n l.isEmpty (lH true l)++[[93]])
def Ae:List Tm→List Bs
 |[]=>[]
 |a::r=>uz a++B6 r
def B6:List Tm→List Bs
 |[]=>[]
 |b::_=>rT b
def lH:Bool→List Tm→List Bs
 |_,[]=>[]
 |f,x::r=>(if f then [40] else [44])::(uz x++lH false r)
end

def fC (bs:Bs)(l:List Bs):Bs:=l.foldl kl bs
theorem ll(bs:Bs)(a b:List Bs):fC bs (a++b)=fC (fC bs a) b:=by simp[fC]
theorem dU(bs:Bs)(x:Bs)(r:List Bs):fC bs (x::r)=fC (kl bs x) r:=rfl
theorem ln(bs:Bs):fC bs []=bs:=rfl
def iM (t:Tm):Bool:=wI t.k t.s t.l

theorem Kx{t a b:Tm}(h:iM t=true)(hl:t.l=[a,b]):uz t=[91]::(uz a++rT b):=by
 cases t with
 |mk k s n l =>
  simp only[Tm.l]at hl;subst hl;simp only[iM,Tm.k,Tm.s,Tm.l]at h;simp only[uz,h,if_true,Ae,B6]

theorem NK{t a b:Tm}(h:iM t=true)(hl:t.l=[a,b]):rT t=[44]::(uz a++rT b):=by
 cases t with
 |mk k s n l =>
  simp only[Tm.l]at hl;subst hl;simp only[iM,Tm.k,Tm.s,Tm.l]at h;simp only[rT,h,if_true,Ae,B6]

theorem Tv(h:iM t=false)(hn:B4 t.k t.s t.l=true):rT t=[[93]]:=by
 cases t with
 |mk k s n l =>
  simp only[iM,Tm.k,Tm.s,Tm.l]at h hn;simp only[rT,h,hn,lL,if_false,if_true]

theorem rU(h:iM t=false):uz t=B5 t.k t.s t.n t.l.isEmpty (lH true t.l):=by
 cases t with
 |mk k s n l =>
  simp only[iM,Tm.k,Tm.s,Tm.l]at h;simp only[uz,h,lL,if_false,Tm.k,Tm.s,Tm.l,Tm.n]

theorem u4(h:iM t=false)(hn:B4 t.k t.s t.l=false):rT t=[124]::(uz t++[[93]]):=by
 rw[rU h];cases t with
 |mk k s n l =>
  simp only[iM,Tm.k,Tm.s,Tm.l]at h hn;simp only[rT,h,hn,lL,if_false,Tm.k,Tm.s,Tm.l,Tm.n]

theorem Ha(h:iM t=true):∃a b,t.l=[a,b]:=by
 simp only[iM,wI,aV,decide_eq_true_eq]at h
 match hl:t.l,h.2 with
 |[a,b],_=>exact⟨a,b,rfl⟩

theorem NL{l:List Tm}{k:Nat}{x:Tm}(bs:Bs)(f:Bool)(h:l[k]? = some x):lH f (l.drop k)=(if f then [40] else [44])::(uz x++lH false (l.drop (k+1))):=by
 have hl:=(bC.1 h).1;rw[List.drop_eq_getElem_cons hl,(bC.1 h).2,lH]

inductive Kz:Tm→Prop
 |mk {t:Tm} (ha:∀c∈t.s.data.toList,c.toNat<128) (hl:t.s.data.toList.length≤1000) (h0:-9223372036854775808≤t.n) (h1:t.n≤9223372036854775807) (hn:t.l.length≤1000000) (hs:∀x∈t.l,Kz x):Kz t

theorem KA(n:Int)(h0:-9223372036854775808≤n)(h1:n≤9223372036854775807):(Lib.itoa n).length≤1000∧Lib.itoa n≠[]:=by
 have hd:∀ (k u:Nat),u<10 ^ (k+1)→(Lib.decDigits u).length≤k+1:=by
  intro k;induction k with
  |zero=>intro u hu;rw[Lib.decDigits,dif_pos an];simp
  |succ k ih =>
   intro u hu;rw[Lib.decDigits];split
   ·simp
   ·have:=ih (u / 10) (by rw [Nat.pow_succ] at hu; omega);simp only[List.length_append,dv,lM];omega
 have eo:∀u,Lib.decDigits u≠[]:=by
  intro u;rw[Lib.decDigits];split<;>simp
 unfold Lib.itoa;split
 ·have:=hd 19 n.natAbs an;exact⟨by simp only[dv];omega,by simp⟩
 ·have:=hd 19 n.toNat an;exact⟨by omega,eo _⟩
end aw

namespace aw
open Go Go.RowKit Go.MapKept
variable{gd:Option (Nat × Bool)}{after:Array Edge}{dst:Option Nat}{ax:List Oper}{objs:List Ob}{z:List Value}{pos:String}{k:List It}{x:Operand}{ty T:Nat}{E:bk}{w:World}{a b:Int}
def D0 (p:Int × Int):Value:=.agg #[.int .i64 p.1,.int .i64 p.2]
def nV (l:List ((Int × Int) × AV)):List (Value × AV):=l.map fun e=>(D0 e.1,e.2)

def yf:List ((Int × Int) × AV)→Int × Int→Option AV
 |[],_=>none
 |e::r,p=>if e.1=p then some e.2 else yf r p

structure Tw (P:Program) (kt:TypeId):Prop where
 und:∃n e,P.underlying kt=some (.array n e)
 eq:∀p q w,(Op.equal kt (D0 p) (D0 q)).run P w=.ok (decide (p=q)) w
 ck:∀b p w,(Instr.checkKey b 10000 kt (D0 p)).run P w=.ok () w

theorem B7{P:Program}{kt:TypeId}(hk:Tw P kt){S:Nat→Prop}{w:World}{φ:List bB}(p:Int × Int):∀ {l:List ((Int × Int) × AV)} {ents:List MapEntry} {i:Nat},mT S w φ (nV l) ents →
  match yf l p with
  |none=>(Instr.findAsking kt (D0 p) ents i).run P w=.ok none w
  |some x=>∃j v,(Instr.findAsking kt (D0 p) ents i).run P w=.ok (some (j,v)) w∧RV S w φ x v
 |[],ents,i,h=>by
  cases ents with
  |nil=>simp[yf,Instr.findAsking]
  |cons _ _=>have:=h.1;simp[nV]at this
 |e::l,ents,i,h=>by
  cases ents with
  |nil=>have:=h.1;simp[nV]at this
  |cons f ents =>
   obtain⟨h1,h2⟩:=h;simp only[nV,List.map_cons,List.cons.injEq]at h1;obtain⟨hf,h1⟩:=h1;simp only[nV,List.map_cons,aW]at h2;simp only[yf];by_cases he:e.1=p
   ·rw [if_pos he];refine⟨i,f.val,?_,h2.1⟩;simp only[Instr.findAsking,Sem.run_bind,← hf,hk.eq,Result.andThen_ok];simp[he]
   ·rw [if_neg he];have hd:decide (p=e.1)=false:=decide_eq_false fun h=>he h.symm
    have:=B7 hk p (l:=l) (ents:=ents) (i:=i+1) ⟨by simpa[nV]using h1,by simpa[nV]using h2.2⟩
    have ei:(Instr.findAsking kt (D0 p) (f::ents) i).run P w=(Instr.findAsking kt (D0 p) ents (i+1)).run P w:=by
     simp only[Instr.findAsking,Sem.run_bind,← hf,hk.eq,Result.andThen_ok,hd];simp
    cases hg:yf l p with
    |none=>rw[hg]at this;simp only at this ⊢;rw[ei];exact this
    |some x=>rw[hg]at this;simp only at this ⊢;rw[ei];exact this

theorem wJ{P:Program}{kt:TypeId}(hk:Tw P kt)(p:Int × Int){ents:List MapEntry}(h:ents=[]∨∃q,∃f r,ents=f::r∧f.key=D0 q):(Instr.findKey kt (D0 p) ents).run P w=(Instr.findAsking kt (D0 p) ents 0).run P w:=by
 obtain⟨n,e,hu⟩:=hk.und;rcases h with rfl |⟨q,f,r,rfl,hf⟩
 ·simp[Instr.findKey,run_underlying hu,Instr.findNow,Instr.findAsking]
 ·simp[Instr.findKey,run_underlying hu,Instr.findNow,Instr.sameNow,D0]

theorem B8{S:Nat→Prop}{φ:List bB}{l:List ((Int × Int) × AV)}{ents:List MapEntry}(h:mT S w φ (nV l) ents):ents=[]∨∃q,∃f r,ents=f::r∧f.key=D0 q:=by
 cases ents with
 |nil=>exact .inl rfl
 |cons f r =>
  cases l with
  |nil=>have:=h.1;simp[nV]at this
  |cons e l =>
   have:=h.1;simp only[nV,List.map_cons,List.cons.injEq]at this;exact .inr ⟨e.1,f,r,rfl,this.1.symm⟩
section
variable {g:G} {pf:Nat→cC} {ad:Array Oper} {Fin:Exit→Act→World→Prop}

theorem afb{S:Nat→Prop}{φ:List bB}{v:Value}(h:RV S w φ (.agg [iV a,iV b]) v):v=D0 (a,b):=by
 simp only[RV]at h;obtain⟨cs,rfl,h⟩:=h
 match cs,h with
 |[x,y],h =>
  simp only[aW,iV,RV,and_true]at h;obtain⟨h1,h2⟩:=h;cases h1;cases h2;rfl
 |[],h=>simp[aW]at h
 |[_],h=>simp[aW]at h
 |_::_::_::_,h=>simp[aW]at h

theorem Ej(hg:c9 g){x y:Operand}{ok:Bool}
  {i q cj kt et:Nat}   {zv:Value} (l:List ((Int × Int) × AV)) (hk:Tw g.P kt)
  (bm:aG ad.toList E gd=some true) (hd:aO ⟨g.ty,g.N⟩ dst=true) (hx:ev E x=.mp i) (ho:dk objs i=some (.map (nV l))) (hy:ev E y=.agg [iV a,iV b]) (hT:g.ty T=some ⟨q,cj,z,.map kt et⟩)
  (hz:(g.P.info? et).bind (·.zero)=some zv) {v:AV} (hv:jn ok (lO zv) (yf l (a,b))=v)
  (hr:R g pf Fin (.dr ad ax::k) (bf E dst v) objs):R g pf Fin (.dr ad (⟨dst,.lookup T x y ok,ty,pos,after,gd⟩::ax)::k) E objs:=by
 subst hv;refine cL (aI.fM hg 1 bm hd aC fun φ a' w bP hgr hρ hs=>?_) hr;simp only[Op.operands]at hρ;have aN:=hρ x aC;rw[hx]at aN;have ew:=hρ y aC;rw[hy]at ew;have oA:=afb ew;simp only[RV]at aN;obtain⟨b',hb,aN⟩:=aN
 have ho:dk bP i=some (.map (nV l)):=by
  rw[bu]at ho ⊢;exact Gr.same hgr ho (by rw[← hs.len];exact(bC.1 hb).1) AH
 have sR:=cG hs hb ho;simp only[bd]at sR;obtain⟨ents,iY,bc,dC⟩:=sR;have kX:g.P.underlying T=some (.map kt et):=by have:=(hg.ty _ _ hT).sh;simpa only[bA]using this
 have hzero:(zeroValue et).run g.P w=.ok zv w:=by
  exact Wq
 have hzR:RV (SS g.S0 φ) w φ (lO zv) zv:=ia (l:=[]) (E:=[]) (E₁:=[]) (a:={ tmps:=#[],defers:=[] }) aC (fun t=>by simp[lk,RV]) (.const zv);have cU:=B7 hk (a,b) (i:=0) dC;have Vg:=wJ hk (w:=w) (a,b) (B8 dC);cases xD:yf l (a,b) with
 |none =>
  rw[xD]at cU;simp only at cU;refine aY hs (vv:=if ok then .tuple #[zv,.bool false] else zv) ?_ ?_
  ·simp[execOp,Instr.lookup,run_underlying kX,aN,run_getObj_map bc,oA,hk.ck,Vg,cU,hzero]
  ·simp only [jn];cases ok
   ·simpa using hzR
   ·simp only [if_true,RV];exact Wp
 |some x =>
  rw[xD]at cU;simp only at cU;obtain⟨j,vv,h1,h2⟩:=cU;refine aY hs (vv:=if ok then .tuple #[vv,.bool true] else vv) ?_ ?_
  ·simp[execOp,Instr.lookup,run_underlying kX,aN,run_getObj_map bc,oA,hk.ck,Vg,h1]
  ·simp only [jn];cases ok
   ·simpa using h2
   ·simp only [if_true,RV];exact Wr

theorem Tz(hg:c9 g){x y v:Operand}
  {i q cj kt et:Nat}   (l:List ((Int × Int) × AV)) (hk:Tw g.P kt)
  (bm:aG ad.toList E gd=some true) (hd:aO ⟨g.ty,g.N⟩ dst=true) (hx:ev E x=.mp i) (ho:dk objs i=some (.map (nV l))) (hy:ev E y=.agg [iV a,iV b]) (hT:g.ty T=some ⟨q,cj,z,.map kt et⟩)
  (hf:yf l (a,b)=none)
  (hr:R g pf Fin (.dr ad ax::k) (bf E dst .any) (da objs i (.map (nV (l++[((a,b),ev E v)]))))):R g pf Fin (.dr ad (⟨dst,.mapUpdate T x y v,ty,pos,after,gd⟩::ax)::k) E objs:=by
 refine cL (aI.eT hg (pr ho) bm hd aC fun φ a' w hρ hs=>?_) hr;simp only[Op.operands]at hρ;have aN:=hρ x aC;rw[hx]at aN;have ew:=hρ y aC;rw[hy]at ew;have oA:=afb ew;have hvv:=hρ v aC;simp only[RV]at aN;obtain⟨b',hb,aN⟩:=aN;have sR:=cG hs hb ho;simp only[bd]at sR;obtain⟨ents,iY,bc,dC⟩:=sR;have kX:g.P.underlying T=some (.map kt et):=by have:=(hg.ty _ _ hT).sh;simpa only[bA]using this
 have cU:=B7 hk (a,b) (i:=0) dC;have Vg:=wJ hk (w:=w) (a,b) (B8 dC);rw[hf]at cU;simp only at cU;have kT:=heap_set (o':=.map (ents.push { key:=D0 (a,b),val:=a'.eval v,born:=iY }) (iY+1)) bc;rw[bq];refine⟨.skip,undef,{ w with heap:=w.heap.setIfInBounds b' (.map (ents.push { key:=D0 (a,b),val:=a'.eval v,born:=iY }) (iY+1)) },φ.set i (.js b'),?_,.inr ⟨rfl,rfl⟩,by simp[RV],?_⟩
 ·simp[execOp,Instr.mapUpdate,run_underlying kX,aN,run_getObj_map bc,oA,hk.ck,Vg,cU,run_setObj_map _ bc]
 ·refine jJ.swap hs hb (.inl rfl) aC (fun c _ hc=>kT.2 c fun e=>hc Gc) (fun b' hb=>.inl hb) rfl rfl rfl fun bx hle=>?_
  simp only[bd];refine⟨_,_,kT.1,?_,?_⟩
  ·have:=dC.1;simp only[nV,List.map_append,jw,List.map_cons,fj,Je]at this ⊢;rw[this]
  ·have:=(dC.2.mono bx hle).append (l':=[ev E v]) (vs':=[a'.eval v]) Sb;simpa[nV]using this

theorem Fs(hg:c9 g){x y v:Operand}
  {i q cj q' oU kt et:Nat} {z z':List Value} {n:Int} (v':AV) (l l':List (Int × AV))
  (bm:aG ad.toList E gd=some true) (hd:aO ⟨g.ty,g.N⟩ dst=true) (hx:ev E x=.mp i) (ho:dk objs i=some (.map (cn l))) (hy:ev E y=.d (.v (.int .i64 n))) (hT:g.ty T=some ⟨q,cj,z,.map kt et⟩)
  (oC:g.ty kt=some ⟨q',oU,z',.int .i64⟩) (hf:ib l n=none) (hv:bM (ev E v) v') (hl:l++[(n,v')]=l')
  (hr:R g pf Fin (.dr ad ax::k) (bf E dst .any) (da objs i (.map (cn l')))):R g pf Fin (.dr ad (⟨dst,.mapUpdate T x y v,ty,pos,after,gd⟩::ax)::k) E objs:=by
 subst hl;have hu:=(hg.ty _ _ oC).sh;simp only[bA]at hu;obtain⟨r,h1,h2⟩:=nj (k':=.i64) (n:=n) (l:=l) (i:=0);have:r=none:=by rw[hf]at h2;cases r with
  |none=>rfl
  |some _=>simp at h2
 subst this;refine cL (aI.eT hg (pr ho) bm hd aC fun φ a w hρ hs=>?_) hr;simp only[Op.operands]at hρ;have aN:=hρ x aC;rw[hx]at aN;have ew:=hρ y aC;rw[hy]at ew;have hvv:=hv _ _ _ _ (hρ v aC);simp only[RV]at aN ew;obtain⟨b,hb,aN⟩:=aN;generalize oA:a.eval y=vy at ew;cases ew;have hk:=cG hs hb ho;simp only[bd]at hk;obtain⟨ents,iY,bc,dC⟩:=hk;have kX:g.P.underlying T=some (.map kt et):=by have:=(hg.ty _ _ hT).sh;simpa only[bA]using this
 have cU:=kx dC h1;simp only at cU;have kT:=heap_set (o':=.map (ents.push { key:=.int .i64 n,val:=a.eval v,born:=iY }) (iY+1)) bc;rw[bq];refine⟨.skip,undef,{ w with heap:=w.heap.setIfInBounds b (.map (ents.push { key:=.int .i64 n,val:=a.eval v,born:=iY }) (iY+1)) },φ.set i (.js b),?_,.inr ⟨rfl,rfl⟩,by simp[RV],?_⟩
 ·simp[execOp,Instr.mapUpdate,run_underlying kX,aN,run_getObj_map bc,oA,run_checkKey hu (show IsKey (.int .i64) (.int .i64 n) by simp[IsKey]),run_findKey hu cU,run_setObj_map _ bc]
 ·refine jJ.swap hs hb (.inl rfl) aC (fun c _ hc=>kT.2 c fun e=>hc Gc) (fun b' hb=>.inl hb) rfl rfl rfl fun bx hle=>?_
  simp only[bd];refine⟨_,_,kT.1,?_,?_⟩
  ·have:=dC.1;simp only[cn,List.map_append,jw,List.map_cons,fj,Je]at this ⊢;rw[this]
  ·have:=(dC.2.mono bx hle).append (l':=[v']) (vs':=[a.eval v]) Sb;simpa[cn]using this

open Classical in
theorem Vn(hg:c9 g)(v:AV)
  (bm:aG ad.toList E gd=some true) (hd:aO ⟨g.ty,g.N⟩ dst=true) (h:cJ g.ty (fun y=>if y=x then ev E x else .any) (.buildSlice T 1 #[(0,x)])=some v)
  (hr:R g pf Fin (.dr ad ax::k) (bf E dst v) objs):R g pf Fin (.dr ad (⟨dst,.buildSlice T 1 #[(0,x)],ty,pos,after,gd⟩::ax)::k) E objs:=by
 refine cL (aI.up (aI.quiet hg bm hd aC fun φ o₁ a w hρ hs=>?_)) hr;simp only[Op.operands]at hρ;have aN:=hρ x aC;refine j0 (ρA:=fun y=>if y=x then ev E x else .any) hg.ty hs (fun y=>?_) ?_
 ·split
  ·rename_i h;rw[h];exact aN
  ·simp[RV]
 ·simp only[db,h]

theorem Mq{ty:Nat→Option Ty}{T e sz cj:Nat}{τ:Ty}{v:AV}{aa:List (List D)}(hT:ty T=some ⟨sz,cj,z,.slice e⟩)(he:ty e=some τ)(hr:kN [(0,v)] 0 τ.size=some aa)(hl:aa.length=1)(hb:τ.size≤1000):(open Classical in cJ ty (fun y=>if y=x then v else .any) (.buildSlice T 1 #[(0,x)]))=some (.fs aa):=by
 have h1:Nat.beq (len aa) 1=true:=by rw[bj,hl];rfl
 have h2:Nat.ble τ.size 100000=true:=Wa an;have h3:Nat.ble 1 100000=true:=rfl;simp[cJ,hT,he,hr,h1,h2,h3]

theorem Mv(hg:c9 g){x y v:Operand}
  {i q cj kt et:Nat}   {v':AV} (l l':List ((Int × Int) × AV)) (hk:Tw g.P kt)
  (bm:aG ad.toList E gd=some true) (hd:aO ⟨g.ty,g.N⟩ dst=true) (hx:ev E x=.mp i) (ho:dk objs i=some (.map (nV l))) (hy:ev E y=.agg [iV a,iV b]) (hT:g.ty T=some ⟨q,cj,z,.map kt et⟩)
  (hf:yf l (a,b)=none) (hv:ev E v=v') (hl:l++[((a,b),v')]=l')
  (hr:R g pf Fin (.dr ad ax::k) (bf E dst .any) (da objs i (.map (nV l')))):R g pf Fin (.dr ad (⟨dst,.mapUpdate T x y v,ty,pos,after,gd⟩::ax)::k) E objs:=by
 subst hl;subst hv;exact Tz hg l hk bm hd hx ho hy hT hf hr
end
end aw

namespace aw
open Go Go.RowKit
section
variable {g:G} {pf:Nat→cC} {ad:Array Oper} {Fin:Exit→Act→World→Prop}

theorem Pw (hg:c9 g){dst:Option Nat}{T T':Nat}{x:Operand}{ty:Nat}{pos:String}{after:Array Edge}{gd:Option (Nat × Bool)}{ax:List Oper}{k:List It}{E:bk}{objs:List Ob}{i off:Nat}{e:TypeId}
  (hu:g.P.underlying T=some (.pointer e)) (bm:aG ad.toList E gd=some true) (hd:aO ⟨g.ty,g.N⟩ dst=true) (hx:ev E x=.lo i off)
  (hr:R g pf Fin (.dr ad ax::k) (bf E dst (.d (.v (.bool false)))) objs):R g pf Fin (.dr ad (⟨dst,.binOp .eql T x (.const (.pointer none)) T',ty,pos,after,gd⟩::ax)::k) E objs:=by
 refine cL (aI.up (aI.quiet hg bm hd aC fun φ objs w' w hρ fh=>?_)) hr;simp only[Op.operands]at hρ;have aN:=hρ x aC;rw[hx]at aN;simp only[RV]at aN;obtain⟨b,_,kU⟩:=aN;refine aY fh (vv:=.bool false) ?_ xH
 have h1:∀d,(Op.equalIn (d+1) T (.pointer (some ⟨b,off,none⟩)) (.pointer none)).run g.P w=.ok false w:=fun d=>by
  simp[Op.equalIn,run_underlying hu]
 have h2:(Op.equal T (.pointer (some ⟨b,off,none⟩)) (.pointer none)).run g.P w=.ok false w:=h1 9999;have h3:(eqGuard .eql T x (.const (.pointer none)) (.pointer (some ⟨b,off,none⟩)) (.pointer none)).run g.P w=.ok () w:=by simp[eqGuard]
 have h4:w'.eval (.const (.pointer none))=.pointer none:=rfl;simp only[execOp,Sem.run_bind,kU,h4,h3,Result.andThen_ok,binOp,h2,Sem.run_pure]
end
end aw

namespace aw
open Go Go.RowKit Go.MapKept

theorem yg {α β:Type}(f:α→β):∀ (l:List α) (i:Nat),(l.eraseIdx i).map f=(l.map f).eraseIdx i
 |[],_=>rfl
 |_::_,0=>rfl
 |a::l,i+1=>by simp only[List.eraseIdx_cons_succ,List.map_cons,yg f l i]

theorem KB {k':IntKind}{n:Int}{v:AV}{l2:List (Int × AV)}:∀ {l1:List (Int × AV)} {i:Nat},(∀p∈l1,p.1≠n)→lS (.int k') (.int .i64 n) (cn (l1++(n,v)::l2)) i=some (some (i+l1.length,v))
 |[],i,_=>by simp[cn,lS,Instr.sameNow]
 |p::l1,i,h=>by
  have h1:(n==p.1)=false:=by have:=h p aC;simp;exact fun e=>this e.symm
  have:=KB (k':=k') (n:=n) (v:=v) (l2:=l2) (l1:=l1) (i:=i+1) fun q hq=>h q Er
  simp only[jj,cn,List.map_cons,lS,Instr.sameNow,if_true,h1]at this ⊢;rw[this];simp only[dv,Option.some.injEq,Prod.mk.injEq,and_true];omega

theorem Q3 {S:Nat→Prop}{w:World}{φ:List bB}{x:AV}{l2:List AV}:∀ {l1:List AV} {vs:List Value},aW S w φ (l1++x::l2) vs→aW S w φ (l1++l2) (vs.eraseIdx l1.length)
 |[],[],h=>by simp[aW]at h
 |[],v::vs,h=>by simp only[o8,aW]at h;simpa using h.2
 |a::l1,[],h=>by simp[aW]at h
 |a::l1,v::vs,h=>by
  simp only[jj,aW,dv,List.eraseIdx_cons_succ]at h ⊢;exact⟨h.1,Q3 h.2⟩
section
variable {g:G} {pf:Nat→cC} {ad:Array Oper} {Fin:Exit→Act→World→Prop}

theorem TA (hg:c9 g){dst:Option Nat}{T T':Nat}{x y:Operand}{ty:Nat}{pos:String}{after:Array Edge}{gd:Option (Nat × Bool)}{ax:List Oper}{k:List It}{E:bk}{objs:List Ob}
  {i q cj q' oU kt et:Nat} {z z':List Value} {n:Int} {v:AV} {l:List (Int × AV)} (l1 l2 l':List (Int × AV))
  (bm:aG ad.toList E gd=some true) (hd:aO ⟨g.ty,g.N⟩ dst=true) (hx:ev E x=.mp i) (ho:dk objs i=some (.map (cn l))) (hy:ev E y=.d (.v (.int .i64 n))) (hT:g.ty T=some ⟨q,cj,z,.map kt et⟩)
  (oC:g.ty kt=some ⟨q',oU,z',.int .i64⟩) (hl:l=l1++(n,v)::l2) (hn:∀p∈l1,p.1≠n) (hl':l1++l2=l')
  (hr:R g pf Fin (.dr ad ax::k) (bf E dst .any) (da objs i (.map (cn l')))):R g pf Fin (.dr ad (⟨dst,.call { callee:=.builtin .delete,args:=#[x,y],argTypes:=#[T,T'] },ty,pos,after,gd⟩::ax)::k) E objs:=by
 subst hl';subst hl;have hu:=(hg.ty _ _ oC).sh;simp only[bA]at hu;refine cL (aI.effect hg bm hd aC fun φ a w hρ hs=>?_) hr;simp only[Op.operands,Call.operands]at hρ;have aN:=hρ x aC;rw[hx]at aN;have ew:=hρ y aC;rw[hy]at ew;simp only[RV]at aN ew;obtain⟨b,hb,aN⟩:=aN;generalize oA:a.eval y=vy at ew;cases ew;have hk:=cG hs hb ho;simp only[bd]at hk;obtain⟨ents,iY,bc,dC⟩:=hk;have kX:g.P.underlying T=some (.map kt et):=by have:=(hg.ty _ _ hT).sh;simpa only[bA]using this
 obtain⟨v0,cU,_,_,_,_⟩:=kx dC (KB (k':=.i64) (n:=n) (v:=v) (l2:=l2) (i:=0) hn);rw[MF]at cU
 have aZ:ents.toList.length=l1.length+(l2.length+1):=by
  have:=congrArg List.length dC.1;simpa[cn]using this.symm
 have fH:(ents.eraseIdxIfInBounds l1.length).toList=ents.toList.eraseIdx l1.length:=by
  unfold Array.eraseIdxIfInBounds;rw[dif_pos (by simp at aZ;omega)];simp
 have kT:=heap_set (o':=.map (ents.eraseIdxIfInBounds l1.length) iY) bc
 have he:ents.isEmpty=false:=by
  cases hc:ents.isEmpty with
  |false=>rfl
  |true =>
   have:ents.toList.length=0:=by simpa using Array.isEmpty_iff.1 hc
   omega
 have fm:(Builtin.delete_ #[T,T'] ty #[.map (some b),.int .i64 n]).run g.P w=.ok (.tuple #[]) { w with heap:=w.heap.setIfInBounds b (.map (ents.eraseIdxIfInBounds l1.length) iY) }:=by
  simp[Builtin.delete_,run_underlying kX,run_getObj_map bc,run_checkKey hu (show IsKey (.int .i64) (.int .i64 n) by simp[IsKey]),run_findKey hu cU,run_setObj_map _ bc]
 rw[bq];refine⟨.value (.tuple #[]),.tuple #[],{ w with heap:=w.heap.setIfInBounds b (.map (ents.eraseIdxIfInBounds l1.length) iY) },φ.set i (.js b),?_,.inl rfl,by simp[RV],?_⟩
 ·simp only[execOp,resolve,invoke,builtin,Sem.run_bind,Sem.run_pure,Result.andThen_ok,rC,List.map_cons,fj,aN,oA,fm]
 ·refine jJ.swap hs hb (.inl rfl) aC (fun c _ hc=>kT.2 c fun e=>hc Gc) (fun b' hb=>.inl hb) rfl rfl rfl fun bx hle=>?_
  simp only[bd];refine⟨_,_,kT.1,?_,?_⟩
  ·have h1:=dC.1;rw[fH,yg,← h1];simp[cn,List.eraseIdx_append_of_length_le]
  ·have h2:=(dC.2.mono bx hle);rw[fH,yg];have h3:(cn (l1++(n,v)::l2)).map (·.2)=(cn l1).map (·.2)++v::(cn l2).map (·.2):=by simp[cn]
   rw[h3]at h2;have h4:=Q3 h2;have h5:((cn l1).map (·.2)).length=l1.length:=by simp[cn]
   rw[h5]at h4;simpa[cn]using h4
end
end aw

namespace aw
open Go Go.RowKit
variable{gd:Option (Nat × Bool)}{after:Array Edge}{dst:Option Nat}{ax:List Oper}{aa:List (List D)}{objs:List Ob}{pos:String}{z:List Value}{k:List It}{x:Operand}{ty T:Nat}{E:bk}{τ:Ty}
section
variable {g:G} {pf:Nat→cC} {ad:Array Oper} {Fin:Exit→Act→World→Prop}

theorem Yh(hg:c9 g){lo:Option Operand}
  {i s sz q cj e:Nat}    {h:Int}
  (bm:aG ad.toList E gd=some true) (hd:aO ⟨g.ty,g.N⟩ dst=true) (dV:Qe pf=.bO 1) (hx:ev E x=.ow i s) (ho:dk objs i=some (.arr sz s aa)) (hl:q8 E lo 0=some h) (hT:g.ty T=some ⟨q,cj,z,.slice e⟩) (he:g.ty e=some τ) (hsz:τ.size=sz)
  (h0:0≤h) (h2:h≤aa.length)
  (hr:R g pf Fin (.dr ad ax::k) (bf E dst (.vw i s h.toNat)) objs):R g pf Fin (.dr ad (⟨dst,.slice T x lo none none,ty,pos,after,gd⟩::ax)::k) E objs:=by
 refine cL ?_ hr;simp only[bI,dV];refine aI.eT hg (.refl _) bm hd aC fun φ a w hρ hs=>?_
 simp only[Op.operands]at hρ;have aN:=hρ x aC;rw[hx]at aN;simp only[RV]at aN;obtain⟨_,ph,eQ,aN⟩:=aN;have hk:=cG hs eQ ho;cases ph<;>try (simp only[bd]at hk;done)
 rename_i Ip s2 v2 Gk;simp only[bd]at hk;obtain⟨e1,e2,_,hk⟩:=hk;subst e1;subst e2;have hv:=(aN _ _ _ _ rfl).2 rfl;have hτ:=hg.ty _ _ he
 have mn:∃ (p:Option Addr) (c:Nat),v2=.slice p aa.length c∧aa.length≤c∧(0<aa.length→∃b o,p=some ⟨b,o,none⟩):=by
  rcases hk with ⟨a2,h1,rfl,_⟩ |⟨b,o,cap,cs,T',h1,_,_,hc,_⟩
  ·exact⟨_,_,h1,by simp,fun h=>absurd h aC⟩
  ·exact⟨_,_,h1,hc,fun _=>⟨b,o,rfl⟩⟩
 obtain⟨p,cap,mn,rF,hp⟩:=mn
 have hb:=ni (P:=g.P) (w:=w) (sl:=true) (a:=a) (len:=aa.length) (cap:=cap) (lo:=lo) (hi:=none) (h:=aa.length) hl rfl (fun y hy n he=>by
  have:=hρ y kb;rw[he]at this;simp only[RV]at this;generalize a.eval y=u at this;cases this;rfl) (fun y hy=>by cases hy) h0 h2 an
 refine aY hs (vv:=.slice (if cap=h.toNat then p else p.map (·.add (h.toNat * τ.size))) (aa.length - h.toNat) (cap - h.toNat)) ?_ ?_
 ·simp only [Option.map_none,vM] at hb;simp[execOp,Instr.sliceAt,Instr.slice,hv,mn,underlying,bN hg hT,hb,run_sizeOf hτ]
 ·simp only [RV];refine⟨⟨_,_,_,rfl⟩,_,eQ,fun sz s x ob h=>?_⟩;cases h;refine⟨ef _,fun _=>⟨_,_,_,_,_,mn,rfl,fun fu=>?_⟩⟩;obtain⟨b,o,rfl⟩:=hp an;exact⟨b,o,rfl,by rw[if_neg an];simp[fK,hsz]⟩

theorem ahK(hg:c9 g)
  {id s r sz q cj e:Nat}   {n:Int}
  (bm:aG ad.toList E gd=some true) (hd:aO ⟨g.ty,g.N⟩ dst=true) (hx:ev E x=.vw id s r) (ho:dk objs id=some (.arr sz s aa)) (hT:g.ty T=some ⟨q,cj,z,.slice e⟩) (hn:(↑(aa.length - r):Int)=n)
  (hr:R g pf Fin (.dr ad ax::k) (bf E dst (iV n)) objs) (dV:mW pf #[x]=.load:=by rfl):R g pf Fin (.dr ad (⟨dst,.call { callee:=.builtin .len,args:=#[x],argTypes:=#[T] },ty,pos,after,gd⟩::ax)::k) E objs:=by
 subst hn;refine cL ?_ hr;simp only[bI,dV];refine aI.fM hg 0 bm hd aC fun φ a w bP hgr hρ hs=>?_
 simp only[Op.operands,Call.operands]at hρ;have aN:=hρ x aC;rw[hx]at aN;simp only[RV]at aN;obtain⟨_,ph,eQ,aN⟩:=aN
 have ho:dk bP id=some (.arr sz s aa):=by
  rw[bu]at ho ⊢;exact Gr.same hgr ho (by rw[← hs.len];exact(bC.1 eQ).1) AH
 have hk:=cG hs eQ ho;cases ph<;>try (simp only[bd]at hk;done)
 simp only[bd]at hk;obtain⟨rfl,rfl,aZ,hk⟩:=hk;obtain⟨a1,n1,c1,p,c,Sz,hv,_⟩:=(aN _ _ _ _ rfl).2 rfl
 have mn:n1=aa.length:=by
  rcases hk with ⟨a2,h1,rfl,_⟩ |⟨b,o,cap,cs,T',h1,_⟩
  ·rw[h1]at Sz;cases Sz;rfl
  ·rw[h1]at Sz;cases Sz;rfl
 subst mn;refine aY hs (vv:=.int .i64 ↑(aa.length - r)) ?_ IW;have hu:=bN hg hT;simp only[execOp,resolve,Sem.run_bind,Sem.run_pure,Result.andThen_ok,invoke,builtin,rC,List.map_cons,fj,hv];simp[qd hu (.inr ⟨⟨_,rfl⟩,_,_,_,rfl,rfl⟩)]

theorem Yi(hg:c9 g){x i:Operand}
  {id s r sz q cj e:Nat}    {n:Int} (m:Nat)
  (bm:aG ad.toList E gd=some true) (hd:aO ⟨g.ty,g.N⟩ dst=true) (dV:Ew pf=.load) (hx:ev E x=.vw id s r) (ho:dk objs id=some (.arr sz s aa)) (hi:ev E i=.d (.v (.int .i64 n))) (hT:g.ty T=some ⟨q,cj,z,.slice e⟩) (he:g.ty e=some τ) (hsz:τ.size=sz)
  (h0:0≤n) (fu:r+n.toNat<aa.length) (hm:r+n.toNat=m)
  (hr:R g pf Fin (.dr ad ax::k) (bf E dst (.el id s m 0)) objs):R g pf Fin (.dr ad (⟨dst,.indexAddr T x i,ty,pos,after,gd⟩::ax)::k) E objs:=by
 subst hm;refine cL ?_ hr;simp only[bI,dV];refine aI.fM hg 0 bm hd aC fun φ a w bP hgr hρ hs=>?_
 simp only[Op.operands]at hρ;have aN:=hρ x aC;rw[hx]at aN;have v8:=hρ i aC;rw[hi]at v8;simp only[RV]at v8;generalize hvi:a.eval i=vi at v8;cases v8;simp only[RV]at aN;obtain⟨_,ph,eQ,aN⟩:=aN
 have ho:dk bP id=some (.arr sz s aa):=by
  rw[bu]at ho ⊢;exact Gr.same hgr ho (by rw[← hs.len];exact(bC.1 eQ).1) AH
 have hk:=cG hs eQ ho;cases ph<;>try (simp only[bd]at hk;done)
 simp only[bd]at hk;obtain⟨rfl,rfl,aZ,hk⟩:=hk;obtain⟨a1,n1,c1,p,c,Sz,hv,hp⟩:=(aN _ _ _ _ rfl).2 rfl;rcases hk with ⟨a2,_,rfl,_⟩ |⟨b,o,cap,cs,T',h1,rfl,h3,_⟩
 ·simp at fu
 rw[h1]at Sz;cases Sz;obtain⟨b',o',h4,rfl⟩:=hp an;cases h4;refine aY hs (vv:=.pointer (some ⟨b,o+(r+n.toNat) * τ.size,none⟩)) ?_ ?_
 ·have fm:(Instr.indexAt T (a.eval x) (a.eval i)).run g.P w=.ok (.pointer (some ⟨b,o+(r+n.toNat) * τ.size,none⟩)) w:=by
   simp only[Instr.indexAt,hv,hvi,asIntOf,underlying,Sem.run_bind,Sem.run_pure,run_program,Result.andThen_ok,bN hg hT];rw[Sem.run_ite,if_pos ⟨h0,by omega⟩];simp only[Sem.run_bind,run_sizeOf (hg.ty _ _ he),Result.andThen_ok,Sem.run_pure,fK,← hsz];rw[Nat.add_mul,Nat.add_assoc]
  simp only[execOp,Sem.run_bind,fm,Result.andThen_ok,Sem.run_pure]
 ·simp only [RV];refine⟨⟨_,_,rfl⟩,_,eQ,fun Jj s' x' oT h=>?_⟩;cases h;exact⟨ef _,fun _=>⟨b,o,_,_,h1,by rw[hsz];rfl⟩⟩

theorem Yj(hg:c9 g){lo:Option Operand}
  {i s sz q cj e:Nat}    (rows':List (List D)) {h:Int}
  (bm:aG ad.toList E gd=some true) (hd:aO ⟨g.ty,g.N⟩ dst=true) (dV:Qe pf=.bO 1) (hx:ev E x=.ow i s) (ho:dk objs i=some (.arr sz s aa)) (hl:q8 E lo 0=some h) (hT:g.ty T=some ⟨q,cj,z,.slice e⟩) (he:g.ty e=some τ) (hsz:τ.size=sz)
  (h0:0≤h) (h2:h≤aa.length) (eA:aa.drop h.toNat=rows')
  (hr:R g pf Fin (.dr ad ax::k) (bf E dst (.ow i (Nat.succ s))) (da objs i (.arr sz (Nat.succ s) rows'))):R g pf Fin (.dr ad (⟨dst,.slice T x lo none none,ty,pos,after,gd⟩::ax)::k) E objs:=by
 subst eA;refine cL ?_ hr;simp only[bI,dV];refine aI.eT hg (Bc ho) bm hd aC fun φ a w hρ hs=>?_
 simp only[Op.operands]at hρ;have aN:=hρ x aC;rw[hx]at aN;simp only[RV]at aN;obtain⟨_,ph,eQ,aN⟩:=aN;have hk:=cG hs eQ ho;cases ph<;>try (simp only[bd]at hk;done)
 rename_i Ip s2 v2 Gk;simp only[bd]at hk;obtain⟨e1,e2,kQ,Mg⟩:=hk;subst e1;subst e2;have hv:=(aN _ _ _ _ rfl).2 rfl;clear aN;rw[bq];have fu:i<φ.length:=(bC.1 eQ).1;have hτ:=hg.ty _ _ he;have QD:(aa.drop h.toNat).length=aa.length - h.toNat:=by rw[MC]
 have MQ:∀cap:Nat,aa.length≤cap→(Instr.sliceBounds true aa.length cap (lo.map a.eval) none none).run g.P w=.ok (h.toNat,aa.length,cap) w:=fun cap hc=>by
  have:=ni (P:=g.P) (w:=w) (sl:=true) (a:=a) (len:=aa.length) (cap:=cap) (lo:=lo) (hi:=none) (h:=aa.length) hl rfl (fun y hy n he=>by
   have:=hρ y kb;rw[he]at this;simp only[RV]at this;generalize a.eval y=u at this;cases this;rfl) (fun y hy=>by cases hy) h0 h2 an
  simpa using this
 have eK:∀r∈aa.drop h.toNat,r.length=sz:=fun r hr=>kQ r (Wf hr)
 rcases Mg with ⟨a0,rfl,eA,rfl⟩ |⟨b,o,cap,cs,Tb,rfl,rfl,bc,hn,rF,hle,vR⟩
 ·subst eA;have Xs:h=0:=by simp at h2;omega
  subst Xs;have hb:=MQ 0 aC;refine⟨.value (.slice a0 0 0),.slice a0 0 0,w,φ.set i (.nZ sz (Nat.succ s) (.slice a0 0 0) none),?_,.inl rfl,?_,?_⟩
  ·simp only [lM] at hb;simp[execOp,Instr.sliceAt,Instr.slice,hv,underlying,bN hg hT,hb,run_sizeOf hτ]
  ·simp only [RV];exact abf
  ·refine jJ.swap hs eQ (.inr (.inl ⟨_,_,_,_,_,_,_,_,rfl,rfl,I8 _⟩)) cP (fun _ _ _=>rfl) (fun b hb=>by simp [bB.bl] at hb) rfl rfl rfl fun _ _=>?_
   simp only[bd];exact⟨trivial,trivial,by simp,.inl ⟨_,rfl,by simp,trivial⟩⟩
 ·have hb:=MQ cap an
  obtain⟨o',ao1,ahL⟩:∃o',(if cap=h.toNat then (some (⟨b,o,none⟩:Addr)) else (some (⟨b,o,none⟩:Addr)).map (·.add (h.toNat * τ.size)))=some ⟨b,o',none⟩∧(o'+(cap - h.toNat) * τ.size≤cs.length∧(h.toNat<aa.length→o'=o+h.toNat * τ.size)):=by
   by_cases hc:cap=h.toNat
   ·refine ⟨o,by rw [if_pos hc],?_,fun hh=>by omega⟩;have:cap - h.toNat=0:=by omega
    rw[this,Wc];have:=cT (cap * sz);omega
   ·refine ⟨o+h.toNat * τ.size,by rw [if_neg hc]; simp [fK],?_,fun _=>rfl⟩;have h3:h.toNat≤cap:=by omega
    have h4:h.toNat * sz+(cap - h.toNat) * sz=cap * sz:=by rw[← Nat.add_mul];congr 1;omega
    rw[hsz];omega
  obtain⟨ahL,ao2⟩:=ahL;refine⟨.value (.slice (some ⟨b,o',none⟩) (aa.length - h.toNat) (cap - h.toNat)),.slice (some ⟨b,o',none⟩) (aa.length - h.toNat) (cap - h.toNat),w,φ.set i (.nZ sz (Nat.succ s) (.slice (some ⟨b,o',none⟩) (aa.length - h.toNat) (cap - h.toNat)) (some b)),?_,.inl rfl,?_,?_⟩
  ·simp only[execOp,Instr.sliceAt,Instr.slice,hv,underlying,Sem.run_bind,run_program,Result.andThen_ok,bN hg hT,Sem.run_pure,hb,run_sizeOf hτ,Option.map_none,ao1]
  ·simp only [RV];exact abf
  ·refine jJ.swap hs eQ (.inr (.inl ⟨_,_,_,_,_,_,_,_,rfl,rfl,I8 _⟩)) cP (fun _ _ _=>rfl) (fun b' hb=>.inl hb) rfl rfl rfl fun bx _=>?_
   simp only[bd];refine⟨trivial,trivial,eK,.inr ⟨b,o',cap - h.toNat,cs,Tb,by rw[QD],rfl,bc,by rw[QD];omega,by omega,by rw[← hsz];exact ahL,fun i' r j x' hi hj=>?_⟩⟩;rw[AL]at hi;have l7:=(bC.1 hi).1;obtain⟨y,h3,h4⟩:=vR (h.toNat+i') r j x' hi hj;refine⟨y,?_,h4.mono bx⟩;rw[ao2 an,hsz,← h3,Nat.add_mul];congr 1;omega

theorem KD(hg:c9 g){T T':Nat}{e:TypeId}
  (hu:g.P.underlying T=some (.pointer e)) (bm:aG ad.toList E gd=some true) (hd:aO ⟨g.ty,g.N⟩ dst=true) (hx:ev E x=.d (.v (.pointer none)))
  (hr:R g pf Fin (.dr ad ax::k) (bf E dst (.d (.v (.bool true)))) objs):R g pf Fin (.dr ad (⟨dst,.binOp .eql T x (.const (.pointer none)) T',ty,pos,after,gd⟩::ax)::k) E objs:=by
 refine cL (aI.up (aI.quiet hg bm hd aC fun φ objs w' w hρ fh=>?_)) hr;simp only[Op.operands]at hρ;have aN:=hρ x aC;rw[hx]at aN;simp only[RV]at aN;generalize kU:w'.eval x=vx at aN;cases aN;refine aY fh (vv:=.bool true) ?_ xH
 have h1:∀d,(Op.equalIn (d+1) T (.pointer none) (.pointer none)).run g.P w=.ok true w:=fun d=>by
  simp[Op.equalIn,run_underlying hu]
 have h2:(Op.equal T (.pointer none) (.pointer none)).run g.P w=.ok true w:=h1 9999;have h3:(eqGuard .eql T x (.const (.pointer none)) (.pointer none) (.pointer none)).run g.P w=.ok () w:=by simp[eqGuard]
 have h4:w'.eval (.const (.pointer none))=.pointer none:=rfl;simp only[execOp,Sem.run_bind,kU,h4,h3,Result.andThen_ok,binOp,h2,Sem.run_pure]
end
theorem aU.one{P:Program}{Y:YP}{f:Nat}{t:Tm}{r:AV}{o o':List Ob}(h:aU P Y f [.d (.sl (Tm.aa [t]))] o r o'):aU P Y f [.d (.sl [Tm.row t])] o r o':=by rwa [Tm.dZ]at h
end aw

namespace aw
open Go Go.RowKit
variable{gd:Option (Nat × Bool)}{after:Array Edge}{objs:List Ob}{dst:Option Nat}{ax:List Oper}{pos:String}{k:List It}{x:Operand}{ty T i TT e T' off s:Nat}{bs:List UInt8}{E:bk}{l:List AV}{j:TypeInfo}{w:World}{v:Value}
section
variable {g:G} {pf:Nat→cC} {ad:Array Oper} {Fin:Exit→Act→World→Prop}

theorem Yk{n0 m i TT:Nat}(hm:m<3):¬ o4 n0 m i (.gM TT l):=by
 unfold o4 Ob.lvl Ob.IH
 grind

theorem aaB(hg:c9 g)(m:Nat)
    {τ:Ty} {v:AV} (hm:m<3)
  (bm:aG ad.toList E gd=some true) (hd:aO ⟨g.ty,g.N⟩ dst=true) (dV:kA pf x=.look (m+1)) (hx:ev E x=.lo i off) (ho:dk objs i=some (.gM TT l)) (hT:g.ty T=some τ) (hp:ky τ l off=some v)
  (hr:R g pf Fin (.dr ad ax::k) (bf E dst v) objs):R g pf Fin (.dr ad (⟨dst,.load T x,ty,pos,after,gd⟩::ax)::k) E objs:=by
 refine cL ?_ hr;simp only[bI,dV];refine aI.fM hg m bm hd aC fun φ a w bP hgr hρ hs=>?_
 simp only[Op.operands]at hρ;have aN:=hρ x aC;rw[hx]at aN;simp only[RV]at aN;obtain⟨b,hb,aN⟩:=aN
 have ho:dk bP i=some (.gM TT l):=by
  rw[bu]at ho ⊢;exact Gr.Ex hgr ho AF (Yk hm)
 have hk:=cG hs hb ho;simp only[bd]at hk;obtain⟨cs,bc,lz⟩:=hk;obtain⟨vv,h1,h2⟩:=Gn (o:=0) (hg.ty _ _ hT) bc (by simpa using lz) hp;exact nY hs rfl aN MA h2

theorem B9(hg:c9 g){d x:Operand}
   {l new:List AV} {τ:Ty}
  (bm:aG ad.toList E gd=some true) (hd:aO ⟨g.ty,g.N⟩ dst=true) (dV:iZ pf d=.ji) (hx:ev E d=.lo i off) (ho:dk objs i=some (.gM TT l)) (hT:g.ty T=some τ) (hc:fU (ev E x)=some new) (aZ:new.length=τ.size) (hle:off+τ.size≤l.length)
  (hr:R g pf Fin (.dr ad ax::k) (bf E dst .any) (da objs i (.gM TT (gy l off new)))):R g pf Fin (.dr ad (⟨dst,.store T d x,ty,pos,after,gd⟩::ax)::k) E objs:=by
 refine cL ?_ hr;simp only[bI,dV];refine aI.effect hg bm hd aC fun φ a w hρ hs=>?_
 simp only[Op.operands]at hρ;have hdv:=hρ d aC;have aN:=hρ x aC;rw[hx]at hdv;simp only[RV]at hdv;obtain⟨b,hb,hdv⟩:=hdv;have hk:=cG hs hb ho;simp only[bd]at hk;obtain⟨cs,bc,lz⟩:=hk;obtain⟨vo,Gp⟩:=gU aN hc;have dV:=vo.length;have Vd:=lz.length;obtain⟨w',fm,cS⟩:=my (P:=g.P) (hg.ty _ _ hT) off bc rfl Gp an an;have gQ:(bB.js b).bl b:=rfl;have hkp:=sV (S0:=g.S0) hb gQ cS.other;refine⟨.skip,undef,w',φ,?_,.inr ⟨rfl,rfl⟩,by simp[RV],?_⟩
 ·simp only[execOp,Instr.storeAt,Instr.sureAddr,hdv,Sem.run_bind,Sem.run_pure,Result.andThen_ok,fm]
 ·refine ⟨?_,hkp,.refl _,by rw [cS.size]; omega,cS.os,cS.tape,cS.out,fun c hc hn=>cS.other c fun e=>hn ⟨i,_,hb,by rw [e]; rfl⟩,fun _ h=>.inl h,fun _ _ _ B h=>⟨B,h⟩⟩;rw[bq];refine hs.bO hb gQ cS.size cS.other ?_;simp only[bd];exact⟨_,cS.at_,(lz.mono hkp (.refl _)).dx off (vo.mono hkp (.refl _))⟩

theorem NM{φ:List bB}{S0:Nat→Prop}(hs:HS S0 φ objs w)(hv:RV (SS S0 φ) w φ (.ow i s) v)(ho:dk objs i=some (.qe e s bs)) :
  φ[i]? = some (.nZ 1 s v v.ownBlock)∧w.ownsRow 0 e 1 v bs.length (bs.map fun x=>Value.int .u8 x.toNat):=by
 simp only[RV]at hv;obtain⟨_,ph,eQ,hv⟩:=hv;have hk:=cG hs eQ ho;cases ph<;>try (simp only[bd]at hk;done)
 simp only[bd]at hk
 simp_all

theorem uj{e n:Nat}{xs:List Value}(h:w.ownsRow 0 e 1 v n xs):∃p c,v=.slice p n c:=by
 rcases h.2 with ⟨h1,h2⟩ |⟨g,cap,cur,h1,_⟩
 ·exact⟨none,0,by rw[h1,h2]⟩
 simp_all

theorem af8(hg:c9 g)
  {id s q cj e ee:Nat} {z:List Value}  {n:Int}
  (bm:aG ad.toList E gd=some true) (hd:aO ⟨g.ty,g.N⟩ dst=true) (hx:ev E x=.ow id s) (ho:dk objs id=some (.qe ee s bs)) (hT:g.ty T=some ⟨q,cj,z,.slice e⟩) (hn:(bs.length:Int)=n)
  (hr:R g pf Fin (.dr ad ax::k) (bf E dst (iV n)) objs) (dV:mW pf #[x]=.load:=by rfl):R g pf Fin (.dr ad (⟨dst,.call { callee:=.builtin .len,args:=#[x],argTypes:=#[T] },ty,pos,after,gd⟩::ax)::k) E objs:=by
 subst hn;refine cL ?_ hr;simp only[bI,dV];refine aI.fM hg 0 bm hd aC fun φ a w bP hgr hρ hs=>?_
 simp only[Op.operands,Call.operands]at hρ;have aN:=hρ x aC;rw[hx]at aN;have DT:=aN;simp only[RV]at aN;obtain⟨_,ph,eQ,aN⟩:=aN
 have ho:dk bP id=some (.qe ee s bs):=by
  rw[bu]at ho ⊢;exact Gr.same hgr ho AF AH
 obtain⟨_,h4⟩:=NM hs DT ho;obtain⟨p,c,mn⟩:=uj h4;refine aY hs (vv:=.int .i64 bs.length) ?_ IW;have hu:=bN hg hT;simp only[execOp,resolve,Sem.run_bind,Sem.run_pure,Result.andThen_ok,invoke,builtin,rC,List.map_cons,fj,mn];simp[qd hu (.inr ⟨⟨_,rfl⟩,_,_,_,rfl,rfl⟩)]

theorem Yl{n0:Nat}{i e s e' s':Nat}{bs bs':List UInt8}(ho:dk objs i=some (.qe e s bs)):Gr n0 1 objs (da objs i (.qe e' s' bs')):=fun j x hj=>by
 rw[bq];rw[bu]at ho;by_cases h:i=j
 ·subst h;rw[ho]at hj;cases hj;exact⟨_,qc (bC.1 ho).1,.inr ⟨.inl ⟨by omega,by simp[Ob.lvl]⟩,.inl ⟨by omega,by simp[Ob.lvl]⟩⟩⟩
 simp_all

theorem TB{P:Program}{w w':World}{i:TypeInfo}(ht:P.underlying T=some (.slice e))(hu:P.underlying T'=some .string)(hi:P.info? e=some i)(hz:i.zero=some (.int .u8 0))(afc:i.size=1)(J7:i.bytes=1)
  {v v':Value} {n:Nat} {xs:List Value} (D1:w.ownsRow 0 e 1 v n xs) {s:ByteArray} (hb:n+s.size≤140737488355328) (hr:(Builtin.append_ #[T,T'] ty #[v,.string s]).run P w=.ok v' w') :
  v'.ownBlock=v.ownBlock∨(v'.ownBlock=some w.heap.size∧w.heap.size<w'.heap.size):=by
 have hxl:xs.length=n:=by simpa using D1.1
 have hmx:n+s.size≤maxLen:=by unfold maxLen;omega
 rcases D1.2 with ⟨rfl,rfl⟩ |⟨gb,cap,cur,rfl,_,hg,hnc,hcm,qg,aqz⟩
 ·have h0:xs=[]:=Wg hxl;subst h0;obtain⟨v2,w2,QC,aqA,asm,SQ⟩:=Lib.run_append_own_string (P:=P) w w.heap.size T T' ty e i ht hu hi hz afc J7 (.slice none 0 0) 0 [] (World.ownsRow_nil w w.heap.size e 1) s hmx hb cP;rw[hr]at QC;cases QC;by_cases hs:s.size=0
  ·simp_all
  ·have hrr:=run_append_nil_string (P:=P) w T T' ty e i (.int .u8 0) ht hu hi hz s an an (by rw [J7]; omega);rw[hr]at hrr;obtain⟨rfl,rfl⟩:=Result.ok.inj hrr;exact .inr ⟨rfl,by simp⟩
 ·by_cases Bd:n+s.size≤cap
  ·have hrr:=Lib.run_append_room_string (P:=P) w T T' ty e i ht hu hi afc gb n cap cur hg s Bd an;rw[hr]at hrr;cases hrr;exact .inl rfl
  ·have holds:∀ j u,xs[j]? = some u→w.cell? ((⟨gb,0,none⟩:Addr).add j)=some u:=D1.cells (g:=gb) rfl;have hrr:=Lib.run_append_grow_string (P:=P) w T T' ty e i (.int .u8 0) ht hu hi hz ⟨gb,0,none⟩ n cap xs k8 holds s an an (by rw[J7];exact growslice_fits an an);rw[hr]at hrr;cases hrr;exact .inr ⟨rfl,by simp⟩

theorem af6(hg:c9 g){x y:Operand}
  (s1:Nat) {i s q cj e:Nat} {z:List Value}  {t:ByteArray} {τ:TypeInfo}
  (bm:aG ad.toList E gd=some true) (hd:aO ⟨g.ty,g.N⟩ dst=true) (hx:ev E x=.ow i s) (ho:dk objs i=some (.qe e s bs)) (hy:ev E y=.d (.v (.string t)))
  (hT:g.ty T=some ⟨q,cj,z,.slice e⟩) (kX:g.P.underlying T'=some .string) (he:g.P.info? e=some τ) (hz:τ.zero=some (.int .u8 0)) (hsz:τ.size=1) (J7:τ.bytes=1)
  (fu:s<s1) (tJ:bs.length+t.size≤140737488355328)
  (hr:R g pf Fin (.dr ad ax::k) (bf E dst (.ow i s1)) (da objs i (.qe e s1 (bs++t.data.toList)))) :
  R g pf Fin (.dr ad (⟨dst,.call { callee:=.builtin .append,args:=#[x,y],argTypes:=#[T,T'] },ty,pos,after,gd⟩::ax)::k) E objs:=by
 refine cL (aI.eT hg (Yl ho) bm hd aC fun φ a w hρ hs=>?_) hr;simp only[Op.operands,Call.operands]at hρ;have aN:=hρ x aC;rw[hx]at aN;have ew:=hρ y aC;rw[hy]at ew;simp only[RV]at ew;generalize hye:a.eval y=ye at ew;cases ew;obtain⟨eQ,D1⟩:=NM hs aN ho;generalize QF:a.eval x=v at aN eQ D1;obtain⟨v',w',fm,al9,hgr,_⟩:=Lib.run_append_own_string (P:=g.P) w 0 T T' ty e τ (bN hg hT) kX he hz hsz J7 v bs.length _ D1 t (by unfold maxLen;omega) tJ fy;have qf:=TB (P:=g.P) (bN hg hT) kX he hz hsz J7 D1 tJ fm;have asn:i<φ.length:=(bC.1 eQ).1;obtain⟨p',c',rp⟩:=uj al9;have rL:(bs++t.data.toList).map (fun x=>Value.int .u8 x.toNat)=bs.map (fun x=>Value.int .u8 x.toNat)++Lib.strCells t:=by simp[Lib.strCells]
 have aZ:(bs++t.data.toList).length=bs.length+t.size:=by simp_all
 rw[bq];refine⟨.value v',v',w',φ.set i (.nZ 1 s1 v' v'.ownBlock),?_,.inl rfl,?_,?_⟩
 ·simp only[execOp,resolve,invoke,builtin,Sem.run_bind,Sem.run_pure,Result.andThen_ok,rC,List.map_cons,fj,QF,hye,fm]
 ·simp only [RV]
  simp_all
 ·refine jJ.swap hs eQ (.inr (.inl ⟨_,_,_,_,_,_,_,_,rfl,rfl,fu⟩)) hgr.size (fun c hc hn=>hgr.block c hc fun e=>hn e.symm) (fun b hb=>?_) hgr.os hgr.tape hgr.output fun bx _=>?_
  ·simp only [bB.bl] at hb ⊢
   grind
  ·simp only [bd]
   simp_all

theorem TD(hg:c9 g){x y:Operand}{e:TypeId}
  (hu:g.P.underlying T=some (.pointer e)) (hj:g.P.info? e=some j) (bm:aG ad.toList E gd=some true) (hd:aO ⟨g.ty,g.N⟩ dst=true) (hx:ev E x=.lo i off) (hy:ev E y=.lo i off)
  (hr:R g pf Fin (.dr ad ax::k) (bf E dst (.d (.v (.bool false)))) objs):R g pf Fin (.dr ad (⟨dst,.binOp .neq T x y T',ty,pos,after,gd⟩::ax)::k) E objs:=by
 refine cL (aI.up (aI.quiet hg bm hd aC fun φ objs w' w hρ fh=>?_)) hr;simp only[Op.operands]at hρ;have aN:=hρ x aC;have ew:=hρ y aC;rw[hx]at aN;rw[hy]at ew;simp only[RV]at aN ew;obtain⟨b,hb,kU⟩:=aN;obtain⟨b',uc,oA⟩:=ew;rw[hb]at uc;cases uc;refine aY fh (vv:=.bool false) ?_ xH;have h2:=Lib.run_neq_ptr_same (P:=g.P) w ⟨b,off,none⟩ hu hj;have h3:(eqGuard .neq T x y (.pointer (some ⟨b,off,none⟩)) (.pointer (some ⟨b,off,none⟩))).run g.P w=.ok () w:=by simp[eqGuard]
 simp only[execOp,Sem.run_bind,kU,oA,h3,Result.andThen_ok,h2,Sem.run_pure]

theorem acd(hg:c9 g){e:TypeId}
  (hu:g.P.underlying T=some (.pointer e)) (hu':g.P.underlying T'=some .unsafePointer) (hj:g.P.info? e=some j) (hj0:j.size≠0) (ho:dk objs i=some (.gM TT l)) (hl:off<l.length)
  (bm:aG ad.toList E gd=some true) (hd:aO ⟨g.ty,g.N⟩ dst=true) (hx:ev E x=.lo i off) (dV:Gu pf=.ji)
  (hr:R g pf Fin (.dr ad ax::k) (bf E dst (.lo i off)) objs):R g pf Fin (.dr ad (⟨dst,.convert T T' x,ty,pos,after,gd⟩::ax)::k) E objs:=by
 refine cL ?_ hr;simp only[bI,dV];refine aI.effect hg bm hd aC fun φ a w hρ hs=>?_
 simp only[Op.operands]at hρ;have aN:=hρ x aC;rw[hx]at aN;have DT:=aN;simp only[RV]at aN;obtain⟨b,hb,kU⟩:=aN;have hk:=cG hs hb ho;simp only[bd]at hk;obtain⟨cs,bc,lz⟩:=hk;have eE:w.shape? b=some (TT,cs.length):=by simp[World.shape?,bc]
 refine aY hs (vv:=.pointer (some ⟨b,off,none⟩)) ?_ (by rw[← kU];exact DT);have h1:=Lib.run_to_unsafe (P:=g.P) w ⟨b,off,none⟩ hu hu' hj hj0 eE (by have:=lz.length;simp_all);simp only[execOp,kU,Sem.run_bind,h1,Result.andThen_ok,Sem.run_pure]

theorem TE(hg:c9 g){e:TypeId}
  (hu:g.P.underlying T=some .unsafePointer) (hu':g.P.underlying T'=some (.pointer e)) (hj:g.P.info? e=some j) (ho:dk objs i=some (.gM TT l)) (hl:liesAt g.P g.P.depth TT (l.length / g.P.cellsOf TT) off e 1=true)
  (bm:aG ad.toList E gd=some true) (hd:aO ⟨g.ty,g.N⟩ dst=true) (hx:ev E x=.lo i off) (dV:Gu pf=.ji)
  (hr:R g pf Fin (.dr ad ax::k) (bf E dst (.lo i off)) objs):R g pf Fin (.dr ad (⟨dst,.convert T T' x,ty,pos,after,gd⟩::ax)::k) E objs:=by
 refine cL ?_ hr;simp only[bI,dV];refine aI.effect hg bm hd aC fun φ a w hρ hs=>?_
 simp only[Op.operands]at hρ;have aN:=hρ x aC;rw[hx]at aN;have DT:=aN;simp only[RV]at aN;obtain⟨b,hb,kU⟩:=aN;have hk:=cG hs hb ho;simp only[bd]at hk;obtain⟨cs,bc,lz⟩:=hk;have eE:w.shape? b=some (TT,cs.length):=by simp[World.shape?,bc]
 refine aY hs (vv:=.pointer (some ⟨b,off,none⟩)) ?_ (by rw[← kU];exact DT);have h1:=Lib.run_from_unsafe (P:=g.P) w ⟨b,off,none⟩ hu hu' hj eE (by simp only;rw[← lz.length];exact hl);simp only[execOp,kU,Sem.run_bind,h1,Result.andThen_ok,Sem.run_pure]

theorem ahN(hg:c9 g){f:Nat}{ts:Array Nat}
  (hf:∀ (v:Value) (w:World),(callFunc f #[v]).run g.P w=.ok (.value v) w)
  (bm:aG ad.toList E gd=some true) (hd:aO ⟨g.ty,g.N⟩ dst=true)
  (hr:R g pf Fin (.dr ad ax::k) (bf E dst (ev E x)) objs):R g pf Fin (.dr ad (⟨dst,.call { callee:=.value (.func f),args:=#[x],argTypes:=ts },ty,pos,after,gd⟩::ax)::k) E objs:=by
 refine cL (aI.quiet hg bm hd aC fun φ objs w' w hρ fh=>?_) hr;simp only[Op.operands,Call.operands]at hρ;have aN:=hρ x aC;refine aY fh (vv:=w'.eval x) ?_ aN;have h1:=hf (w'.eval x) w
 have h2:(resolve w'.eval { callee:=.value (.func f),args:=#[x],argTypes:=ts } ty).run g.P w=.ok { target:=.fn (.func f) #[],args:=#[w'.eval x] } w:=by
  simp[resolve,Act.eval,Deferred.ofValue]
 simp only[execOp,Sem.run_bind,h2,Result.andThen_ok,invoke];simpa using h1

theorem ahO(hg:c9 g){ts:Array Nat}
  {id s e:Nat} 
  (bm:aG ad.toList E gd=some true) (hd:aO ⟨g.ty,g.N⟩ dst=true) (hx:ev E x=.ow id s) (ho:dk objs id=some (.qe e s bs)) (h0:bs≠[])
  (hr:R g pf Fin (.dr ad ax::k) (bf E dst (.el id s 0 0)) objs):R g pf Fin (.dr ad (⟨dst,.call { callee:=.builtin .unsafeSliceData,args:=#[x],argTypes:=ts },ty,pos,after,gd⟩::ax)::k) E objs:=by
 refine cL ?_ hr;simp only[bI];refine aI.fM hg 0 bm hd aC fun φ a w bP hgr hρ hs=>?_
 simp only[Op.operands,Call.operands]at hρ;have aN:=hρ x aC;rw[hx]at aN;have DT:=aN;simp only[RV]at aN;obtain⟨_,ph,eQ,aN⟩:=aN
 have ho:dk bP id=some (.qe e s bs):=by
  rw[bu]at ho ⊢;exact Gr.same hgr ho AF AH
 obtain⟨eQ,h4⟩:=NM hs DT ho;have Qu:bs.length≠0:=by simpa using h0
 rcases h4.2 with ⟨_,h2⟩ |⟨gb,cap,cur,h1,_,bc,hnc,_⟩
 ·omega
 ·rw [h1] at eQ;refine aY hs (vv:=.pointer (some ⟨gb,0,none⟩)) ?_ ?_
  ·have fm:=Lib.run_unsafeSliceData_row (P:=g.P) w ts ty ⟨gb,0,none⟩ bs.length cap an;simp only[execOp,resolve,invoke,builtin,Sem.run_bind,Sem.run_pure,Result.andThen_ok,rC,List.map_cons,fj,h1,fm]
  ·simp only [RV]
   grind

theorem ahP(hg:c9 g){x y:Operand}
  {id s e:Nat}  {n:Int} (hT:g.P.underlying T=some (.pointer e)) (hc:g.P.cellsOf e=1)
  (bm:aG ad.toList E gd=some true) (hd:aO ⟨g.ty,g.N⟩ dst=true) (hx:ev E x=.el id s 0 0) (hy:ev E y=iV n) (ho:dk objs id=some (.qe e s bs)) (hn:n=bs.length) (h0:bs≠[]) (h63:bs.length≤9223372036854775807)
  (hr:R g pf Fin (.dr ad ax::k) (bf E dst (.d (.v (.string ⟨bs.toArray⟩)))) (da objs id .dead)):R g pf Fin (.dr ad (⟨dst,.call { callee:=.builtin .unsafeString,args:=#[x,y],argTypes:=#[T,T'] },ty,pos,after,gd⟩::ax)::k) E objs:=by
 subst hn;refine cL ?_ hr;simp only[bI];refine aI.effect hg bm hd aC fun φ a w hρ hs=>?_
 simp only[Op.operands,Call.operands]at hρ;have aN:=hρ x aC;have ew:=hρ y aC;rw[hx]at aN;rw[hy]at ew;simp only[RV,iV]at aN ew;generalize hye:a.eval y=ye at ew;cases ew;obtain⟨_,ph,eQ,aN⟩:=aN;have hk:=cG hs eQ ho;cases ph<;>try (simp only[bd]at hk;done)
 rename_i Ip s2 v2 Gk;simp only[bd]at hk;obtain⟨rfl,rfl,vX,D1⟩:=hk;obtain⟨b,o,n,cap,xO,QF⟩:=(aN _ _ _ _ rfl).2 rfl;have Qu:bs.length≠0:=by simpa using h0
 rcases D1.2 with ⟨_,h2⟩ |⟨gb,oD,cur,h1,_,bc,hnc,_,qg,_⟩
 ·omega
 ·rw [xO] at h1;cases h1;simp only[Wc,Ja]at QF
  have fm:=Lib.run_unsafeString_row (P:=g.P) w T T' ty e hT hc b cur.size (by simp[World.shape?,bc]) bs h0 an h63 (fun j x' Qc=>by
   refine D1.cells (g:=b) (by rw[xO];rfl) j _ ?_;simp[Qc])
  have hfz:∀c,c≠b→(w.freeze ⟨b,0,none⟩ bs.length).heap[c]? = w.heap[c]? := fun c hc=>by
   unfold World.freeze
   grind
  have WX:(w.freeze ⟨b,0,none⟩ bs.length).heap.size=w.heap.size:=by
   unfold World.freeze;split<;>simp
  have hfo:(w.freeze ⟨b,0,none⟩ bs.length).os=w.os∧(w.freeze ⟨b,0,none⟩ bs.length).tape=w.tape∧(w.freeze ⟨b,0,none⟩ bs.length).output=w.output:=by
   unfold World.freeze
   simp_all
  have gQ:(bB.nZ 1 s v2 Gk).bl b:=by simp only[bB.bl];rw[vX,xO];rfl
  have hkp:=sV (S0:=g.S0) eQ gQ hfz;refine⟨.value (.string ⟨bs.toArray⟩),.string ⟨bs.toArray⟩,w.freeze ⟨b,0,none⟩ bs.length,φ,?_,.inl rfl,by simp only[RV];exact .v _,?_⟩
  ·simp only[execOp,resolve,invoke,builtin,Sem.run_bind,Sem.run_pure,Result.andThen_ok,rC,List.map_cons,fj,QF,hye,fm]
  ·refine ⟨?_,hkp,.refl _,by omega,hfo.1,hfo.2.1,hfo.2.2,fun c _ hn=>hfz c fun e=>hn ⟨id,_,eQ,by simp_all⟩,fun _ h=>.inl h,fun _ _ _ B h=>⟨B,h⟩⟩;rw[bq];refine hs.bO eQ gQ WX hfz ?_;simp only[bd]

theorem ahQ(hg:c9 g)
  (bm:aG ad.toList E gd=some true) (hd:aO ⟨g.ty,g.N⟩ dst=true) (hc:fU (ev E x)=some l)
  (hr:R g pf Fin (.dr ad ax::k) (bf E dst (.lo (len objs) 0)) (objs++[.gM T l])):R g pf Fin (.dr ad (⟨dst,.box T x,ty,pos,after,gd⟩::ax)::k) E objs:=by
 refine cL ?_ hr;simp only[bI];refine aI.eT hg (fun i x hx=>⟨x,by grind,.inl rfl⟩) bm hd aC fun φ a w hρ hs=>?_
 simp only[Op.operands]at hρ;have aN:=hρ x aC;obtain⟨h1,h2⟩:=gU aN hc;have qf:∀b,(bB.js w.heap.size).bl b→b=w.heap.size:=by intro b hb;simpa[bB.bl]using hb.symm
 refine⟨.value (.pointer (some ⟨w.heap.size,0,none⟩)),_,w.alloc (.cells (a.eval x).cells T),φ++[.js w.heap.size],?_,.inl rfl,?_,.new hs qf ?_⟩
 ·simp only [execOp,Instr.box,Sem.run_bind,Result.andThen_ok,newVar,newRow,run_newObj,Sem.run_pure];rfl
 ·simp only [RV];exact⟨w.heap.size,by rw[bj,← hs.len];simp,rfl⟩
 ·simp only [bd];exact⟨(a.eval x).cells.toList,heap_alloc_new _ _,h1.mono (rI qf) (.app _ _)⟩

theorem ahR(i j e:Nat)(ho:dk objs i=some (.gM TT l))(h:dk l j=some (.d (.v (.slice none 0 0))))(ht:gz k=true)
  (hr:R g pf Fin k E (da objs i (.gM TT (da l j (.ow (len objs) 0)))++[.qe e 0 []])):R g pf Fin k E objs:=by
 refine mC ht (fun a w hs=>?_) hr;obtain⟨φ,h1,h2,h3,h4,h5,h6⟩:=hs;rw[bu]at ho h;have l7:=(bC.1 ho).1
 have cS:jJ g.S0 φ w (φ++[bB.nZ 1 0 (.slice none 0 0) none]) (objs++[.qe e 0 []]) w:=jJ.add h1 cP (fun _ _=>rfl) (fun b hb=>by simp[bB.bl]at hb) rfl rfl rfl fun _=>by
  simp only[bd];exact⟨trivial,trivial,rfl,by simpa using World.ownsRow_nil w 0 e 1⟩
 have eQ:φ[i]? = some (φ[i]' aaV):=dY _;generalize φ[i]' q5=ph at eQ;have hk:=cS.hs.ok i ph (.gM TT l) q5 q5;cases ph<;>try (simp only[bd]at hk;done)
 rename_i b;have Mg:=hk;simp only[bd]at Mg;obtain⟨cs,hb,lz⟩:=Mg
 have agX:jJ g.S0 (φ++[bB.nZ 1 0 (.slice none 0 0) none]) w ((φ++[bB.nZ 1 0 (.slice none 0 0) none]).set i (.js b)) ((objs++[Ob.qe e 0 []]).set i (.gM TT (da l j (.ow (len objs) 0)))) w:=by
  refine jJ.swap cS.hs q5 (.inl rfl) cP (fun _ _ _=>rfl) (fun b hb=>.inl hb) rfl rfl rfl fun bx hle=>?_
  simp only[bd];refine⟨cs,hb,?_⟩;rw[bq];obtain⟨v,Sz,xO⟩:=lz.get j h
  have qg:cs=cs.set j v:=by
   apply Sv
   grind
  rw[qg];refine(lz.mono bx hle).set j ?_;simp only[RV]at xO ⊢;cases xO;refine⟨⟨_,_,_,rfl⟩,.nZ 1 0 (.slice none 0 0) none,?_,fun sz s x ob h=>by grind⟩;rw[q6 (by rw[bj];omega),bj,← h1.len];simp
 have e1:(φ++[bB.nZ 1 0 (.slice none 0 0) none]).set i (.js b)=φ++[bB.nZ 1 0 (.slice none 0 0) none]:=by
  apply Sv
  grind
 have e2:(objs++[Ob.qe e 0 []]).set i (.gM TT (da l j (.ow (len objs) 0)))=da objs i (.gM TT (da l j (.ow (len objs) 0)))++[.qe e 0 []]:=by
  rw[List.set_append,if_pos l7];rw[bq objs i]
 have Vb:=agX.hs;rw[e1,e2]at Vb;exact akn
end
end aw

namespace Go.Proofs.YtaagocopollacaaGreatDoor
open Go aw Go.Proofs

def wrO (u:Bool)(bs:List UInt8):List Ob:=[.gM 249 [bif u then .lo 0 0 else .d (.v (.pointer none)),.ow 1 bs.length],.qe 5 bs.length bs]

theorem ama (v:Value)(w:World):(callFunc 206 #[v]).run Tryz.prog w=.ok (.value v) w:=by
 rw[run_callFunc_extern Tryz.func206 cX cX cX (e:=Extern.AbiNoEscape.same) cX,Lib.run_noEscape];rfl
def anP:Nat→cC:=fun f=>bif Nat.beq f 4000000010 then .bO 90 else .ji

theorem KE (Y:YP)(s:Nat)(bs:List UInt8):aU Tryz.prog Y 202 [.lo 0 0] [.gM 249 [.d (.v (.pointer none)),.ow 1 s],.qe 5 s bs] (.cH []) [.gM 249 [.lo 0 0,.ow 1 s],.qe 5 s bs]:=by
 obtain⟨j,z,hj,hz,hjs,hjb,_⟩:=(gK 247 _ rfl).info;refine mH5 Tryz.func202 fun w S φ hg=>?_
 refine F9 ?_;refine KD hg.ok Tryz.underlying245 rfl rfl rfl (af ?_);refine oS ?_;refine acd hg.ok Tryz.underlying245 Tryz.underlying270 hj (by rw[hjs];decide) rfl (by show 0<2;omega) rfl rfl rfl rfl (af ?_);refine ahN hg.ok ama rfl rfl (af ?_);refine TE hg.ok Tryz.underlying270 Tryz.underlying245 hj rfl cX rfl rfl rfl rfl (af ?_);refine B9 hg.ok rfl rfl rfl rfl rfl rfl rfl rfl (by show 0+0+1≤2;omega) (af ?_);exact l3 hg 2 5 (by show (2:Nat)≤2;omega) rfl rfl rfl

theorem KF (Y:YP)(s:Nat)(bs:List UInt8):aU Tryz.prog Y 202 [.lo 0 0] [.gM 249 [.lo 0 0,.ow 1 s],.qe 5 s bs] (.cH []) [.gM 249 [.lo 0 0,.ow 1 s],.qe 5 s bs]:=by
 obtain⟨j,z,hj,hz,hjs,hjb,_⟩:=(gK 247 _ rfl).info;refine mH5 Tryz.func202 fun w S φ hg=>?_
 refine F9 ?_;refine Pw hg.ok Tryz.underlying245 rfl rfl rfl (af ?_);refine gu ?_;refine F9 ?_;refine TD hg.ok Tryz.underlying245 hj rfl rfl rfl rfl (af ?_);refine gu ?_;exact l3 hg 2 5 (by show (2:Nat)≤2;omega) rfl rfl rfl

theorem Ca (Y:YP)(s:Nat)(x:AV)(bs:List UInt8)(hx:x=.lo 0 0∨x=.d (.v (.pointer none))):aU Tryz.prog Y 161 [.lo 0 0] [.gM 249 [x,.ow 1 s],.qe 5 s bs] (iV bs.length) [.gM 249 [x,.ow 1 s],.qe 5 s bs]:=by
 rcases hx with rfl |rfl
 ·refine uw Tryz.func161 fun w S φ hg=>?_
  refine F9 ?_;refine VQ ?_;exact IP
 ·refine uw Tryz.func161 fun w S φ hg=>?_
  refine F9 ?_;refine VQ ?_;exact IP

theorem KG (Y:YP)(s s1:Nat)(bs:List UInt8)(t:ByteArray)(hs:s<s1)(tJ:bs.length+t.size≤140737488355328):aU Tryz.prog Y 190 [.lo 0 0,.d (.v (.string t))] [.gM 249 [.d (.v (.pointer none)),.ow 1 s],.qe 5 s bs] (.cH [iV t.size,.d (.v .nilIface)]) [.gM 249 [.lo 0 0,.ow 1 s1],.qe 5 s1 (bs++t.data.toList)]:=by
 obtain⟨j,z,hj,hz,hjs,hjb,hjz⟩:=(gK 5 _ rfl).info
 have hz':j.zero=some (.int .u8 0):=by
  have h:(Tryz.prog.info? 5).bind (·.zero)=some (.int .u8 0):=by kernel_rfl
  rw[hj]at h;exact h
 refine uw Tryz.func190 fun w S φ hg=>?_
 refine ai hg.ok hg.cm hg.wide hg.Y [0,1] [.gM 249 [.lo 0 0,.ow 1 s],.qe 5 s bs] (KE Y s bs) cF rfl rfl rfl rfl rfl rfl rfl rfl (af ?_);refine F9 ?_;refine ad4 ?_;refine B9 hg.ok rfl rfl rfl rfl rfl rfl rfl rfl (by show 0+1+1≤2;omega) (af ?_);exact IP

theorem KH (Y:YP)(s s1:Nat)(bs:List UInt8)(t:ByteArray)(hs:s<s1)(tJ:bs.length+t.size≤140737488355328):aU Tryz.prog Y 190 [.lo 0 0,.d (.v (.string t))] [.gM 249 [.lo 0 0,.ow 1 s],.qe 5 s bs] (.cH [iV t.size,.d (.v .nilIface)]) [.gM 249 [.lo 0 0,.ow 1 s1],.qe 5 s1 (bs++t.data.toList)]:=by
 obtain⟨j,z,hj,hz,hjs,hjb,hjz⟩:=(gK 5 _ rfl).info
 have hz':j.zero=some (.int .u8 0):=by
  have h:(Tryz.prog.info? 5).bind (·.zero)=some (.int .u8 0):=by kernel_rfl
  rw[hj]at h;exact h
 refine uw Tryz.func190 fun w S φ hg=>?_
 refine ai hg.ok hg.cm hg.wide hg.Y [0,1] [.gM 249 [.lo 0 0,.ow 1 s],.qe 5 s bs] (KF Y s bs) cF rfl rfl rfl rfl rfl rfl rfl rfl (af ?_);refine F9 ?_;refine ad4 ?_;refine B9 hg.ok rfl rfl rfl rfl rfl rfl rfl rfl (by show 0+1+1≤2;omega) (af ?_);exact IP

theorem KI (Y:YP)(x:AV)(s:Nat)(bs:List UInt8)(hx:x=.lo 0 0∨x=.d (.v (.pointer none)))(h0:bs≠[])(h63:bs.length≤9223372036854775807):aU Tryz.prog Y 162 [.lo 0 0] [.gM 249 [x,.ow 1 s],.qe 5 s bs] (.d (.v (.string ⟨bs.toArray⟩))) [.gM 249 [x,.ow 1 s],.dead]:=by
 have hc:Tryz.prog.cellsOf 5=1:=by kernel_rfl
 rcases hx with rfl |rfl
 all_goals
  refine uw Tryz.func162 fun w S φ hg=>?_
  refine F9 ?_;refine ahO hg.ok rfl rfl rfl rfl h0 (af ?_);refine F9 ?_;refine VQ ?_;refine ahP hg.ok Tryz.underlying262 hc rfl rfl rfl rfl rfl rfl h0 h63 (af ?_);exact IP
end Go.Proofs.YtaagocopollacaaGreatDoor

namespace Go.Proofs.YtaagocopollacaaGreatDoor
open Go aw Go.Proofs

variable{S:Nat→Prop}{bL:List Value}{w:World}
theorem ahS(h:gx Tryz.prog S w):Lib.TabIs Tryz.prog w "internal/strconv.uint64pow10" .u64 Lib.pow10Tab:=by
 have hn:∃i,Tryz.prog.globalNamed "internal/strconv.uint64pow10" = some i:=aa9.1 cX;obtain⟨i,hi⟩:=hn;obtain⟨_,o,ho,_,h1,_⟩:=h _ (.inl rfl) i hi;obtain⟨e,k,rfl⟩:=h1 rfl;simp only[Lib.TabIs,World.var?,hi,aa6,ho];rfl

theorem Ym(h:gx Tryz.prog S w):∃ (i:Nat) (m:Int),Tryz.prog.globalNamed "internal/bytealg.MaxLen" = some i∧w.cell? ⟨i,0,none⟩=some (.int .i64 m):=by
 have hn:∃i,Tryz.prog.globalNamed "internal/bytealg.MaxLen" = some i:=aa9.1 cX;obtain⟨i,hi⟩:=hn;obtain⟨_,o,ho,_,_,h1⟩:=h _ (.inr rfl) i hi;obtain⟨m,e,k,rfl⟩:=h1 rfl;exact⟨i,m,hi,by simp[World.cell?,ho]⟩

theorem amc{x:Value}(h:aW S w [] [.d (.v x)] bL):bL=[x]:=by
 match bL,h with
 |[v],h=>simp only[aW,RV,and_true]at h;cases h;rfl
 |[],h=>simp[aW]at h
 |_::_::_,h=>simp[aW]at h

theorem Q4(n:Int)(h0:-9223372036854775808≤n)(h1:n≤9223372036854775807):bD Tryz.prog 173 [iV n] (.d (.v (.string ⟨(Lib.itoa n).toArray⟩))):=by
 refine⟨iJ Tryz.func173 rfl cX,fun S w bL ha SL hv=>?_⟩;rw[amc hv];refine(Tryz.strconv_Itoa n h0 h1 w (ahS ha)).mono ?_;rintro e w' ⟨rfl,k,os,rfl⟩;exact⟨_,rfl,by simp only[RV];exact .v _,⟨rfl,rfl,rfl,by show w.heap.size≤(w.heap++os).size;simp,fun b hb=>by show (w.heap++os)[b]? = _;exact Array.getElem?_append_left hb⟩⟩

theorem amd{x y:Value}(h:aW S w [] [.d (.v x),.d (.v y)] bL):bL=[x,y]:=by
 match bL,h with
 |[v,u],h=>simp only[aW,RV,and_true]at h;obtain⟨h1,h2⟩:=h;cases h1;cases h2;rfl
 |[],h=>simp[aW]at h
 |[_],h=>simp[aW]at h
 |_::_::_::_,h=>simp[aW]at h

theorem ame{x y z:Value}(h:aW S w [] [.d (.v x),.d (.v y),.d (.v z)] bL):bL=[x,y,z]:=by
 match bL,h with
 |[v,u,t],h=>simp only[aW,RV,and_true]at h;obtain⟨h1,h2,h3⟩:=h;cases h1;cases h2;cases h3;rfl
 |[],h=>simp[aW]at h
 |[_],h=>simp[aW]at h
 |[_,_],h=>simp[aW]at h
 |_::_::_::_::_,h=>simp[aW]at h

theorem KJ(s t:ByteArray)(hs:s.size<4294967281):bD Tryz.prog 204 [.d (.v (.string s)),.d (.v (.string t))] (.d (.v (.bool (Lib.contains s.data.toList t.data.toList)))):=by
 refine⟨iJ Tryz.func204 rfl cX,fun S w bL ha SL hv=>?_⟩;rw[amd hv];obtain⟨i,m,hi,hm⟩:=Ym ha;have h0:Tryz.prog.globalNamed "internal/bytealg.MaxLen" = some 1:=by kernel_rfl
 rw[h0]at hi;cases hi;refine(Tryz.strings_Contains s t m w hs hm).mono ?_;rintro e w' ⟨rfl,rfl⟩;exact⟨_,rfl,by simp only[RV];exact .v _,.refl _ _⟩

theorem D2(s Vj new:ByteArray)(hs:s.size<4294967281)(h1:1≤Vj.size)(aZ:s.size+Lib.countB s Vj * new.size≤140737488355328):bD Tryz.prog 194 [.d (.v (.string s)),.d (.v (.string Vj)),.d (.v (.string new))] (.d (.v (.string ⟨(Lib.replaceAll s.data.toList Vj.data.toList new.data.toList).toArray⟩))):=by
 refine⟨iJ Tryz.func194 rfl cX,fun S w bL ha SL hv=>?_⟩;rw[ame hv];obtain⟨i,m,hi,hm⟩:=Ym ha;have h0:Tryz.prog.globalNamed "internal/bytealg.MaxLen" = some 1:=by kernel_rfl
 rw[h0]at hi;cases hi;refine(Tryz.strings_ReplaceAll s Vj new m w hs hm h1 aZ).mono ?_;rintro e w' ⟨rfl,hb⟩;exact⟨_,rfl,by simp only[RV];exact .v _,hb⟩
end Go.Proofs.YtaagocopollacaaGreatDoor

namespace Go.Proofs.YtaagocopollacaaGreatDoor
open Go aw Go.Proofs

def oZ (bs:Bs):List Ob:=wrO (!bs.isEmpty) bs

theorem ace {f:AV→AV}(h0:f (.lo 0 0)=.lo 0 0)(h1:f (.d (.v (.pointer none)))=.d (.v (.pointer none)))(h2:∀s,f (.ow 1 s)=.ow 1 s)(bs:Bs):(oZ bs).map (aQ f)=oZ bs:=by
 cases bs<;>simp[oZ,wrO,aQ,h0,h1,h2]
theorem Vv (o:List Ob)(bs:Bs):(oZ bs).map (aQ (bQ false 2 o 5))=oZ bs:=ace rfl rfl cF bs

theorem mx (f:Nat→Nat)(h0:f 0=0)(h1:f 1=1)(bs:Bs):(oZ bs).map (bz f)=oZ bs:=by
 cases bs<;>simp[oZ,wrO,bz,c8,iu,h0,h1]

theorem wK {bs:Bs}(h:bs≠[]):oZ bs=[.gM 249 [.lo 0 0,.ow 1 bs.length],.qe 5 bs.length bs]:=by
 cases bs with
 |nil=>exact absurd rfl h
 |cons c r=>rfl

theorem TH (Y:YP)(bs:Bs):aU Tryz.prog Y 161 [.lo 0 0] (oZ bs) (iV bs.length) (oZ bs):=by
 by_cases h:bs=[]
 ·subst h;exact Ca Y 0 _ [] (.inr rfl)
 ·rw[wK h];exact Ca Y _ _ bs (.inl rfl)

theorem KK (Y:YP)(bs s:Bs)(hs:s≠[])(tJ:bs.length+s.length≤140737488355328):aU Tryz.prog Y 190 [.lo 0 0,.d (.v (.string (Tx s)))] (oZ bs) (.cH [iV s.length,.d (.v .nilIface)]) (oZ (bs++s)):=by
 have Gt:0<s.length:=by cases s with
  |nil=>exact absurd rfl hs
  |cons c r=>simp
 have eo:bs++s≠[]:=by simp[hs]
 rw[wK eo,List.length_append];have ht:(Tx s).data.toList=s:=by simp[Tx]
 have hz:((Tx s).size:Int)=s.length:=by rw[jM]
 by_cases h:bs=[]
 ·subst h;have:=KG Y 0 (0+s.length) [] (Tx s) an (by rw[jM];simpa using tJ);rw[ht,hz]at this;exact this
 ·rw [wK h];have:=KH Y bs.length (bs.length+s.length) bs (Tx s) an (by rw[jM];exact tJ);rw[ht,hz]at this;exact this

theorem ju (Y:YP)(bs s:Bs)(hs:s≠[])(hl:s.length≤1000000000):aU Tryz.prog Y 172 [.lo 0 0,.d (.v (.string (Tx s)))] (oZ bs) (.cH []) (oZ (kl bs s)):=by
 refine uw Tryz.func172 fun w S φ hg=>?_
 refine ai hg.ok hg.cm hg.wide hg.Y [0,1] (oZ bs) (TH Y bs) cF rfl rfl rfl rfl rfl yL rfl yL (af ?_);refine aj (fun h=>?_) fun h=>?_
 ·have hle:bs.length≤8000:=by have:=of_decide_eq_true h; omega
  rw[show kl bs s=bs++s by unfold kl;rw[if_pos hle]];refine ai hg.ok hg.cm hg.wide hg.Y [0,1] (oZ (bs++s)) (KK Y bs s hs an) cF rfl rfl rfl rfl rfl yL rfl yL (af ?_);exact Az
 ·have hle:¬ bs.length≤8000:=by have:=of_decide_eq_false h; omega
  rw[show kl bs s=bs by unfold kl;rw[if_neg hle]];exact Az
end Go.Proofs.YtaagocopollacaaGreatDoor

namespace aw
open Go

theorem acf (s:Bs):(39 ∉ s∧Lib.index s [39]=-1)∨∃a r,s=a++39::r∧39 ∉ a∧Lib.index s [39]=a.length:=by
 induction s with
 |nil=>left;exact⟨by simp,rfl⟩
 |cons b l ih =>
  by_cases hb:b=39
  ·subst hb;exact .inr ⟨[],l,rfl,by simp,by simp[Lib.index,List.isPrefixOf]⟩
  ·have hp:([39]:Bs).isPrefixOf (b::l)=false:=by simp [List.isPrefixOf] <;> exact fun e=>hb e.symm
   rcases ih with ⟨h1,h2⟩ |⟨a,r,h1,h2,h3⟩
   ·exact .inl ⟨fun hm=>(eL.1 hm).elim (fun e=>hb e.symm) h1,by simp[Lib.index,hp,h2]⟩
   ·refine .inr ⟨b::a,r,by rw [h1]; rfl,by simp [h2] <;> exact fun e=>hb e.symm,?_⟩;have:¬ ((a.length:Int) == -1)=true:=by simp<;>omega
    simp only[Lib.index,hp,h3,lL,if_false,this,dv];omega
theorem Yn (a b:Bs):qz (a++b)=qz a++qz b:=by simp[qz]

theorem Q5 {a:Bs}(h:39 ∉ a):qz a=a:=by
 induction a with
 |nil=>rfl
 |cons c r ih =>
  simp only[eL,not_or]at h;have h1:¬ c=39:=fun e=>h.1 e.symm
  simp only[qz,List.flatMap_cons]at ih ⊢;rw[ih h.2,if_neg h1];rfl

theorem NN:∀ (n:Nat) (s:Bs) (f:Nat),s.length≤n→s.length<f→Lib.replaceK [39] [39,39] (Lib.countFrom [39] f s) s=qz s:=by
 intro n;induction n with
 |zero =>
  intro s f h hf;have:s=[]:=Wg an;subst this;cases f with
  |zero=>simp at hf
  |succ f=>rfl
 |succ n ih =>
  intro s f h hf;cases f with
  |zero=>omega
  |succ f =>
   rcases acf s with ⟨h1,h2⟩ |⟨a,r,h1,h2,h3⟩
   ·rw[Lib.countFrom,h2,Q5 h1];rfl
   ·have eo:¬ (Lib.index s [39] == -1)=true:=by rw [h3]; simp <;> omega
    have hl:s.length=a.length+(r.length+1):=by rw[h1];simp
    rw[Lib.countFrom,if_neg eo,Nat.add_comm 1,Lib.replaceK_hit _ _ _ s a.length h3,h3]
    have hd:s.drop (a.length+([39]:Bs).length)=r:=by
     rw[h1];simp[List.drop_append,gD]
    have ht:s.take a.length=a:=by rw[h1];simp
    simp only[vM];rw[hd,ht,ih r f an an,h1,Yn,Q5 h2];simp[qz]

theorem Hb:∀ (f:Nat) (s:Bs),Lib.countFrom [39] f s≤f:=by
 intro f;induction f with
 |zero=>intro s;simp[Lib.countFrom]
 |succ f ih =>
  intro s;rw[Lib.countFrom];split
  ·omega
  ·have:=ih (s.drop ((Lib.index s [39]).toNat+([39]:Bs).length));omega

theorem Hc (s:Bs):Lib.replaceAll s [39] [39,39]=qz s:=by
 rw[Lib.replaceAll,Lib.replace,if_neg fi,Lib.replaceNum,if_pos (.inl fi),Lib.count];exact NN s.length s _ cP an
theorem acg (s:Bs):Lib.count s [39]≤s.length+1:=Hb _ _
end aw
namespace aw
open Go
end aw
namespace aw
open Go
end aw

namespace Go.Proofs.YtaagocopollacaaGreatDoor
open Go aw Go.Proofs
def TI (L:Bs):AV:=.d (.v (.string (Tx L)))
theorem ahT {a b:Bool}(h:a=true↔b=true):bV a=bV b:=by rw[vK.2 h]
theorem bvF {b:Bool}(h:b=false):AV.d (.v (.bool false))=bV b:=by rw[h];rfl

theorem decode_ascii {L:Bs}{i:Nat}{c:UInt8}(h:L[i]? = some c)(hc:c.toNat<128):Utf8.decode (Tx L) i=(c.toNat,1):=by
 have hl:=(bC.1 h).1
 have e:(Tx L).get! (i+0)=c:=by
  show (Tx L).data[i]! = c
  have:=(bC.1 h).2;simp[Tx,hl,this]
 unfold Utf8.decode;simp only[e];rw[if_pos an]

theorem TJ (L:Bs)(hL:∀c∈L,c.toNat<128):bD Tryz.prog 192 [TI L] (bV (pN L)):=by
 refine zp Tryz.func192 fun w S hg=>?_
 refine Bt hg.ok rfl rfl rfl rfl (af ?_);refine bh (fun k:Nat=>([(0,TI L),(8,.lo 0 0)],[.Ik (Tx L) k])) (fun k=>k≤L.length∧pN L=wlB L k) (fun k=>L.length - k) 0 ⟨cT _,rfl⟩ My rfl ?_;rintro k ⟨hk,hm⟩;refine af ?_;by_cases aR:k<L.length
 ·have e1:L[k]? = some L[k]:=dY aR;have ha:L[k].toNat<128:=hL _ (eg aR);refine GW hg.ok rfl rfl rfl rfl (by rw[jM];exact aR) (decode_ascii e1 ha) ?_;generalize L[k]=c at e1 ha;refine af ?_
  repeat' (refine qY rfl rfl (fun h=>?_) (fun h=>?_)<;>(first |have h:=of_decide_eq_true h |have h:=of_decide_eq_false h |(simp at h;done) |simp at h |skip)<;>refine er hg.ok rfl rfl ?_)
  all_goals first
   |(refine Ay hg 5 rfl rfl ?_;exact bvF (al7 e1 hm PR PR))
   |exact bp (k+1) ⟨aR,aca e1 hm PR PR⟩ an My rfl
 ·refine GX hg.ok rfl rfl rfl rfl (by rw [jM]; omega) (af ?_);refine cq ?_;rw[ahJ an hm];exact ahT (by rw[show ({ data:=#[] }:ByteArray)=Tx [] from rfl,BZ])

theorem Hd (c:UInt8)(hc:c.toNat<128):Lib.contains sgW (Utf8.encode (c.toNat:Int)).data.toList=NJ c:=by
 have h:=Yg (p:=fun c=>!decide (c.toNat<128) || (Lib.contains sgW (Utf8.encode (c.toNat:Int)).data.toList==NJ c)) (by decide +kernel) c;simpa[hc]using h

theorem TK (L:Bs)(hL:∀c∈L,c.toNat<128):bD Tryz.prog 193 [TI L] (bV (Ks L)):=by
 refine zp Tryz.func193 fun w S hg=>?_
 refine Bt hg.ok rfl rfl rfl rfl (af ?_);refine bh (fun k:Nat=>([(0,TI L),(6,.lo 0 0)],[.Ik (Tx L) k])) (fun k=>k≤L.length∧L.all NJ=(L.drop k).all NJ) (fun k=>L.length - k) 0 ⟨cT _,rfl⟩ My rfl ?_;rintro k ⟨hk,hm⟩;refine af ?_;by_cases aR:k<L.length
 ·have e1:L[k]? = some L[k]:=dY aR;have ha:L[k].toNat<128:=hL _ (eg aR);rw[List.drop_eq_getElem_cons aR,rE]at hm;refine GW hg.ok rfl rfl rfl rfl (by rw[jM];exact aR) (decode_ascii e1 ha) ?_;generalize L[k]=c at e1 ha hm;refine af ?_;refine QL hg.ok (Utf8.encode (c.toNat:Int)) rfl rfl rfl rfl rfl rfl (af ?_);refine aF (KJ (Tx sgW) (Utf8.encode (c.toNat:Int)) fi) ?_;rw[show (Tx sgW).data.toList=sgW from rfl,Hd c ha];refine aj (fun h=>?_) fun h=>?_
  ·refine cq ?_;have h:NJ c=false:=by simpa using h
   exact bvF (by rw[Ks,hm,h];simp)
  ·have h:NJ c=true:=by simpa using h
   exact bp (k+1) ⟨aR,by rw[hm,h,jX]⟩ an My rfl
 ·refine GX hg.ok rfl rfl rfl rfl (by rw [jM]; omega) (af ?_);refine cq ?_;rw[gD an]at hm;exact ahT (by rw[show ({ data:=#[] }:ByteArray)=Tx [] from rfl,BZ,Ks,hm];cases L<;>rfl)

theorem TL (L:Bs)(hL:∀c∈L,c.toNat<128)(hl:L.length≤1000000):bD Tryz.prog 176 [TI L] (TI (pO L)):=by
 refine oY Tryz.func176 fun w S hg=>?_
 refine aF (TJ L hL) ?_;have e1:bE (Tx L) ⟨#[33]⟩=(L==[33]):=BZ L [33];have e2:bE (Tx L) ⟨#[59]⟩=(L==[59]):=BZ L [59];have e3:bE (Tx L) ⟨#[91,93]⟩=(L==[91,93]):=BZ L [91,93];refine aj (fun h=>?_) fun h=>?_
 ·refine cq ?_;rw[pO,if_pos (by simp[rS,h])];rfl
 refine aF (TK L hL) ?_;refine aj (fun h2=>?_) fun h2=>?_
 ·refine cq ?_;rw[pO,if_pos (by simp[rS,h2])];rfl
 refine aj (fun h3=>?_) fun h3=>?_
 ·refine cq ?_;rw[e1]at h3;rw[pO,if_pos (by simp[rS,h3])];rfl
 refine aj (fun h4=>?_) fun h4=>?_
 ·refine cq ?_;rw[e2]at h4;rw[pO,if_pos (by simp[rS,h4])];rfl
 refine aj (fun h5=>?_) fun h5=>?_
 ·refine cq ?_;rw[e3]at h5;rw[pO,if_pos (by simp[rS,h5])];rfl
 rw[e1]at h3;rw[e2]at h4;rw[e3]at h5;have TM:=acg L;refine aF (D2 (Tx L) (Tx [39]) (Tx [39,39]) (by rw[jM];omega) fi (by rw[jM];show L.length+Lib.count (Tx L).data.toList [39] * 2≤_;rw[show (Tx L).data.toList=L by simp[Tx]];omega)) ?_;rw[show (Tx L).data.toList=L by simp[Tx],show (Tx [39]).data.toList=[39] from rfl,show (Tx [39,39]).data.toList=[39,39] from rfl,Hc];have QD:=Ku L;refine Br hg.ok (Tx (39::qz L)) rfl rfl rfl rfl (by rw[show (⟨(qz L).toArray⟩:ByteArray)=Tx (qz L) from rfl,jM];show 1+_≤_;omega) (NH [39] (qz L)) (af ?_);refine Br hg.ok (Tx (39::(qz L++[39]))) rfl rfl rfl rfl (by rw[jM];show _+1≤_;simp only[dv];omega) ((NH (39::qz L) [39]).trans (by rw[jj])) (af ?_);refine cq ?_;rw[pO,if_neg (by simp[rS,h,h2,h3,h4,h5])];rfl

theorem Ft (t:Tm):bD Tryz.prog 174 [t.av] (bV (iM t)):=by
 have e1:bE t.s ⟨#[46]⟩=(t.s.data.toList==[46]):=by
  have:=BZ t.s.data.toList [46];rw[G9]at this;exact this
 have kQ:=Tm.au t.l;refine oY Tryz.func174 fun w S hg=>?_
 refine aj (fun h=>?_) fun h=>?_
 ·have h:=of_decide_eq_true h;refine aj (fun h2=>?_) fun h2=>?_
  ·refine cq ?_;rw[e1]at h2;have hk:decide (t.k=3)=true:=decide_eq_true h;exact ahT (by rw[iM,wI,hk,h2,jX,jX,kQ];by_cases h9:t.l.length=2<;>simp[h9]<;>omega)
  ·refine cq ?_;rw[e1]at h2;exact bvF (by rw[iM,wI,h2,Bool.and_false,vO])
 ·have h:=of_decide_eq_false h;refine cq ?_;exact bvF (by rw[iM,wI,decide_eq_false h,vO,vO])
def yI (t:Tm):Ob:=.box [iV t.k,.d (.v (.string t.s)),iV t.n,.d (.sl (Tm.aa t.l))]
def WrT (t:Tm):Prop:=∀ (Y:YP) (bs:Bs),aU Tryz.prog Y 160 [.lo 0 0,t.av] (oZ bs) (.cH []) (oZ (fC bs (uz t)))
def WrL (t:Tm):Prop:=∀ (Y:YP) (bs:Bs),aU Tryz.prog Y 175 [.lo 0 0,t.av] (oZ bs) (.cH []) (oZ (fC bs (uz t)))

theorem TN (b:Bs)(x y:Tm):((oZ b++[yI x,yI y]).take 3).map (aQ (dA 3))=oZ b++[yI x]:=by
 cases b<;>rfl

theorem NO (t:Tm)(ho:Kz t)(Cb:iM t=true→WrL t)(fH:∀x∈t.l,WrT x):WrT t:=by
 intro Y bs;obtain⟨ha,hl,h0,h1,qP,_⟩:=ho;have kQ:=Tm.au t.l;have hi:=KA t.n h0 h1;refine uw Tryz.func160 fun w S φ hg=>?_
 refine aj (fun h=>?_) fun h=>?_
 ·have h:=of_decide_eq_true h;have hc:iM t=false:=by rw[iM,wI,h];rfl
  rw[rU hc,B5,if_pos h,dU,ln];refine aF (Q4 t.n h0 h1) ?_;refine Br hg.ok (Tx (95::Lib.itoa t.n)) rfl rfl rfl rfl (by rw[show (⟨(Lib.itoa t.n).toArray⟩:ByteArray)=Tx (Lib.itoa t.n) from rfl,jM];show 1+_≤_;omega) (NH [95] (Lib.itoa t.n)) (af ?_);refine ai hg.ok hg.cm hg.wide hg.Y [0,1] (oZ (kl bs (95::Lib.itoa t.n))++[yI t]) (ju Y bs _ aC agi) cF rfl rfl rfl rfl rfl yL rfl yL (af ?_);exact Az
 have h:=of_decide_eq_false h;refine aj (fun h2=>?_) fun h2=>?_
 ·have h2:=of_decide_eq_true h2;have hc:iM t=false:=by rw[iM,wI,h2];rfl
  rw[rU hc,B5,if_neg h,if_pos h2,dU,ln];refine aF (Q4 t.n h0 h1) ?_;refine ai hg.ok hg.cm hg.wide hg.Y [0,1] (oZ (kl bs (Lib.itoa t.n))++[yI t]) (ju Y bs _ hi.2 an) cF rfl rfl rfl rfl rfl yL rfl yL (af ?_);exact Az
 have h2:=of_decide_eq_false h2;refine aF (Ft t) ?_;refine aj (fun h3=>?_) fun h3=>?_
 ·refine ai hg.ok hg.cm hg.wide hg.Y [0,1] (oZ (fC bs (uz t))++[yI t]) (Cb h3 Y bs) cF rfl rfl rfl rfl rfl (by rw [mx _ rfl rfl]; rfl) rfl (by rw [mx _ rfl rfl]; rfl) (af ?_);exact Az
 rw[rU h3,B5,if_neg h,if_neg h2,dU];have hn:=TL t.s.data.toList ha an;rw[show TI t.s.data.toList=.d (.v (.string t.s)) by rw[TI,G9]]at hn;have SP:=Tu t.s.data.toList;refine aF (hn) ?_;generalize Q2:kl bs (pO t.s.data.toList)=b1;refine ai hg.ok hg.cm hg.wide hg.Y [0,1] (oZ b1++[yI t]) (Q2 ▸ ju Y bs _ (Kt _) an) cF rfl rfl rfl rfl rfl yL rfl yL (af ?_);refine bh (fun q:Nat × Bs=>([(0,.lo 0 0),(3,.lo 2 0),(12,.d (.sl (Tm.aa t.l))),(13,iV t.l.length),(14,iV q.1)],oZ q.2++[yI t])) (fun q=>q.1≤t.l.length∧fC q.2 (lH (q.1==0) (t.l.drop q.1))=fC b1 (lH true t.l)) (fun q=>t.l.length - q.1) (0,b1) ⟨cT _,rfl⟩ ⟨.refl _,.refl _,.refl _,by rw[kQ];exact .refl _,.refl _,trivial⟩ rfl ?_;rintro⟨k,b⟩ ⟨hk,hm⟩;simp only at hk hm;refine af ?_;refine aj (fun h=>?_) fun h=>?_
 ·have aR:k<t.l.length:=bK h rfl;have e1:t.l[k]? = some t.l[k]:=dY aR;refine cW (Tm.aB e1) ?_;refine ae0 hg.ok rfl rfl rfl rfl ?_;have ahU:min (k:Int) 1=((if k=0 then 0 else 1:Nat):Int):=by split<;>omega
  rw[ahU];refine af ?_
  have jE:([[D.v (.string ⟨#[40]⟩)],[D.v (.string ⟨#[44]⟩)]]:List (List D))[if k=0 then 0 else 1]? = some [D.v (.string (Tx (if k==0 then [40] else [44])))]:=by
   by_cases h0:k=0<;>simp[h0]<;>rfl
  refine cW jE ?_;have hp0:(if k==0 then [40] else [44]:Bs)≠[]:=by split<;>simp
  have x7:(if k==0 then [40] else [44]:Bs).length≤1000000000:=by split<;>simp
  rw[NL b _ e1,dU,ll]at hm;refine ai hg.ok hg.cm hg.wide hg.Y [0,1] (oZ (kl b (if k==0 then [40] else [44]))++[yI t,yI t.l[k]]) (ju Y b _ hp0 x7) cF rfl rfl rfl rfl rfl yL rfl yL (af ?_);refine ai hg.ok hg.cm hg.wide hg.Y [0,1] (oZ (fC (kl b (if k==0 then [40] else [44])) (uz t.l[k]))++[yI t,yI t.l[k]]) (fH _ (eg aR) Y _) cF rfl rfl rfl rfl rfl yL rfl yL (af ?_);refine bb 3 (oZ (fC (kl b (if k==0 then [40] else [44])) (uz t.l[k]))++[yI t]) (by show φ.length≤3;exact Nat.le_succ_of_le (Nat.le_of_eq hg.j5.len)) rfl (TN _ t t.l[k]) ?_;refine bp (k+1,fC (kl b (if k==0 then [40] else [44])) (uz t.l[k])) ⟨aR,?_⟩ (by show t.l.length - (k+1)<t.l.length - k;omega) IV rfl;rw[← hm];rfl
 have oz:t.l.length≤k:=cf h rfl;rw[gD oz,lH,ln]at hm;rw[ll,← hm];refine aj (fun h5=>?_) fun h5=>?_
 ·have h5:=of_decide_eq_true h5;have he:t.l.isEmpty=false:=by cases hc:t.l with
   |nil=>rw[kQ,hc]at h5;simp at h5
   |cons c r=>rfl
  rw[he];refine ai hg.ok hg.cm hg.wide hg.Y [0,1] (oZ (kl b [41])++[yI t]) (ju Y b [41] aC aC) cF rfl rfl rfl rfl rfl yL rfl yL (af ?_);exact Az
 ·have h5:=of_decide_eq_false h5;have he:t.l.isEmpty=true:=by cases hc:t.l with
   |nil=>rfl
   |cons c r=>rw[kQ,hc]at h5;simp at h5<;>omega
  rw[he];exact Az

theorem NP (t:Tm)(ho:Kz t)(hc:iM t=true)(fH:∀x,Kz x→x.size<t.size→WrT x):WrL t:=by
 intro Y bs;obtain⟨a,b,hl⟩:=Ha hc;have Gx:∀x∈t.l,Kz x:=by cases ho;assumption
 have hsz:∀x∈t.l,x.size<t.size:=fun x hx=>by have:=Tm.ct hx;rw[Tm.size_eq t];omega
 rw[Kx hc hl,dU,ll];have e0:t.l[0]? = some a:=by rw[hl];rfl
 have e1:t.l[1]? = some b:=by rw[hl];rfl
 have ma:a∈t.l:=by rw[hl];simp
 have mb:b∈t.l:=by rw[hl];simp
 refine uw Tryz.func175 fun w S φ hg=>?_
 refine ai hg.ok hg.cm hg.wide hg.Y [0,1] (oZ (kl bs [91])++[yI t]) (ju Y bs [91] aC aC) cF rfl rfl rfl rfl rfl yL rfl yL (af ?_);refine dN hg.ok rfl rfl rfl rfl rfl rfl (gP _) (Tm.aB e0) rfl (af ?_);refine ai hg.ok hg.cm hg.wide hg.Y [0,1] (oZ (fC (kl bs [91]) (uz a))++[yI t]) (fH a (Gx a ma) (hsz a ma) Y _) cF rfl rfl rfl rfl rfl yL rfl yL (af ?_);refine dN hg.ok rfl rfl rfl rfl rfl rfl fi (Tm.aB e1) rfl (af ?_);generalize Q2:fC (kl bs [91]) (uz a)=b1;refine bh (fun q:Tm × Bs=>([(0,.lo 0 0),(3,.lo 2 0)],oZ q.2++[yI q.1])) (fun q=>Kz q.1∧q.1.size<t.size∧fC q.2 (rT q.1)=fC b1 (rT b)) (fun q=>q.1.size) (b,b1) ⟨Gx b mb,hsz b mb,rfl⟩ My rfl ?_;rintro⟨x,c⟩ ⟨nQ,Vw,hm⟩;simp only at nQ Vw hm;refine af ?_;refine aF (Ft x) ?_;refine aj (fun h=>?_) fun h=>?_
 ·obtain ⟨a2,b2,j3⟩:=Ha h;have f0:x.l[0]? = some a2:=by rw[j3];rfl
  have f1:x.l[1]? = some b2:=by rw[j3];rfl
  have ma2:a2∈x.l:=by rw[j3];simp
  have mb2:b2∈x.l:=by rw[j3];simp
  have amg:∀y∈x.l,Kz y:=by cases nQ;assumption
  have DP:∀y∈x.l,y.size<x.size:=fun y hy=>by have:=Tm.ct hy;rw[Tm.size_eq x];omega
  rw[NK h j3,dU,ll]at hm;refine ai hg.ok hg.cm hg.wide hg.Y [0,1] (oZ (kl c [44])++[yI x]) (ju Y c [44] aC aC) cF rfl rfl rfl rfl rfl yL rfl yL (af ?_);refine dN hg.ok rfl rfl rfl rfl rfl rfl (gP _) (Tm.aB f0) rfl (af ?_);refine ai hg.ok hg.cm hg.wide hg.Y [0,1] (oZ (fC (kl c [44]) (uz a2))++[yI x]) (fH a2 (amg a2 ma2) (by have:=DP a2 ma2;omega) Y _) cF rfl rfl rfl rfl rfl yL rfl yL (af ?_);refine dN hg.ok rfl rfl rfl rfl rfl rfl fi (Tm.aB f1) rfl (af ?_);exact bp (b2,fC (kl c [44]) (uz a2)) ⟨amg b2 mb2,by have:=DP b2 mb2;show b2.size<t.size;omega,hm⟩ (DP b2 mb2) My rfl
 have hxl:=Tm.au x.l
 have e3:bE x.s ⟨#[91,93]⟩=(x.s.data.toList==[91,93]):=by
  have:=BZ x.s.data.toList [91,93];rw[G9]at this;exact this
 refine aj (fun h5=>?_) fun h5=>?_
 ·have hn:B4 x.k x.s x.l=false:=by simp at h5; simp [B4,h5]
  rw[u4 h hn,dU,ll,dU,ln]at hm;rw[← hm];refine afN ?_;refine afO ?_;refine afM ?_;exact Az
 have k3:x.k=3:=by simp at h5;omega
 refine aj (fun h6=>?_) fun h6=>?_
 ·have hn:B4 x.k x.s x.l=false:=by rw [e3] at h6; simp at h6; simp [B4,h6]
  rw[u4 h hn,dU,ll,dU,ln]at hm;rw[← hm];refine afN ?_;refine afO ?_;refine afM ?_;exact Az
 rw[e3]at h6;refine aj (fun h7=>?_) fun h7=>?_
 ·have hn:B4 x.k x.s x.l=false:=by
   have h7:=of_decide_eq_true h7;rw[hxl]at h7;cases Gp:x.l with
   |nil=>rw[Gp]at h7;simp at h7
   |cons p q=>simp[B4]
  rw[u4 h hn,dU,ll,dU,ln]at hm;rw[← hm];refine afN ?_;refine afO ?_;refine afM ?_;exact Az
 have hn:B4 x.k x.s x.l=true:=by
  have h7:=of_decide_eq_false h7;rw[hxl]at h7;cases Gp:x.l with
  |nil=>simp at h6;simp[B4,k3,h6]
  |cons p q=>rw[Gp]at h7;simp at h7<;>omega
 rw[Tv h hn,dU,ln]at hm;rw[← hm];refine ai hg.ok hg.cm hg.wide hg.Y [0,1] (oZ (kl c [93])++[yI x]) (ju Y _ [93] aC aC) cF rfl rfl rfl rfl rfl yL rfl yL (af ?_);exact Az

theorem u5:∀ (n:Nat) (t:Tm),t.size≤n→Kz t→WrT t
 |0,t,h,_=>by have:=Tm.size_eq t;omega
 |n+1,t,h,ho=>by
  have Gx:∀x∈t.l,Kz x:=by cases ho;assumption
  refine NO t ho (fun hc=>NP t ho hc fun x hx hs=>u5 n x an hx) fun x hx=>u5 n x (by have:=Tm.ct hx;have:=Tm.size_eq t;omega) (Gx x hx)
theorem TO (t:Tm)(ho:Kz t):WrT t:=u5 _ t cP ho

theorem KL {b:Bs}(h:b≠[]):∀ (l:List Bs),fC b l≠[]
 |[]=>h
 |x::r=>by
  rw[dU];refine KL ?_ r;unfold kl;split
  ·simp[h]
  ·exact h

theorem ahV {t:Tm}(ho:Kz t):∃x r,uz t=x::r∧x≠[]:=by
 obtain⟨ha,hl,h0,h1,hn,_⟩:=ho;have hi:=KA t.n h0 h1;cases hc:iM t
 ·rw [rU hc,B5];split
  ·exact⟨_,_,rfl,by simp⟩
  ·split
   ·exact⟨_,_,rfl,hi.2⟩
   ·exact⟨_,_,rfl,Kt _⟩
 ·obtain ⟨a,b,hl⟩:=Ha hc;rw[Kx hc hl];exact⟨_,_,rfl,by simp⟩

theorem He {t:Tm}(ho:Kz t):fC [] (uz t)≠[]:=by
 obtain⟨x,r,h1,h2⟩:=ahV ho;rw[h1,dU];exact KL (ab8 h2) r

def rV (t:Tm):Bs × Int:=if c0 t then (if (fC [] (uz t)).length≤8000 then (fC [] (uz t),0) else ([],3)) else ([],1)
def amh (b:Bs):List Ob:=[.gM 249 [.lo 1 0,.ow 2 b.length],.qe 5 b.length b]

theorem Hf (t:Tm)(hd:t.size<1000000000)(hs:∀e∈t.gV 1,e.2.s.size<1000000000)(ho:c0 t=true→Kz t):bD Tryz.prog 148 [t.av] (.cH [TI (rV t).1,iV (rV t).2]):=by
 refine zp Tryz.func148 fun w S hg=>?_
 refine aF (eY t hd hs) ?_;refine iD (fun h=>?_) fun h=>?_
 ·refine af ?_;refine cq ?_;rw[rV,if_neg l6];rfl
 have h:c0 t=true:=by simpa using h
 have ho:=ho h;have eo:=He ho;refine gv hg.ok 4 rfl rfl ?_;refine ov ?_;refine ahQ hg.ok rfl rfl rfl ?_;refine vC ?_;refine ahR 1 1 5 rfl rfl rfl (af ?_);refine ai hg.ok hg.cm ⟨rfl,rfl⟩ (fun i l I B h=>by simp[Qn]at h) [1,2] ([yI t]++amh (fC [] (uz t))) (TO t ho ⟨[],fun _=>true⟩ []) (fun ⟨i,l,I,B,h⟩=>by simp[Qn]at h) rfl rfl rfl rfl rfl rfl rfl (by rw[wK eo];rfl) (af ?_);generalize hR:fC [] (uz t)=R at eo;refine ai hg.ok hg.cm ⟨rfl,rfl⟩ (fun i l I B h=>by simp[Qn]at h) [1,2] ([yI t]++amh R) (Ca ⟨[],fun _=>true⟩ R.length (.lo 0 0) R (.inl rfl)) (fun ⟨i,l,I,B,h⟩=>by simp[Qn]at h) rfl rfl rfl rfl rfl rfl rfl rfl (af ?_);refine aj (fun h2=>?_) fun h2=>?_
 ·have h2:=of_decide_eq_true h2;refine cq ?_;rw[rV,if_pos h,hR,if_neg an];rfl
 ·have h2:=of_decide_eq_false h2;refine ai hg.ok hg.cm ⟨rfl,rfl⟩ (fun i l I B h=>by simp[Qn]at h) [1,2] [yI t,.gM 249 [.lo 1 0,.ow 2 R.length],.dead] (KI ⟨[],fun _=>true⟩ (.lo 0 0) R.length R (.inl rfl) eo an) (fun ⟨i,l,I,B,h⟩=>by simp[Qn]at h) rfl rfl rfl rfl rfl rfl rfl rfl (af ?_);refine cq ?_;rw[rV,if_pos h,hR,if_pos an];rfl
end Go.Proofs.YtaagocopollacaaGreatDoor

namespace aw
open Go

theorem ahW (t:Tm):Tm.bw t=true→t.Fit→Kz t:=by
 induction t using Tm.ind with
 |h t ih =>
  intro hf hn;rw[Tm.px]at hf;simp only[aV]at hf;obtain⟨⟨h1,h2⟩,h3⟩:=hf
  have hb:∀c∈t.s.data.toList,c.toNat<128:=fun c hc=>by
   have:=fk.1 h1 c hc;simp[jU]at this;omega
  have hi:=hn 0 (0,t) PM;have fH:∀x∈t.l,Kz x:=fun x hx=>ih x hx (Tm.fN.1 h2 x hx) (Tm.Fit.sub hn hx)
  have Qb:t.s.data.toList.length=t.s.size:=rfl
  have hk:t.s.size≤1000∧t.l.length≤1000000:=by
   unfold Tm.mu at h3;have he:bE t.s ⟨#[]⟩=true→t.s.size=0:=fun h=>by rw[Tm.bo.1 h];rfl
   split at h3
   ·simp only [aV,beq_iff_eq] at h3;have:=he h3.1.2;have:=h3.2;omega
   ·split at h3
    ·simp only [aV,beq_iff_eq] at h3;have:=he h3.1;have:=h3.2;omega
    ·simp only [aV,decide_eq_true_eq] at h3;omega
  exact⟨hb,by omega,hi.2.1,hi.2.2,hk.2,fH⟩
end aw
